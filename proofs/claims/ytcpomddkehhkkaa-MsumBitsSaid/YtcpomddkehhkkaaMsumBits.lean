/- MsumBits: which way any key goes at any height: for every key and every height the law returns true. No condition. -/
import Derived.Test.YtcpomddkehhkkaaBits
import Derived.Deep.DeepFit
namespace Go.Proofs.Ytcpomddkehhkkaa.msumBits
open Go.ChangeShapes Go.WideShapes Go.ChangeAt Go.RowKit
set_option linter.unusedVariables false

def OneMore (v : Value) (w : World) (e : Ending) (w' : World) : Prop := ∃ o, e = .returned v ∧ w' = w.alloc o

theorem k1 : Value.agg #[.int .u8 128, .int .u8 0, .int .u8 0, .int .u8 0, .int .u8 0, .int .u8 0, .int .u8 0, .int .u8 0, .int .u8 0, .int .u8 0, .int .u8 0, .int .u8 0, .int .u8 0, .int .u8 0, .int .u8 0, .int .u8 0, .int .u8 0, .int .u8 0, .int .u8 0, .int .u8 0, .int .u8 0, .int .u8 0, .int .u8 0, .int .u8 0, .int .u8 0, .int .u8 0, .int .u8 0, .int .u8 0, .int .u8 0, .int .u8 0, .int .u8 0, .int .u8 0] = arr (128 :: List.replicate 31 0) := by kernel_rfl
theorem k2 : Value.agg #[.int .u8 0, .int .u8 0, .int .u8 0, .int .u8 0, .int .u8 0, .int .u8 0, .int .u8 0, .int .u8 0, .int .u8 0, .int .u8 0, .int .u8 0, .int .u8 0, .int .u8 0, .int .u8 0, .int .u8 0, .int .u8 0, .int .u8 0, .int .u8 0, .int .u8 0, .int .u8 0, .int .u8 0, .int .u8 0, .int .u8 0, .int .u8 0, .int .u8 0, .int .u8 0, .int .u8 0, .int .u8 0, .int .u8 0, .int .u8 0, .int .u8 0, .int .u8 1] = arr (List.replicate 31 0 ++ [1]) := by kernel_rfl
theorem n1 : ((bitAt (128 :: List.replicate 31 0) (255 : Int).toNat : Nat) : Int) = 1 := by decide
theorem n2 : ((bitAt (List.replicate 31 0 ++ [1]) (0 : Int).toNat : Nat) : Int) = 1 := by decide
theorem c1 (w : World) : Calls Try.prog 6 #[.agg #[.int .u8 128, .int .u8 0, .int .u8 0, .int .u8 0, .int .u8 0, .int .u8 0, .int .u8 0, .int .u8 0, .int .u8 0, .int .u8 0, .int .u8 0, .int .u8 0, .int .u8 0, .int .u8 0, .int .u8 0, .int .u8 0, .int .u8 0, .int .u8 0, .int .u8 0, .int .u8 0, .int .u8 0, .int .u8 0, .int .u8 0, .int .u8 0, .int .u8 0, .int .u8 0, .int .u8 0, .int .u8 0, .int .u8 0, .int .u8 0, .int .u8 0, .int .u8 0], .int .i64 255] w (OneMore (.int .i64 1) w) := by
  rw [k1, ← n1]
  exact (bit_in (128 :: List.replicate 31 0) 255 w rfl (by decide) (by decide)).mono fun _ _ h => ⟨_, h⟩
theorem c2 (w : World) : Calls Try.prog 6 #[.agg #[.int .u8 0, .int .u8 0, .int .u8 0, .int .u8 0, .int .u8 0, .int .u8 0, .int .u8 0, .int .u8 0, .int .u8 0, .int .u8 0, .int .u8 0, .int .u8 0, .int .u8 0, .int .u8 0, .int .u8 0, .int .u8 0, .int .u8 0, .int .u8 0, .int .u8 0, .int .u8 0, .int .u8 0, .int .u8 0, .int .u8 0, .int .u8 0, .int .u8 0, .int .u8 0, .int .u8 0, .int .u8 0, .int .u8 0, .int .u8 0, .int .u8 0, .int .u8 1], .int .i64 0] w (OneMore (.int .i64 1) w) := by
  rw [k2, ← n2]
  exact (bit_in (List.replicate 31 0 ++ [1]) 0 w rfl (by decide) (by decide)).mono fun _ _ h => ⟨_, h⟩
theorem c3 (ks : List Nat) (h : Int) (w : World) (hk : ks.length = 32) (h0 : 0 ≤ h) (h1 : h < 256) : Calls Try.prog 6 #[arr ks, .int .i64 h] w (OneMore (.int .i64 (bitAt ks h.toNat : Nat)) w) :=
  (bit_in ks h w hk h0 h1).mono fun _ _ h => ⟨_, h⟩
theorem c4 (ks : List Nat) (h : Int) (w : World) (h0 : h < 0 ∨ 256 ≤ h) : Calls Try.prog 6 #[arr ks, .int .i64 h] w (OneMore (.int .i64 0) w) :=
  (bit_out ks h w h0).mono fun _ _ h => ⟨_, h⟩
theorem c5 (ks : List Nat) (h : Int) (w : World) (hk : IsHash ks) (h0 : 0 ≤ h) (h1 : h < 256) : Calls Try.prog 7 #[arr ks, .int .i64 h] w (OneMore (.int .i64 (bitAt ks h.toNat : Nat)) w) :=
  (refBit_in ks h w hk h0 h1).mono fun _ _ h => ⟨_, h⟩

theorem size_hash : (Try.prog.info? 23).map (·.size) = some 32 := by kernel_rfl
theorem blk (w : World) (A o1 o2 : Obj) : (((w.alloc A).alloc o1).alloc o2).heap[w.heap.size]? = some A := by
  rw [Below.heap_alloc _ _ _ (by simp; omega), Below.heap_alloc _ _ _ (by simp)]; exact heap_alloc_new w A
theorem blk3 (w : World) (A o1 o2 o3 : Obj) : ((((w.alloc A).alloc o1).alloc o2).alloc o3).heap[w.heap.size]? = some A := by
  rw [Below.heap_alloc _ _ _ (by simp; omega)]; exact blk w A o1 o2
theorem eq_self (x : Nat) : decide ((x : Int) = (x : Int)) = true := by simp

theorem walk (ks : List Nat) (h : Int) (w : World) (hk : IsHash ks) (hw : (Lit.int .i64 h).wf = true) :
    Calls Try.prog 3 #[arr ks, .int .i64 h] w fun e w' => e = .returned (.bool true) ∧ Below w.heap.size w w' := by
  have hb := bounds_i64 hw
  clear hw
  have hsz : (bcells ks).length = 32 := by rw [bcells_length]; exact hk.1
  have hi : (Try.prog.info? 23).map (·.size) = some (bcells ks).toArray.size := by
    have : (bcells ks).toArray.size = 32 := by simpa using hsz
    rw [this]; exact size_hash
  have HI := Lib.hid hi
  have HK := Lib.hid hk
  clear hi hsz hk
  unfold arr
  by_cases h0 : h < 0
  · go_enter Try.func3, Try.ntmps3
    go_wp2_with fail
    refine (c1 _).mono ?_
    rintro e w1 ⟨o1, rfl, rfl⟩
    go_wp2_with fail
    refine (c2 _).mono ?_
    rintro e w1 ⟨o2, rfl, rfl⟩
    go_wp2_with (refine wpList_load_row rfl 23 (.tmp 2) rfl w.heap.size rfl 23 (bcells ks).toArray (0, 0) _ (blk _ _ _ _) Try.underlying23 rfl HI.out ?_)
    refine (c4 ks h _ (.inl h0)).mono ?_
    rintro e w1 ⟨o3, rfl, rfl⟩
    go_wp2
    go_ret
    exact ⟨rfl, ((((Below.refl _ _).alloc (Nat.le_refl _) _).alloc (by simp) _).alloc (by simp; omega) _).alloc (by simp; omega) _⟩
  · by_cases h1 : 256 ≤ h
    · go_enter Try.func3, Try.ntmps3
      go_wp2_with fail
      refine (c1 _).mono ?_
      rintro e w1 ⟨o1, rfl, rfl⟩
      go_wp2_with fail
      refine (c2 _).mono ?_
      rintro e w1 ⟨o2, rfl, rfl⟩
      go_wp2_with (refine wpList_load_row rfl 23 (.tmp 2) rfl w.heap.size rfl 23 (bcells ks).toArray (0, 0) _ (blk _ _ _ _) Try.underlying23 rfl HI.out ?_)
      refine (c4 ks h _ (.inr h1)).mono ?_
      rintro e w1 ⟨o3, rfl, rfl⟩
      go_wp2
      go_ret
      exact ⟨rfl, ((((Below.refl _ _).alloc (Nat.le_refl _) _).alloc (by simp) _).alloc (by simp; omega) _).alloc (by simp; omega) _⟩
    · go_enter Try.func3, Try.ntmps3
      go_wp2_with fail
      refine (c1 _).mono ?_
      rintro e w1 ⟨o1, rfl, rfl⟩
      go_wp2_with fail
      refine (c2 _).mono ?_
      rintro e w1 ⟨o2, rfl, rfl⟩
      go_wp2_with (refine wpList_load_row rfl 23 (.tmp 2) rfl w.heap.size rfl 23 (bcells ks).toArray (0, 0) _ (blk _ _ _ _) Try.underlying23 rfl HI.out ?_)
      refine (c3 ks h _ HK.out.1 (by omega) (by omega)).mono ?_
      rintro e w1 ⟨o3, rfl, rfl⟩
      go_wp2_with (refine wpList_load_row rfl 23 (.tmp 2) rfl w.heap.size rfl 23 (bcells ks).toArray (0, 0) _ (blk3 _ _ _ _ _) Try.underlying23 rfl HI.out ?_)
      refine (c5 ks h _ HK.out (by omega) (by omega)).mono ?_
      rintro e w1 ⟨o4, rfl, rfl⟩
      go_wp2
      go_ret
      exact ⟨rfl, (((((Below.refl _ _).alloc (Nat.le_refl _) _).alloc (by simp) _).alloc (by simp; omega) _).alloc (by simp; omega) _).alloc (by simp; omega) _⟩

theorem own : ownKnob Try.prog.godebug = none := by kernel_rfl
theorem laidOut : laidOutB Try.prog = true := by kernel_rfl

set_option maxRecDepth 100000 in
theorem lifted (os : Os) (started : os.Started) (H : Type) (enc : TypeId × Value → H) :
    ReturnsInHanded {} Try.checked os 3 .any (Rows.msumBitsSpec.pre6 enc Try.prog Try.f3 Rows.msumBitsRow.domain false) (Rows.msumBitsSpec.post enc Try.prog Try.f3 false true false false) := by
  refine returnsInHanded_of_change (C := Try.checked) own started (by kernel_rfl) Try.func3
    (ChangeSpec.witness6 (enc := enc) (C := Try.checked) false ⟨#[], #[.agg #[.int .u8 0, .int .u8 0, .int .u8 0, .int .u8 0, .int .u8 0, .int .u8 0, .int .u8 0, .int .u8 0, .int .u8 0, .int .u8 0, .int .u8 0, .int .u8 0, .int .u8 0, .int .u8 0, .int .u8 0, .int .u8 0, .int .u8 0, .int .u8 0, .int .u8 0, .int .u8 0, .int .u8 0, .int .u8 0, .int .u8 0, .int .u8 0, .int .u8 0, .int .u8 0, .int .u8 0, .int .u8 0, .int .u8 0, .int .u8 0, .int .u8 0, .int .u8 0], .int .i64 0], []⟩ 8 (by kernel_rfl) (by kernel_rfl) (by kernel_rfl) (by kernel_rfl)) ?_
  intro W base args ds gs before hval0 hW hcnd _
  have hval : ∀ (j : Nat) t v, Try.f3.params[j]? = some t → args[j]? = some v → Value.okWide Try.prog W .any base t v := hval0
  have hW' := hW
  obtain ⟨p, q, hA0, hV, rfl, hfz, hnd⟩ := hW
  have hA : DataW.TrodAll enc Try.prog W 0 (fun _ => true) true Try.f3.params.toList args.toList ds p := hA0
  rw [Try.params3] at hA hval
  obtain ⟨v0, vs0, d0, ds0, p0, q0, hargs, rfl, rfl, h0, r0⟩ := trodAll_cons hA
  obtain ⟨v1, vs1, d1, ds1, p1, q1, rfl, rfl, rfl, h1, r1⟩ := trodAll_cons r0
  obtain ⟨rfl, rfl, rfl⟩ := trodAll_nil r1
  obtain rfl : args = #[v0, v1] := by cases args; simp_all
  obtain ⟨rfl, rfl⟩ := trodVars_none hV
  have k0 := h0
  have lt0 : ∀ x ∈ p0, x.block < W.heap.size := by obtain ⟨m, hm⟩ := k0; exact DataW.trod_lt m _ _ _ hm
  obtain ⟨a0, rfl, w0⟩ := open_hash Try.underlying23 Try.underlying5 (by kernel_rfl) (by kernel_rfl) (hval 0 23 v0 rfl rfl) h0
  have k1 := h1
  have lt1 : ∀ x ∈ p1, x.block < W.heap.size := by obtain ⟨m, hm⟩ := k1; exact DataW.trod_lt m _ _ _ hm
  obtain ⟨a1, rfl, rfl, rfl, w1⟩ := open_int Try.underlying3 (hval 1 3 v1 rfl rfl) h1
  clear hA0 hval0
  refine (walk a0 a1 W w0 w1).mono fun e W' ⟨he, bel⟩ => ?_
  subst he
  exact ⟨_, rfl, _, _, _, [], _, [], hW', trodAll_mk1 (shut_bool Try.underlying4 _), (trodAll_cons_mk (Below.trod laidOut (by kernel_rfl) (of_decide_eq_true (by kernel_rfl)) k0 bel lt0) (trodAll_cons_mk (Below.trod laidOut (by kernel_rfl) (of_decide_eq_true (by kernel_rfl)) k1 bel lt1) trodAll_mk0)), rfl, bel.frame _, fun h => by cases h⟩

theorem over : Rows.msumBitsRow.holds Try.pinned (OpenSpec.ofChange Rows.msumBitsSpec) :=
  OpenClaim.holds_of_wide 3 Try.f3 rfl rfl rfl rfl rfl rfl rfl ⟨rfl, rfl, rfl, rfl, rfl⟩ rfl rfl rfl rfl rfl (by kernel_rfl) Try.func3 (by kernel_rfl)
    (of_decide_eq_true (by kernel_rfl)) (by unfold Func.isWrapper; first | (rw [if_pos (by decide +kernel)]; kernel_rfl) | (rw [if_neg (by decide +kernel)]; exact ⟨rfl, rfl⟩))
    (fun os started H enc _ => lifted os started H enc)

theorem proved : Rows.MsumBitsSaid := over

end Go.Proofs.Ytcpomddkehhkkaa.msumBits
