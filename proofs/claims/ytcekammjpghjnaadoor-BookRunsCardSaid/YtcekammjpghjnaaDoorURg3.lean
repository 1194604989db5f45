/- append onto a row of the call's own: besides where the new row lies: what the old row held it holds. -/
import Derived.Test.YtcekammjpghjnaaDoorWs
import Derived.Deep.AppendLies
import Derived.Test.YtcekammjpghjnaaDoorURg1
import Derived.Test.YtcekammjpghjnaaDoorUNum3
namespace Go.Proofs.YtcekammjpghjnaaDoor
set_option linter.unusedVariables false
set_option linter.unusedSimpArgs false

section
variable {P : Program} (w : World)
/-- THE LAW: as run_append_lies, and the cells of the old row are as they were. -/
theorem run_append_stays (t ty : TypeId) (base : Nat) (e : TypeId) (i : TypeInfo) (z : Value) (size bytes : Nat) (ht : P.underlying t = some (.slice e)) (hi : P.info? e = some i) (hz : i.zero = some z)
    (hsize : i.size = size) (hby : i.bytes = bytes) (hzs : z.cells.size = size) (hsz : 0 < size)
    (v : Value) (n : Nat) (xs : List Value) (hown : w.ownsRow base e size v n xs)
    (ad : Addr) (m c : Nat) (news : List Value) (hl : news.length = m * size) (hnews : ∀ j u, news[j]? = some u → w.cell? (ad.add j) = some u) (h1 : ∀ u ∈ news, u.oneCell' = true)
    (hm : 0 < m) (h63 : n + m ≤ maxLen) (hbytes : (n + m) * bytes ≤ 140737488355328) (hbase : base ≤ w.heap.size) (H : Nat) (hH : w.heap.size = H) :
    ∃ g cap w', (Builtin.append_ #[t, t] ty #[v, .slice (some ad) m c]).run P w = .ok (.slice (some ⟨g, 0, none⟩) (n + m) cap) w' ∧
      w'.ownsRow base e size (.slice (some ⟨g, 0, none⟩) (n + m) cap) (n + m) (xs ++ news) ∧ w.grownBy w' v.ownBlock ∧ (v.ownBlock = some g ∨ g = H) ∧ g < w'.heap.size ∧
      (∀ b, v.ownBlock = some b → ∀ (j : Nat) u, xs[j]? = some u → w'.cell? ⟨b, j, none⟩ = some u) := by
  subst hsize
  subst hby
  have hsmall : n + m ≤ 9223372036854775807 := by simp only [maxLen] at h63; omega
  have hlen : (xs ++ news).length = (n + m) * i.size := by rw [List.length_append, hown.1, hl, Nat.add_mul]
  have grown : ∀ (old : Nat), old < n + m → ∀ (row : Option Nat),
      (w.drew.alloc (.cells (xs.toArray ++ news.toArray ++ Builtin.zeroCells z.cells (grownCap w (n + m) old e - (n + m))) e)).ownsRow base e i.size
        (.slice (some ⟨w.heap.size, 0, none⟩) (n + m) (grownCap w (n + m) old e)) (n + m) (xs ++ news) ∧
      w.grownBy (w.drew.alloc (.cells (xs.toArray ++ news.toArray ++ Builtin.zeroCells z.cells (grownCap w (n + m) old e - (n + m))) e)) row := by
    intro old ho row
    have hge := grownCap_ge w (n + m) old e
    have hcm : grownCap w (n + m) old e ≤ maxLen := grownCap_le_maxLen w (n + m) old e h63
    refine ⟨⟨hlen, .inr ⟨w.heap.size, _, _, rfl, hbase, heap_alloc_new w.drew _, hge, hcm, ?_, ?_⟩⟩, ⟨rfl, rfl, rfl, by simp, fun k hk _ => by first | exact heap_alloc_old w.drew _ k hk | exact heap_alloc_old w.drew _ hk⟩⟩
    · simp only [Array.size_append, List.size_toArray, size_zeroCells, hzs, hown.1, hl, ← Nat.add_mul]
      congr 1
      omega
    · simp only [Array.toList_append, List.append_assoc]
      rw [← List.append_assoc, ← hlen]
      exact List.take_left
  rcases hown.2 with ⟨rfl, rfl⟩ | ⟨g, cap, cur, rfl, hbg, hg, hnc, hcm, hcs, htake⟩
  · have hx : xs = [] := List.eq_nil_of_length_eq_zero (by simpa using hown.1)
    subst hx
    have hr := run_append_nil (P := P) w t ty e i z ht hi hz ad m c news hl hnews (by omega) (by omega) (by have hb := hbytes; simp only [Nat.zero_add] at hb; omega)
    have hgr := grown 0 (by omega) (Value.ownBlock (.slice none 0 0))
    simp only [Nat.zero_add, List.nil_append, Array.empty_append] at hgr ⊢
    exact ⟨_, _, _, hr, hgr.1, hgr.2, .inr hH, by simp, fun b hb => by simp [Value.ownBlock] at hb⟩
  · by_cases hroom : n + m ≤ cap
    · have hfit : n * i.size + news.length ≤ cur.size := by rw [hl, hcs, ← Nat.add_mul]; exact Nat.mul_le_mul_right _ hroom
      have hr := run_append_room (P := P) w t ty e i ht hi g n cap cur hg ad m c news hl hnews h1 hroom hfit
      have hown' : (w.setRow g (cur.toList.take (n * i.size) ++ news ++ cur.toList.drop (n * i.size + news.length)).toArray).ownsRow base e i.size (.slice (some ⟨g, 0, none⟩) (n + m) cap) (n + m) (xs ++ news) := by
        refine ⟨hlen, .inr ⟨g, cap, _, rfl, hbg, setRow_heap w g cur _ e _ hg, hroom, hcm, ?_, ?_⟩⟩
        · simp only [List.size_toArray, List.length_append, List.length_take, List.length_drop, Array.length_toList]
          omega
        · rw [htake, ← hlen]
          exact List.take_left
      have hglt : g < w.heap.size := by
        rcases Nat.lt_or_ge g w.heap.size with h | h
        · exact h
        · rw [Array.getElem?_eq_none h] at hg; cases hg
      refine ⟨g, cap, _, hr, hown', ⟨rfl, rfl, rfl, by simp, fun k _ hk => setRow_other w g k _ (fun e => hk (by simp [Value.ownBlock, e]))⟩, .inl rfl, by simpa using hglt, fun b hb j u hu => ?_⟩
      obtain rfl : g = b := by simpa [Value.ownBlock] using hb
      have := hown'.cells (g := g) rfl j u (by rw [List.getElem?_append_left (List.getElem?_eq_some_iff.1 hu).1]; exact hu)
      have hadd : (⟨g, 0, none⟩ : Addr).add j = ⟨g, j, none⟩ := by unfold Addr.add; split <;> simp_all
      rwa [hadd] at this
    · have holds : ∀ j u, xs[j]? = some u → w.cell? ((⟨g, 0, none⟩ : Addr).add j) = some u := hown.cells (g := g) rfl
      have hr := run_append_grow (P := P) w t ty e i z ht hi hz ⟨g, 0, none⟩ n cap xs hown.1 holds ad m c news hl hnews (by omega) (by omega) (growslice_fits (by omega) hbytes)
      have hgr := grown cap (by omega) none
      have hgr' := grown cap (by omega) (Value.ownBlock (.slice (some ⟨g, 0, none⟩) n cap))
      refine ⟨_, _, _, hr, hgr'.1, hgr'.2, .inr hH, by simp, fun b hb j u hu => ?_⟩
      obtain rfl : g = b := by simpa [Value.ownBlock] using hb
      have hadd : (⟨g, 0, none⟩ : Addr).add j = ⟨g, j, none⟩ := by unfold Addr.add; split <;> simp_all
      have := holds j u hu
      rw [hadd] at this
      exact hgr.2.cell this (by simp)
/-- at a step of a region that draws. -/
theorem step_append_stays {w : World} {ops : Array Oper} {o : Oper} {a : Act} {K : Act → World → Prop} {Q : Exit → Act → World → Prop} {E : Prop} (hgd : o.guard = none) (s x : Operand) (t : TypeId)
    (ho : o.op = .call { callee := .builtin .append, args := #[s, x], argTypes := #[t, t] })
    (base : Nat) (e : TypeId) (i : TypeInfo) (z : Value) (size bytes : Nat) (ht : P.underlying t = some (.slice e)) (hi : P.info? e = some i) (hz : i.zero = some z)
    (hsize : i.size = size) (hby : i.bytes = bytes) (hzs : z.cells.size = size) (hsz : 0 < size)
    (v : Value) (n : Nat) (xs : List Value) (hs : a.eval s = v) (hown : w.ownsRow base e size v n xs)
    (ad : Addr) (m c : Nat) (news : List Value) (hx : a.eval x = .slice (some ad) m c) (hl : news.length = m * size) (hnews : ∀ j u, news[j]? = some u → w.cell? (ad.add j) = some u) (h1 : ∀ u ∈ news, u.oneCell' = true)
    (hm : 0 < m) (h63 : n + m ≤ maxLen) (hbytes : (n + m) * bytes ≤ 140737488355328) (hbase : base ≤ w.heap.size) (H : Nat) (hH : w.heap.size = H)
    (h : ∀ g cap w', w'.ownsRow base e size (.slice (some ⟨g, 0, none⟩) (n + m) cap) (n + m) (xs ++ news) → w.grownBy w' v.ownBlock → (v.ownBlock = some g ∨ g = H) → g < w'.heap.size →
      (∀ b, v.ownBlock = some b → ∀ (j : Nat) u, xs[j]? = some u → w'.cell? ⟨b, j, none⟩ = some u) → K (a.put o.dst (.slice (some ⟨g, 0, none⟩) (n + m) cap)) w') :
    if Region.wanted o (yielded ops a.tmps) = true then Oper.wp P o a w K Q else E := by
  have hw : Region.wanted o (yielded ops a.tmps) = true := by simp [Region.wanted, hgd]
  rw [if_pos hw]
  obtain ⟨g, cap, w', hr, h2, h3, h4, h5, h6⟩ := run_append_stays (P := P) w t o.type base e i z size bytes ht hi hz hsize hby hzs hsz v n xs hown ad m c news hl hnews h1 hm h63 hbytes hbase H hH
  unfold Oper.wp execOp
  simp only [ho, resolve, invoke, builtin, Sem.run_bind, Sem.run_pure, Result.andThen_ok, List.map_toArray, List.map_cons, List.map_nil, hs, hx, hr]
  exact h g cap w' h2 h3 h4 h5 h6
end
end Go.Proofs.YtcekammjpghjnaaDoor
/- The reference's sum of numbers, and all there is of an asset. -/
namespace Go.Proofs.YtcekammjpghjnaaDoor
set_option linter.unusedVariables false
set_option linter.unusedSimpArgs false
open Go.ChangeShapes Go.WideShapes Go.ChangeAt Go.RowKit Go.Maps

def uC (x : Nat) : List Value := [.int .u64 (x : Int)]
theorem uC_flat (xs : List Nat) : xs.flatMap uC = ucellB xs := by
 induction xs with
 | nil => rfl
 | cons x xs ih => rw [List.flatMap_cons, ih]; rfl
theorem at_uu (b o n c k : Nat) (hk : k < n) (w : World) : (Instr.indexAt 79 (.slice (some ⟨b, o, none⟩) n c) (.int .i64 (k : Int))).run Tryd.prog w = .ok (.pointer (some ⟨b, o + k, none⟩)) w := by
 have hu : Tryd.prog.underlying 79 = some (.slice (Tryd.prog.elem 79)) := by kernel_rfl
 have he : Tryd.prog.elem 79 = 22 := by kernel_rfl
 have hz : ∀ w, (sizeOf 22).run Tryd.prog w = .ok 1 w := fun w => by kernel_rfl
 rw [run_indexAt_slice w 79 ⟨b, o, none⟩ n c .i64 (k : Int) hu, if_pos ⟨by omega, by omega⟩, he, hz]
 simp only [Result.andThen, Int.toNat_natCast, Nat.mul_one, Addr.add_mid]
theorem sum_le {xs : List Nat} {M : Nat} (h : ∀ x ∈ xs, x ≤ M) : ∀ k, (xs.take k).sum ≤ k * M
 | 0 => by simp
 | k + 1 => by
  have ih := sum_le h k
  rw [Nat.succ_mul]
  cases hf : xs[k]? with
  | none => rw [List.take_add_one, hf]; simp only [Option.toList_none, List.append_nil]; omega
  | some f =>
   rw [List.take_add_one, hf, List.sum_append]
   have := h f (List.mem_of_getElem? hf)
   simp
   omega
theorem sum_step {xs : List Nat} {k x : Nat} (h : xs[k]? = some x) : (xs.take (k + 1)).sum = (xs.take k).sum + x := by
 rw [List.take_add_one, h, List.sum_append]; simp
theorem sum_short {xs : List Nat} (h : ∀ x ∈ xs, x < 18446744073709551616) {k : Nat} (hk : k ≤ 255) : (digs (xs.take k).sum).length ≤ 1000 := by
 have h1 := sum_le (M := 18446744073709551616) (fun x hx => Nat.le_of_lt (h x hx)) k
 have h2 : (xs.take k).sum ≤ 255 * 18446744073709551616 := Nat.le_trans h1 (Nat.mul_le_mul_right _ hk)
 have : (digs (xs.take k).sum).length ≤ 9 := (digs_len _ 9).2 (Nat.lt_of_le_of_lt h2 (by decide))
 omega
theorem um_short {x : Nat} (h : x < 18446744073709551616) : (digs x).length ≤ 1000 := by
 have : (digs x).length ≤ 8 := (digs_len _ 8).2 (Nat.lt_of_lt_of_le h (by decide))
 omega
theorem dig_none {w : World} {g : Nat} {t : TypeId} (h : Has w g t #[]) : IsD w (.slice (some ⟨g, 0, none⟩) 0 0) (digs 0) := by
 rw [digs_zero]
 exact ⟨_, _, rfl, ⟨rfl, Nat.le_refl _, fun hn => absurd hn (Nat.lt_irrefl 0)⟩⟩
set_option maxRecDepth 100000 in
set_option maxHeartbeats 4000000 in
theorem rtotal_is (w : World) (A : Option Addr) (n c : Nat) (xs : List Nat) (hr : RowsAt uC 1 w A n xs) (hx : ∀ x ∈ xs, x < 18446744073709551616) (hn : n ≤ 255) :
  Calls Tryd.prog 26 #[.slice A n c] w fun e w' => e = .returned (totalV xs) ∧ Below w.heap.size w w' := by
 have HR := Lib.hid hr
 have HLEN := Lib.hid hr.len
 have HX := Lib.hid hx
 have HAT := Lib.hid at_uu
 obtain ⟨W1, hW1⟩ : ∃ W, W = w.alloc (.cells #[] 3) := ⟨_, rfl⟩
 have hb1 : Below w.heap.size w W1 := by rw [hW1]; exact (Below.refl _ _).alloc (Nat.le_refl _) _
 have hd1 : IsD W1 (.slice (some ⟨w.heap.size, 0, none⟩) 0 0) (digs 0) := dig_none (by rw [hW1]; exact Has.new w 3 #[])
 have HD1 := Lib.hid hd1
 have HB1 := Lib.hid hb1
 have EW := Lib.hid hW1
 clear hr hx hb1 hd1 hW1
 go_enter Tryd.func26, Tryd.ntmps26
 go_wp2_with fail
 rw [← EW.out]
 clear EW
 go_loopw [4, 12] (fun dv iv wr => ∃ k : Nat, iv = .int .i64 (k : Int) ∧ k ≤ n ∧ IsD wr dv (digs (xs.take k).sum) ∧ Below w.heap.size w wr) (fun _ iv _ => n - (intOf iv).toNat)
 case atStart => exact ⟨0, rfl, Nat.zero_le _, HD1.out, HB1.out⟩
 case round =>
  clear HD1 HB1
  obtain ⟨k, rfl, hk, hd, hbel⟩ := hrel
  obtain ⟨da, dc, rfl, hda⟩ := show ∃ a c, _ = Value.slice a (digs (xs.take k).sum).length c ∧ DigAt wr a (digs (xs.take k).sum).length c (digs (xs.take k).sum) from hd
  have HBE := Lib.hid hbel
  have HDA := Lib.hid hda
  clear hbel hda hd
  by_cases hlt : k < n
  · have hlt' : (k : Int) < (n : Int) := by omega
    obtain ⟨sb, so, hA1, hA2, hrr⟩ := (HR.out.below HBE.out).at_ (by omega)
    subst hA1
    obtain ⟨x, hx⟩ : ∃ x, xs[k]? = some x := ⟨_, List.getElem?_eq_getElem (by rw [HLEN.out]; exact hlt)⟩
    have hcx : wr.cell? ⟨sb, so + k, none⟩ = some (.int .u64 (x : Int)) := by
      have := hrr k x hx 0 (.int .u64 (x : Int)) rfl
      rwa [Nat.mul_one, Nat.add_zero] at this
    have hat := HAT.out sb so n c k hlt
    have hx64 := HX.out x (List.mem_of_getElem? hx)
    have HNX := Lib.hid (sum_step hx)
    have HX64 := Lib.hid hx64
    have HLTK := Lib.hid hlt
    clear hrr hA2 hx hx64 hlt
    go_wp2_with fail
    refine (of_is _ x HX64.out).mono ?_
    rintro _ w5 ⟨⟨v', rfl, hv'⟩, hb5⟩
    obtain ⟨oa2, oc2, rfl, hd2⟩ := show ∃ a c, v' = Value.slice a (digs x).length c ∧ DigAt w5 a (digs x).length c (digs x) from hv'
    have HB5 := Lib.hid (HBE.out.trans (hb5.mono HBE.out.size))
    have HADD := Lib.hid (add_is w5 da _ dc _ oa2 _ oc2 x (HDA.out.below hb5) hd2 (sum_short HX.out (by have := HLTK.out; omega)) (um_short HX64.out))
    clear hv' hd2 hb5 hcx hat
    go_wp2_with fail
    refine HADD.out.mono ?_
    rintro _ w6 ⟨⟨v2, rfl, hv2⟩, hb6⟩
    have HV2 := Lib.hid (show IsD w6 v2 (digs (xs.take (k + 1)).sum) by rw [HNX.out]; exact hv2)
    have HB6 := Lib.hid (HB5.out.trans (hb6.mono HB5.out.size))
    clear hv2 hb6 HADD
    go_wp2_with fail
    go_roundw
    case rel => exact ⟨k + 1, by go_num, HLTK.out, HV2.out, HB6.out⟩
    case measure => have := HLTK.out; simp [intOf]; omega
  · obtain rfl : k = n := by omega
    have hno : ¬ (k : Int) < (k : Int) := by omega
    have hall : xs.take k = xs := List.take_of_length_le (by rw [HLEN.out]; exact Nat.le_refl _)
    have hs := sum_short HX.out (k := k) hn
    rw [hall] at hs
    have hda := HDA.out
    rw [hall] at hda
    rw [hall]
    have HNUM := Lib.hid (num_is wr da _ dc xs.sum hda (by omega))
    clear hall hs hda hlt
    go_wp2_with fail
    refine HNUM.out.mono ?_
    rintro _ w7 ⟨⟨y, rfl, hy⟩, hw7⟩
    have HB7 := Lib.hid (show Below w.heap.size w w7 by rw [hw7]; exact HBE.out)
    clear hw7 HNUM
    by_cases hfit : xs.sum < 18446744073709551616
    · have hdq : decide (xs.sum < 18446744073709551616) = true := decide_eq_true hfit
      have hyq := hy hfit
      subst hyq
      have HT := Lib.hid (show totalV xs = .tuple #[.int .u64 (xs.sum : Int), .int .i64 0] by unfold totalV; rw [if_pos hfit])
      rw [hdq]
      clear hfit hy hdq
      go_wp2_with fail
      go_ret2
      exact ⟨by rw [HT.out]; rfl, HB7.out⟩
    · have hdq : decide (xs.sum < 18446744073709551616) = false := decide_eq_false hfit
      have HT := Lib.hid (show totalV xs = .tuple #[.int .u64 0, .int .i64 10] by unfold totalV; rw [if_neg hfit])
      rw [hdq]
      clear hfit hy hdq
      go_wp2_with fail
      go_ret2
      exact ⟨by rw [HT.out]; rfl, HB7.out⟩
end Go.Proofs.YtcekammjpghjnaaDoor
