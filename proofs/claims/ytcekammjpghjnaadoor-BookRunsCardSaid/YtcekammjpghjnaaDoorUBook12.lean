/- The walk of slices.Delete at offers: one of them is cut out. -/
import Derived.Test.YtcekammjpghjnaaDoorWs
import Derived.Test.YtcekammjpghjnaaDoorUBook10
import Derived.Test.YtcekammjpghjnaaDoorUMem
import Derived.Lib.SliceRun
namespace Go.Proofs.YtcekammjpghjnaaDoor
set_option linter.unusedVariables false
set_option linter.unusedSimpArgs false
open Go.ChangeShapes Go.WideShapes Go.ChangeAt Go.RowKit Go.Maps

theorem flat_len (os : List Off) (h : ∀ o ∈ os, o.ok) : (os.flatMap Off.cells).length = 68 * os.length := by
 induction os with
 | nil => rfl
 | cons o os ih =>
  rw [List.flatMap_cons, List.length_append, Off.length o (h o List.mem_cons_self), ih (fun p hp => h p (List.mem_cons_of_mem _ hp)), List.length_cons]
  omega
theorem zero_cells : ∃ (A0 : Array Value) (Z : List Value), (∀ w, (zeroValue 42).run Tryd.prog w = .ok (.agg A0) w) ∧ (Builtin.zeroCells A0 1).toList = Z ∧ Z.length = 68 ∧ ∀ v ∈ Z, v.oneCell' = true :=
 ⟨(Off.cells ⟨0, 0, List.replicate 32 0, 0, List.replicate 32 0, 0⟩).toArray, Off.cells ⟨0, 0, List.replicate 32 0, 0, List.replicate 32 0, 0⟩, fun w => by kernel_rfl, by kernel_rfl, by kernel_rfl, off_one _⟩
theorem clear_off (W : World) (B o c : Nat) (ty : TypeId) (A0 : Array Value) (Z : List Value) (h0 : ∀ w, (zeroValue 42).run Tryd.prog w = .ok (.agg A0) w) (hZ : (Builtin.zeroCells A0 1).toList = Z) (h1 : ∀ v ∈ Z, v.oneCell' = true)
  (hc : ∀ j, j < Z.length → (W.cell? ⟨B, o + j, none⟩).isSome = true) (hf : ∀ j, j < Z.length → W.frozen? ⟨B, o + j, none⟩ = false) :
  (Builtin.clear_ #[61] ty #[.slice (some ⟨B, o, none⟩) 1 c]).run Tryd.prog W = .ok (.tuple #[]) (W.setCells B o Z) := by
 have hst := run_storeCells_cells (P := Tryd.prog) B o Z 0 W (by simpa using hc) (by simpa using hf) h1
 simp only [Nat.add_zero] at hst
 simp [Builtin.clear_, run_underlying Tryd.underlying61, h0, Value.cells, hZ, hst, Result.andThen]
theorem cut_cells (os : List Off) (hok : ∀ o ∈ os, o.ok) (i : Nat) (hi : i < os.length) (cur cur1 cur2 : Array Value) (cap : Nat) (hcap : os.length ≤ cap) (hsz : cur.size = cap * 68) (hcur : cur.toList.take (os.length * 68) = os.flatMap Off.cells) (Z : List Value) (hZ : Z.length = 68)
   (h1 : ∀ j, j < cur.size → cur1[j]? = if i * 68 ≤ j ∧ j < i * 68 + ((os.drop (i + 1)).flatMap Off.cells).length then ((os.drop (i + 1)).flatMap Off.cells)[j - i * 68]? else cur[j]?) (s1 : cur1.size = cur.size)
   (h2 : ∀ j, j < cur1.size → cur2[j]? = if (os.length - 1) * 68 ≤ j ∧ j < (os.length - 1) * 68 + Z.length then Z[j - (os.length - 1) * 68]? else cur1[j]?) (s2 : cur2.size = cur1.size) :
   cur2.toList.take ((os.length - 1) * 68) = (os.eraseIdx i).flatMap Off.cells := by
 have hd : ((os.drop (i + 1)).flatMap Off.cells).length = 68 * (os.length - (i + 1)) := by rw [flat_len _ (fun o ho => hok o (List.mem_of_mem_drop ho)), List.length_drop]
 have ht : ((os.take i).flatMap Off.cells).length = 68 * i := by rw [flat_len _ (fun o ho => hok o (List.mem_of_mem_take ho)), List.length_take, Nat.min_eq_left (by omega)]
 rw [List.eraseIdx_eq_take_drop_succ, List.flatMap_append]
 apply List.ext_getElem?
 intro j
 rw [List.getElem?_take]
 by_cases hj : j < (os.length - 1) * 68
 · rw [if_pos hj, Array.getElem?_toList, h2 j (by rw [s1, hsz]; have := Nat.mul_le_mul_right 68 hcap; omega), if_neg (by omega), h1 j (by rw [hsz]; have := Nat.mul_le_mul_right 68 hcap; omega)]
   by_cases hji : j < i * 68
   · rw [if_neg (by omega), List.getElem?_append_left (by omega)]
     have e : cur[j]? = (cur.toList.take (os.length * 68))[j]? := by rw [List.getElem?_take, if_pos (by omega), Array.getElem?_toList]
     rw [e, hcur]
     conv => lhs; rw [← List.take_append_drop i os, List.flatMap_append]
     rw [List.getElem?_append_left (by omega)]
   · rw [if_pos (by omega), List.getElem?_append_right (by omega), ht, show 68 * i = i * 68 by omega]
 · rw [if_neg hj, List.getElem?_eq_none]
   rw [List.length_append, hd, ht]
   omega
end Go.Proofs.YtcekammjpghjnaaDoor
/- The walk of slices.Delete at offers. -/
namespace Go.Proofs.YtcekammjpghjnaaDoor
set_option linter.unusedVariables false
set_option linter.unusedSimpArgs false
open Go.ChangeShapes Go.WideShapes Go.ChangeAt Go.RowKit Go.Maps

set_option maxRecDepth 100000 in
set_option maxHeartbeats 2000000 in
theorem delete_at (w : World) (os : List Off) (hok : ∀ o ∈ os, o.ok) (hn : os.length ≤ 1000) (B cap i : Nat) (cur : Array Value) (hi : i < os.length) (hB : Has w B 42 cur) (hcap : os.length ≤ cap) (hm : cap ≤ maxLen) (hsz : cur.size = cap * 68)
  (hcur : cur.toList.take (os.length * 68) = os.flatMap Off.cells) (j : Nat) (hj : j = i + 1) :
  Calls Tryd.prog 39 #[.slice (some ⟨B, 0, none⟩) os.length cap, .int .i64 (i : Int), .int .i64 (j : Int)] w fun e w' => e = .returned (.slice (some ⟨B, 0, none⟩) (os.length - 1) cap) ∧
    ∃ cur2, Has w' B 42 cur2 ∧ cur2.size = cap * 68 ∧ cur2.toList.take ((os.length - 1) * 68) = (os.eraseIdx i).flatMap Off.cells ∧ Kept (fun k => k = B) w w' := by
 obtain ⟨ioff, hio, hio0, hio1, hio2⟩ := info_parts info_off
 obtain ⟨A0, Z, z0, z1, z2, z3⟩ := zero_cells
 obtain ⟨news, hnews⟩ : ∃ news, news = (os.drop j).flatMap Off.cells := ⟨_, rfl⟩
 have hnl : news.length = (os.length - j) * 68 := by rw [hnews, flat_len _ (fun o ho => hok o (List.mem_of_mem_drop ho)), List.length_drop]; omega
 have hcell : ∀ t, t < os.length * 68 → w.cell? ⟨B, t, none⟩ = (os.flatMap Off.cells)[t]? := fun t ht => by
  rw [hB.cell, ← hcur, List.getElem?_take, if_pos ht, Array.getElem?_toList]
 have hbig : ∀ t, t < cap * 68 → (w.cell? ⟨B, t, none⟩).isSome = true := fun t ht => by
  rw [hB.cell, Array.getElem?_eq_getElem (by omega)]; rfl
 obtain ⟨A, hA, hsrc⟩ : ∃ A : Addr, (if cap = j then some (⟨B, 0, none⟩ : Addr) else some ⟨B, j * 68, none⟩) = some A ∧ Hid (∀ t u, news[t]? = some u → w.drew.cell? (A.add t) = some u) := by
  by_cases h : cap = j
  · refine ⟨⟨B, 0, none⟩, by simp [h], fun t u hu => ?_⟩
    have h0 : news.length = 0 := by rw [hnl]; omega
    rw [List.length_eq_zero_iff.1 h0] at hu
    simp at hu
  · refine ⟨⟨B, j * 68, none⟩, by simp [h], fun t u hu => ?_⟩
    have ht : t < news.length := (List.getElem?_eq_some_iff.1 hu).1
    rw [Addr.add_mid]
    change w.cell? _ = _
    rw [hcell _ (by omega)]
    have hl : ((os.take j).flatMap Off.cells).length = j * 68 := by rw [flat_len _ (fun o ho => hok o (List.mem_of_mem_take ho)), List.length_take, Nat.min_eq_left (by omega)]; omega
    conv => lhs; rw [← List.take_append_drop j os, List.flatMap_append]
    rw [List.getElem?_append_right (by omega), hl, ← hnews, Nat.add_sub_cancel_left]
    exact hu
 have s2 : Hid (∀ u ∈ news, u.oneCell' = true) := by
  intro u hu
  rw [hnews] at hu
  obtain ⟨o, _, ho⟩ := List.mem_flatMap.1 hu
  exact off_one o u ho
 have s3 : Hid (∀ t, t < news.length → (w.drew.cell? ⟨B, 0 + i * 68 + t, none⟩).isSome = true ∧ w.drew.frozen? ⟨B, 0 + i * 68 + t, none⟩ = false) := by
  intro t ht
  exact ⟨hbig _ (by omega), hB.free _⟩
 obtain ⟨W1, hW1⟩ : ∃ W1, W1 = w.drew.setCells B (0 + i * 68) news := ⟨_, rfl⟩
 obtain ⟨cur1, hh1, hs1, hg1, hk1⟩ := Has.setCells news (0 + i * 68) w.drew cur hB.drew
 rw [← hW1] at hh1 hk1
 obtain ⟨cur2, hh2, hs2, hg2, hk2⟩ := Has.setCells Z ((os.length - 1) * 68) W1 cur1 hh1
 have hfin : ∃ cur2, Has (W1.setCells B ((os.length - 1) * 68) Z) B 42 cur2 ∧ cur2.size = cap * 68 ∧ cur2.toList.take ((os.length - 1) * 68) = (os.eraseIdx i).flatMap Off.cells ∧ Kept (fun k => k = B) w (W1.setCells B ((os.length - 1) * 68) Z) := by
  refine ⟨cur2, hh2, by rw [hs2, hs1, hsz], cut_cells os hok i hi cur cur1 cur2 cap hcap hsz hcur Z z2 ?_ hs1 hg2 hs2, (hk1.undrew).trans hk2⟩
  intro t ht
  have := hg1 t ht
  rw [hnews, hj, Nat.zero_add] at this
  exact this
 have hcl : ∀ ty, (Builtin.clear_ #[61] ty #[.slice (some ⟨B, (os.length - 1) * 68, none⟩) 1 (cap - (os.length - 1))]).run Tryd.prog W1 = .ok (.tuple #[]) (W1.setCells B ((os.length - 1) * 68) Z) :=
  fun ty => clear_off W1 B _ _ ty A0 Z z0 z1 z3 (fun t ht => by rw [hh1.cell, Array.getElem?_eq_getElem (by omega)]; rfl) (fun t _ => hh1.free _)
 have HW := Lib.hid hW1
 have HFIN := Lib.hid hfin
 have s1 : Hid (news.length = (os.length - j) * 68) := hnl
 have hij : i ≤ j := by omega
 have hjn : j ≤ os.length := by omega
 have hne : ¬ i = j := by omega
 have hlen1 : i + (os.length - j) = os.length - 1 := by omega
 obtain ⟨n, hn9⟩ : ∃ n, n = os.length := ⟨_, rfl⟩
 obtain ⟨n1, hn1⟩ : ∃ n1, n1 = os.length - 1 := ⟨_, rfl⟩
 rw [← hn1] at HFIN hcl hlen1 ⊢
 rw [← hn9] at s1 hcap hn hi hjn hlen1 ⊢
 have hn1n : n1 + 1 = n := by omega
 have HJ := Lib.hid hj
 clear hW1 hh1 hs1 hg1 hk1 hh2 hs2 hg2 hk2 hfin hcell hbig hcur hB hsz hnews hnl hn9 hn1 hj hok z0 z1 z2 z3
 go_enter Tryd.func39, Tryd.ntmps39
 go_wp2_with fail
 have hin : i ≤ n := by omega
 have hic : i ≤ cap := by omega
 have hjc : j ≤ cap := by omega
 go_region_law (refine step_append_room rfl (.tmp 22) (.tmp 25) 61 rfl 42 ioff 68 Tryd.underlying61 hio hio1 B 0 i cap (by simp [Act.eval, Act.put]) A (n - j) (cap - j) news (by simp [Act.eval, Act.put]) s1.out hsrc.out s2.out (by omega) s3.out ?_; rw [← HW.out])
 have hx1 : n - n1 = 1 := by omega
 have hx2 : ¬ cap = n1 := by omega
 have hx3 : n1 ≤ n := by omega
 have hx4 : n1 ≤ cap := by omega
 clear hn1n hlen1
 go_wp2
 go_ret
 exact ⟨rfl, HFIN.out⟩
end Go.Proofs.YtcekammjpghjnaaDoor
