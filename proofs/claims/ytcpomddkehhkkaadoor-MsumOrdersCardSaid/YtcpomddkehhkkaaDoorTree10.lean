/- What stands for all of a tree: Root. -/
import Derived.Test.YtcpomddkehhkkaaDoorTree9
namespace Go.Proofs.YtcpomddkehhkkaaDoor
set_option linter.unusedVariables false
set_option linter.unusedSimpArgs false
open Go.ChangeShapes Go.WideShapes Go.ChangeAt Go.RowKit Go.Maps

/-- a leaf of a tree at a key. -/
def leafAt (T : List Lf) (k : List Nat) : Lf := (findT T k).getD ⟨k, [], 0⟩
theorem leafAt_some (T : List Lf) : ∀ k, (∃ l, findT T k = some l) → findT T k = some (leafAt T k) := fun k ⟨l, h⟩ => by unfold leafAt; rw [h]; rfl
/-- a tree's keys, sorted. -/
structure KeysT (T : List Lf) (ks : List (List Nat)) : Prop where
  sorted : Sorted ks
  mem : ∀ k, k ∈ ks ↔ k ∈ T.map (·.k)
theorem KeysT.find {T : List Lf} {ks : List (List Nat)} (h : KeysT T ks) : ∀ k ∈ ks, ∃ l, findT T k = some l := fun k hk => by
  obtain ⟨t, ht, e⟩ := List.mem_map.1 ((h.mem k).1 hk)
  cases hf : findT T k with
  | some l => exact ⟨l, rfl⟩
  | none => exact absurd e (find_none hf t ht)
theorem KeysT.len {T : List Lf} {ks : List (List Nat)} (h : KeysT T ks) : ks.length ≤ T.length := by
  have := len_sub ks (T.map (·.k)) h.sorted.nodup (fun k hk => (h.mem k).1 hk)
  simpa using this
theorem KeysT.len_eq {T : List Lf} {ks : List (List Nat)} (h : KeysT T ks) (hT : (T.map (·.k)).Nodup) : ks.length = T.length := by
  have h1 := h.len
  have := len_sub (T.map (·.k)) ks hT (fun k hk => (h.mem k).2 hk)
  rw [List.length_map] at this
  omega
theorem KeysT.perm {T : List Lf} {ks : List (List Nat)} (h : KeysT T ks) (hT : (T.map (·.k)).Nodup) : (ks.map (leafAt T)).Perm T := by
  have hk : ∀ k ∈ ks, (leafAt T k).k = k := fun k hk => (find_key (leafAt_some T k (h.find k hk))).1
  have nd : (ks.map (leafAt T)).Nodup := by
    refine List.pairwise_map.2 (List.Pairwise.imp_of_mem (fun {a b} ha hb hne e => hne ?_) h.sorted.nodup)
    rw [← hk a ha, ← hk b hb, e]
  have nT : T.Nodup := (List.pairwise_map.1 hT).imp fun hne e => hne (by rw [e])
  refine (List.perm_ext_iff_of_nodup nd nT).2 fun t => ⟨fun ht => ?_, fun ht => ?_⟩
  · obtain ⟨k, hk1, rfl⟩ := List.mem_map.1 ht
    exact (find_key (leafAt_some T k (h.find k hk1))).2
  · refine List.mem_map.2 ⟨t.k, (h.mem _).2 (List.mem_map.2 ⟨t, ht, rfl⟩), ?_⟩
    unfold leafAt
    rw [find_mem hT ht]; rfl
theorem KeysT.part {T : List Lf} {ks : List (List Nat)} (h : KeysT T ks) (hT : Keyed (T.map (·.k))) (K s0 : List Wd) : partNd K s0 256 (ks.map (leafAt T)) = partNd K s0 256 T := by
  have hk : (ks.map (leafAt T)).map (·.k) = ks := by
    rw [List.map_map]
    conv => rhs; rw [← List.map_id ks]
    exact List.map_congr_left fun k hk => (find_key (leafAt_some T k (h.find k hk))).1
  refine part_perm K s0 256 _ _ ?_ ?_ (h.perm hT.nodup)
  · rw [hk]
    exact ⟨fun k hk => hT.hash k ((h.mem k).1 hk), h.sorted.nodup⟩
  · rw [hk]; exact coh_top ks
/-- a row of keys of one's own. -/
theorem keys_own {w : World} {base : Nat} {v : Value} {ys : List HK} (h : w.ownsRow base 27 32 v ys.length (ys.flatMap HK.enc)) :
    ∃ a c, v = .slice a ys.length c ∧ KeysAt w a ys.length (ys.map (·.k)) ∧ ys.length ≤ c ∧ ∀ A, a = some A → base ≤ A.block := by
  rcases h.2 with ⟨rfl, h0⟩ | ⟨b, cap, cur, rfl, hB, hh, h1, h2, h3, h4⟩
  · have e : ys = [] := List.eq_nil_of_length_eq_zero h0
    subst e
    exact ⟨none, 0, rfl, ⟨rfl, fun k hk => (by cases hk), fun h => absurd h (by simp)⟩, Nat.le_refl _, fun A hA => (by cases hA)⟩
  · refine ⟨_, cap, rfl, ⟨by simp, fun k hk => ?_, fun h0 => ⟨b, 0, rfl, (Array.getElem?_eq_some_iff.1 hh).1, fun i k hi j v hv => ?_⟩⟩, h1, fun A hA => by injection hA with hA; rw [← hA]; exact hB⟩
    · obtain ⟨y, _, rfl⟩ := List.mem_map.1 hk
      exact y.h
    · rw [List.getElem?_map] at hi
      obtain ⟨y, hy, rfl⟩ := Option.map_eq_some_iff.1 hi
      have hj := (List.getElem?_eq_some_iff.1 hv).1
      rw [bcells_length, y.h.1] at hj
      have hil := (List.getElem?_eq_some_iff.1 hy).1
      have hg : Has w b 27 cur := hh
      refine hg.cell_is ?_
      have e := flat_getK HK.enc 32 HK.len ys i j y hy hj
      have hlt : i * 32 + j < ys.length * 32 := by
        have : (i + 1) * 32 ≤ ys.length * 32 := Nat.mul_le_mul_right 32 hil
        omega
      rw [Nat.zero_add, ← Array.getElem?_toList]
      have e2 : cur.toList[i * 32 + j]? = (cur.toList.take (ys.length * 32))[i * 32 + j]? := by rw [List.getElem?_take_of_lt hlt]
      rw [e2, h4, e]
      exact hv

section
variable (K s0 : List Wd) (S : Nat → Prop)
/-- Keys, at a tree. -/
theorem keysT_is {g m : Nat} {es : List Ent} {T : List Lf} (w : World) (htr : TreeAt K s0 S w g m es T) :
    Calls Tryd.prog 37 #[.pointer (some ⟨g, 0, none⟩)] w fun e w' => ∃ a n c ks, e = .returned (.slice a n c) ∧ KeysT T ks ∧ KeysAt w' a n ks ∧ n ≤ c ∧ n ≤ 256 ∧ (∀ A, a = some A → w.heap.size ≤ A.block) ∧ Below w.heap.size w w' := by
  obtain ⟨cs, hf⟩ := htr.frame
  have hkeys := htr.leaves.keys
  have hlen : es.length ≤ 256 := by
    have := congrArg List.length hkeys
    rw [List.length_map, List.length_map] at this
    have := htr.len
    omega
  refine (keys_is w g m es (hf.obj.cell_is hf.lv) htr.map (by omega)).mono fun e w' ⟨v', ys, he, hk, ho, hb⟩ => ?_
  obtain ⟨a, c, rfl, h1, h2, h3⟩ := keys_own ho
  have hkt : KeysT T (ys.map (·.k)) := ⟨List.pairwise_map.2 hk.rise, fun k => by rw [hk.mem, hkeys]⟩
  have hl := hkt.len
  rw [List.length_map] at hl
  exact ⟨a, ys.length, c, _, he, hkt, h1, h2, Nat.le_trans hl htr.len, h3, hb⟩
set_option maxRecDepth 100000 in
set_option maxHeartbeats 2000000 in
theorem root_at {g m : Nat} {es : List Ent} {T : List Lf} (hlow : 2 + 1 ≤ g) (w : World) (hT : Tabs K s0 w) (htr : TreeAt K s0 S w g m es T) :
    Calls Tryd.prog 26 #[.pointer (some ⟨g, 0, none⟩)] w (PartP K s0 S w g m es T (partNd K s0 256 T)) := by
  obtain ⟨Z, hz, hZs, hZn, -⟩ := zero_node
  have b2 := Has.new w 29 Z
  have hk0 : Kept (fun _ => False) w (w.alloc (.cells Z 29)) := (Kept.refl _ _).alloc _
  have htr0 := htr.kept hk0 (fun _ _ _ h => h)
  have hglt : g < w.heap.size := by obtain ⟨cs, hf⟩ := htr.frame; exact hf.obj.lt
  have hkeys := keysT_is K s0 S _ htr0
  obtain ⟨LN, hLN⟩ : ∃ L, L = ndV (partNd K s0 256 T) := ⟨_, rfl⟩
  have ln : LN.length = 33 := by rw [hLN]; exact ndV_len (part_hash K s0 hT.len 256 T)
  have SZN := Lib.hid (show (Tryd.prog.info? 29).map (·.size) = some LN.toArray.size by rw [List.size_toArray, ln]; kernel_rfl)
  have ONE := Lib.hid (show LN.toArray.all (·.oneCell') = true by rw [hLN]; exact ndV_one _)
  have HZN := Lib.hid (show Z.size = LN.toArray.size by rw [hZs, List.size_toArray, ln])
  have HT := Lib.hid hT
  have HTR := Lib.hid htr
  have HTR0 := Lib.hid htr0
  have HK0 := Lib.hid hk0
  have HB := Lib.hid b2
  have HGL := Lib.hid hglt
  have HKEYS := Lib.hid hkeys
  have ELN := Lib.hid hLN
  have HLOW := Lib.hid hlow
  unfold PartP
  clear hT htr htr0 hk0 b2 hglt hkeys hLN ln hlow hZs
  go_enter Tryd.func26, Tryd.ntmps26
  go_upto_region 1 with (fail)
  generalize w.alloc (.cells Z 29) = W0 at HTR0 HK0 HB HKEYS ⊢
  go_wp2_with fail
  refine HKEYS.out.mono ?_
  rintro _ w1 ⟨a, n, c, ks, rfl, hkt, hka, hnc, hn, hA, hb1⟩
  have hT1 : Tabs K s0 w1 := (HT.out.kept HK0.out (fun _ h => h.elim)).kept (Kept.of_below (S := fun _ => False) hb1) (fun _ h => h.elim)
  have htr1 := HTR0.out.kept (Z := fun _ => False) (Kept.of_below hb1) (fun _ _ _ h => h)
  have hfar : FarK a g := fun A hA' e => by have h1 := hA A hA'; have h2 := HK0.out.size; have h3 := HGL.out; omega
  have hp := part_is K s0 S g m es T HLOW.out (leafAt T) (leafAt_some T) 256 (by decide) w1 hT1 htr1 a n c ks hka hnc hn hfar hkt.sorted (coh_top ks) hkt.find
  rw [hkt.part htr1.keyed] at hp
  have hp' : Calls Tryd.prog 48 #[.pointer (some ⟨g, 0, none⟩), .slice a n c, .int .i64 256] w1 (PartP K s0 S w1 g m es T (partNd K s0 256 T)) := hp
  have HP := Lib.hid hp'
  have HKB := Lib.hid (HK0.out.trans (Kept.of_below (S := fun _ => False) hb1))
  have HB1 := Lib.hid (HB.out.below hb1 HB.out.lt)
  clear hb1 hT1 htr1 hfar hp hp' hkt hka hnc hn hA
  go_wp2_with fail
  refine HP.out.mono ?_
  rintro _ w2 ⟨rfl, htr2, hk2⟩
  rw [← ELN.out]
  have hgg := HGL.out
  have hb2 := HB1.out.kept hk2 (by omega)
  have hk3 : Kept (· = w.heap.size) w2 (w2.setRow w.heap.size LN.toArray) := kept_setRow (g := w.heap.size) w2 LN.toArray
  have HRES := Lib.hid (show Has (w2.setRow w.heap.size LN.toArray) w.heap.size 29 LN.toArray from hb2.setRow)
  have hkF : Kept (· = g) w (w2.setRow w.heap.size LN.toArray) := ((HKB.out.mono (fun _ _ h => h.elim)).trans hk2).step hk3 (fun k e => by have e' : k = w.heap.size := e; omega)
  obtain ⟨cs2, hf2⟩ := htr2.frame
  have HFIN := Lib.hid (And.intro (HTR.out.framed hkF (cs := cs2) ⟨hf2.obj.kept hk3 (by omega), hf2.size, hf2.lock, hf2.lv, hf2.sm, hf2.once⟩) hkF)
  have HB3 := Lib.hid hb2
  clear htr2 hk2 hb2 hk3 hkF hf2 hgg
  go_wp2_with (refine wpList_store_row rfl 29 (.tmp 2) (.tmp 9) rfl w.heap.size LN.toArray rfl rfl 29 Z HB3.out SZN.out HZN.out ONE.out ?_)
  refine bodyPost_ret (results_cell_row rfl _ _ w.heap.size 29 LN.toArray (0, 0) _ rfl HRES.out Tryd.underlying29 rfl SZN.out) rfl ?_
  exact ⟨by rw [← ELN.out], HFIN.out⟩
end
end Go.Proofs.YtcpomddkehhkkaaDoor
