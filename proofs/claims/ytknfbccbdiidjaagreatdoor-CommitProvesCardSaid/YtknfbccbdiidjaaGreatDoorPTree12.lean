/- The walk of Keys. -/
import Derived.Test.YtknfbccbdiidjaaGreatDoorWu
import Derived.Test.YtknfbccbdiidjaaGreatDoorPKeys1
import Derived.Test.YtknfbccbdiidjaaGreatDoorPMap4
import Derived.Test.YtknfbccbdiidjaaGreatDoorPTree8
import Derived.Test.YtknfbccbdiidjaaGreatDoorPMem
import Derived.Shelf.SlSortCmp.NoneTotal
import Derived.Deep.WholeRow
import Derived.WideLaws
import Derived.Deep.Cut
import Derived.Deep.CutRange
namespace Go.Proofs.YtknfbccbdiidjaaGreatDoor
set_option linter.unusedVariables false
set_option linter.unusedSimpArgs false
open Go.ChangeShapes Go.WideShapes Go.ChangeAt Go.RowKit Go.Maps

structure KeysOf (l : List Ent) (ys : List HK) : Prop where
 rise : RisingK ys
 mem : ∀ k, k ∈ ys.map (·.k) ↔ k ∈ l.map (·.1)
theorem zero_key : ∃ Z : Array Value, (∀ w, (zeroValue 27).run Tryz.prog w = .ok (.agg Z) w) ∧ Z.size = 32 ∧ ¬ Z = #[] := by
 have hs : (bcells (List.replicate 32 0)).toArray.size = 32 := by kernel_rfl
 exact ⟨_, fun w => by kernel_rfl, hs, fun e => by rw [e] at hs; cases hs⟩
theorem info_key : (Tryz.prog.info? 27).map (fun i => (i.zero, i.size, i.bytes)) = some (some (.agg (bcells (List.replicate 32 0)).toArray), 32, 32) := by kernel_rfl
theorem Iter.mem {w : World} {b r : Nat} {l : List Ent} {done : List (List Nat)} (h : Iter w b r l done) : ∀ k ∈ done, k ∈ l.map (·.1) := by
 obtain ⟨_, _, _, _, _, _, _, _, _, _, _, _, _, _, h⟩ := h
 exact h
def GathK (w : World) (m r : Nat) (l : List Ent) (done : List (List Nat)) (xs : List HK) (ov : Value) (wr : World) : Prop :=
 Iter wr m r l done ∧ xs.map (·.k) = done ∧ (∃ oa on oc, ov = .slice oa on oc) ∧ wr.ownsRow (r + 1) 27 32 ov xs.length (xs.flatMap HK.enc) ∧ Kept (fun k => w.heap.size ≤ k) w wr ∧ r < wr.heap.size

set_option maxRecDepth 100000 in
set_option maxHeartbeats 4000000 in
theorem keys_is (w : World) (g m : Nat) (l : List Ent) (hc : w.cell? ⟨g, 8484, none⟩ = some (.map (some m))) (hm : MapIs w m l) (hlen : l.length ≤ 1000) :
  Calls Tryz.prog 76 #[.pointer (some ⟨g, 0, none⟩)] w fun e w' => ∃ v' ys, e = .returned v' ∧ KeysOf l ys ∧ w'.ownsRow w.heap.size 27 32 v' ys.length (ys.flatMap HK.enc) ∧ Below w.heap.size w w' := by
 have A1 := hm.lt
 obtain ⟨w0, Af, hit, hk0, A3⟩ := range_is (T := 149) Tryz.underlying149 hm
 have A6 := Hh hlen
 have Bj := Hh hit
 have Bp := Hh hk0
 have Bk := Hh A3
 have A8 := Hh A1
 have hu30 := Tryz.underlying27
 clear hm hit hk0 A3 hlen A1
 go_enter Tryz.func76, Tryz.ntmps76
 go_wp2_with fail
 generalize hr : w.heap.size = r at Af Bj Bk A8 ⊢
 have HR := Hh hr
 clear hr
 go_loopw [3] (fun ov wr => ∃ done xs, GathK w m r l done xs ov wr) (fun _ wr => wr.rangeLeft m r)
 case atStart => exact ⟨[], [], Bj.o, rfl, ⟨_, _, _, rfl⟩, World.ownsRow_nil _ _ _ _, Bp.o.mono (fun _ _ h => h.elim), by rw [Bk.o]; omega⟩
 case round =>
  obtain ⟨done, xs, hit, hxs, ⟨oa, on, oc, rfl⟩, Ab, hkw, hr⟩ := hrel
  have hdl : xs.length ≤ 1000000 := by
    have h1 := hit.size
    have h2 : xs.length = done.length := by rw [← hxs]; simp
    have h3 := A6.o
    omega
  rcases next_is hit 0 with ⟨hd, hnx⟩ | ⟨key, vv, w2, hmem, hnd, hkh, hnx, hit1, hk1, hsz1, hlt1, hen⟩
  · have hxd : (xs.map (·.k)).Nodup := by rw [hxs]; exact hit.nodup.1
    have Aj : Below w.heap.size w wr := hkw.below (Nat.le_refl _) (fun k e => e)
    have Al : ∀ ys : List HK, ys.Perm xs → RisingK ys → KeysOf l ys := fun ys hp hr => ⟨hr, fun k => ⟨fun hk => by
      have h1 : k ∈ xs.map (·.k) := (hp.map (·.k)).mem_iff.1 hk
      rw [hxs] at h1
      exact hit.mem k h1, fun hk => by
      obtain ⟨p, hp1, rfl⟩ := List.mem_map.1 hk
      have h1 := hd p hp1
      rw [← hxs] at h1
      exact (hp.map (·.k)).mem_iff.2 h1⟩⟩
    have Aq := Hh Al
    have Ai := Hh Aj
    have hrw : w.heap.size ≤ r := by rw [HR.o]; exact Nat.le_refl _
    rcases Ab.2 with ⟨e, h0⟩ | ⟨gs, cap, cur, e, hbase, hh, h1, h2, h3, h4⟩
    · injection e with e1 e2 e3
      subst e1 e2 e3
      have Bg : xs = [] := List.eq_nil_of_length_eq_zero h0
      subst Bg
      have Aa := AnyF.slices_SortFunc_none (P := Tryz.prog) sortHash none 0 (.func (.func 104) #[] #[]) wr
      change Calls Tryz.prog 60 _ _ _ at Aa
      have Ac := Hh Aa
      clear Aa Ab hit hxs hkw hr hdl hd hxd Aj Al hrw h0 Af
      go_wp2_with fail
      refine Ac.o.mono ?_
      rintro _ W7 ⟨rfl, e8⟩
      have e9 := e8.symm
      subst e9
      clear e8
      go_wp2
      go_ret
      exact ⟨_, [], rfl, Aq.o [] (List.Perm.refl _) List.Pairwise.nil, World.ownsRow_nil _ _ _ _, Ai.o⟩
    · injection e with e1 e2 e3
      subst e1 e2 e3
      have Aa := sort_keys wr w.heap.size gs xs.length oc cur xs rfl (by omega) hh h1 h2 h3 h4 hxd hdl
      have Ac := Hh Aa
      have Bo := Hh (show w.heap.size ≤ gs by omega)
      clear Aa Ab hit hxs hkw hr hd hxd Aj Al hrw Af hbase hh h1 h2 h3 h4
      go_wp2_with fail
      refine Ac.o.mono ?_
      rintro _ W7 ⟨rfl, ys, hp, hri, Ae, hk7⟩
      have hl7 := hp.length_eq
      rw [← hl7] at Ae
      have HE := Hh (And.intro (Aq.o ys hp hri) (And.intro Ae (Ai.o.trans (hk7.below Ai.o.size (fun k e => by rw [e]; exact Bo.o)))))
      have Bq := Hh hl7
      clear hp hri Ae hk7 hl7
      go_wp2
      go_ret
      exact ⟨.slice (some ⟨gs, 0, none⟩) ys.length oc, ys, by rw [Bq.o]; rfl, HE.o⟩
  · obtain ⟨ZH, hzh, Bh, hzhn⟩ := zero_key
    obtain ⟨isum, his, Aw, Ax, Be⟩ := info_parts info_key
    have hnw : ∀ C, Has ((w2.alloc (.cells ZH 27)).setRow w2.heap.size C) w2.heap.size 27 C ∧ Kept (fun _ => False) w2 ((w2.alloc (.cells ZH 27)).setRow w2.heap.size C) := fun C => by
      rw [World.setRow_alloc_new]
      exact ⟨Has.new w2 _ _, (Kept.refl _ _).alloc _⟩
    have hmr : m < r := A8.o
    have Ag : w2.ownsRow (r + 1) 27 32 (.slice oa on oc) xs.length (xs.flatMap HK.enc) := own_kept Ab hk1 (fun k hk e => by
      rcases Ab.2 with ⟨e2, _⟩ | ⟨gs, cap, cur, e2, hbase, _⟩
      · rw [e2] at hk; simp [Value.ownBlock] at hk
      · rw [e2] at hk
        simp [Value.ownBlock] at hk
        omega)
    have Ay : Kept (fun k => w.heap.size ≤ k) w w2 := hkw.step hk1 (fun k e => .inr (by rw [e, HR.o]; exact Nat.le_refl _))
    obtain ⟨X, hX⟩ : ∃ X : HK, X = ⟨key, hkh⟩ := ⟨_, rfl⟩
    obtain ⟨L, hL⟩ : ∃ L, L = bcells key := ⟨_, rfl⟩
    have hLX : L = X.enc := by rw [hL, hX]; rfl
    have hLl : L.length = 32 := by rw [hL, bcells_length, hkh.1]
    have szk : (Tryz.prog.info? 27).map (·.size) = some L.toArray.size := by rw [List.size_toArray, hLl]; kernel_rfl
    have A2 : L.toArray.all (·.oneCell') = true := by rw [hL]; exact all_oneCell_toArray (bcells_oneC key)
    have hzL : ZH.size = L.toArray.size := by rw [Bh, List.size_toArray, hLl]
    unfold arr at hnx hen
    rw [← hL] at hnx hen
    have Bs := Hh hnw
    have Ao := Hh Ag
    have A5 := Hh Ay
    have An := Hh hit1
    have A7 := Hh hlt1
    have Bl := Hh szk
    have Ba := Hh A2
    have Bv := Hh hzL
    have Ar := Hh X.len
    have Bt := Hh X.one
    have Br := Hh hLX
    have Bu := Hh (show xs.map (·.k) ++ [X.k] = done ++ [key] by rw [hxs, hX])
    have Bi := Hh hdl
    have Bb := Hh (show r < w2.heap.size by rw [hsz1]; exact hr)
    clear hnw Ag Ay hit1 hlt1 szk A2 hzL hmem hxs hdl hL hLX hX hLl hk1 hsz1 hit Ab hkw hr Af hnd hkh
    go_upto_region 7 with (refine wpList_store_row rfl 27 (.tmp 4) (.tmp 15) rfl w2.heap.size L.toArray rfl rfl 27 ZH (heap_alloc_new w2 _) Bl.o Bv.o Ba.o ?_)
    obtain ⟨h9, hk9⟩ := Bs.o L.toArray
    generalize (w2.alloc (.cells ZH 27)).setRow w2.heap.size L.toArray = W5 at h9 hk9 ⊢
    have Ak := An.o.kept hk9 (fun h => h) (fun h => h)
    have A0 := An.o.left_kept hk9 (fun h => h) (fun h => h)
    have Ad := own_kept Ao.o hk9 (fun _ _ h => h)
    have Az := A5.o.trans (hk9.mono (fun _ _ h => h.elim))
    have hr5 : r < W5.heap.size := Nat.lt_of_lt_of_le Bb.o hk9.size
    generalize w2.heap.size = G5 at h9 ⊢
    have H9 := Hh h9
    have Ap := Hh Ad
    have Bm := Hh (show r + 1 ≤ (W5.alloc (.cells X.enc.toArray 27)).heap.size by show r + 1 ≤ (W5.heap.push _).size; rw [Array.size_push]; omega)
    have Bc := Hh (show (Value.agg (bcells (List.replicate 32 0)).toArray).cells.size = 32 by kernel_rfl)
    have A9 := Hh (show xs.length + 1 ≤ maxLen by unfold maxLen; have := Bi.o; omega)
    have Bn := Hh (show (xs.length + 1) * 32 ≤ 140737488355328 by have := Bi.o; omega)
    have As : ∀ g6 cap6 w6, w6.ownsRow (r + 1) 27 32 (.slice (some ⟨g6, 0, none⟩) (xs.length + 1) cap6) (xs.length + 1) (xs.flatMap HK.enc ++ X.enc) → (W5.alloc (.cells X.enc.toArray 27)).grownBy w6 (Value.slice oa on oc).ownBlock →
        (∃ done zs, GathK w m r l done zs (.slice (some ⟨g6, 0, none⟩) (xs.length + 1) cap6) w6) ∧ w6.rangeLeft m r < wr.rangeLeft m r := fun g6 cap6 w6 ho6 hg6 => by
      have hob : ∀ k, (Value.slice oa on oc).ownBlock = some k → r + 1 ≤ k := fun k hk => by
        rcases Ad.2 with ⟨e2, _⟩ | ⟨gs, cap, cur, e2, hbase, _⟩
        · rw [e2] at hk; simp [Value.ownBlock] at hk
        · rw [e2] at hk
          simp [Value.ownBlock] at hk
          omega
      have hk6 : Kept (fun k => (Value.slice oa on oc).ownBlock = some k) W5 w6 := ((Kept.refl _ W5).alloc _).grown hg6 (fun k e => .inl e)
      have hmr : m < r := A8.o
      refine ⟨⟨_, xs ++ [X], Ak.kept hk6 (fun e => by have := hob m e; omega) (fun e => by have := hob r e; omega), by rw [List.map_append, List.map_singleton]; exact Bu.o, ⟨_, _, _, rfl⟩, ?_, Az.step hk6 (fun k e => .inl (by have h1 := hob k e; have h2 := HR.o; show w.heap.size ≤ k; omega)), Nat.lt_of_lt_of_le hr5 hk6.size⟩, ?_⟩
      · rw [List.length_append, List.flatMap_append]
        simpa using ho6
      · rw [Ak.left_kept hk6 (fun e => by have := hob m e; omega) (fun e => by have := hob r e; omega), A0]
        exact A7.o
    have A4 := Hh As
    clear h9 hk9 Ak A0 Ad Az hr5 As hen hnx
    go_wp2_with (first
      | (refine wpList_load_row rfl 27 (.tmp 4) rfl G5 rfl 27 L.toArray (0, 0) _ H9.o Tryz.underlying27 rfl Bl.o ?_)
      | (refine wpList_build1 rfl 124 27 (.tmp 17) rfl isum _ Tryz.underlying124 his Aw X.enc (by rw [Ax, Ar.o]) (by rw [Ar.o]; kernel_rfl) (by rw [Ar.o]; decide) (by rw [Ar.o]; decide) (by rw [← Br.o]; rfl) ?_)
      | (at_builtin; refine wpList_append_lies _ rfl (.tmp 16) (.tmp 18) 124 rfl (r + 1) 27 isum _ 32 32 Tryz.underlying124 his Aw Ax Be Bc.o (by decide) _ xs.length _ rfl (Ap.o.alloc _) ⟨W5.heap.size, 0, none⟩ 1 1 X.enc rfl Ar.o (World.news_of_block (cs := X.enc.toArray) (heap_alloc_new W5 _)) Bt.o (by decide) A9.o Bn.o Bm.o _ rfl ?_; intro g6 cap6 w6 Ah Av Bd Bf))
    have Au := A4.o g6 cap6 w6 Ah Av
    have Am := Hh Au
    clear Au Ah Av Bd Bf
    go_wp2
    go_roundw
    case rel =>
      obtain ⟨dn, ys, e⟩ := Am.o.1
      exact ⟨dn, ys, e⟩
    case measure => exact Am.o.2
section

/- What stands for all of a tree: Root. -/

def leafAt (T : List Lf) (k : List Nat) : Lf := (findT T k).getD ⟨k, [], 0⟩
theorem leafAt_some (T : List Lf) : ∀ k, (∃ l, findT T k = some l) → findT T k = some (leafAt T k) := fun k ⟨l, h⟩ => by unfold leafAt; rw [h]; rfl
structure KeysT (T : List Lf) (ks : List (List Nat)) : Prop where
 sorted : Sorted ks
 mem : ∀ k, k ∈ ks ↔ k ∈ T.map (·.k)
theorem KeysT.find {T : List Lf} {ks : List (List Nat)} (h : KeysT T ks) : ∀ k ∈ ks, ∃ l, findT T k = some l := fun k hk => by
 obtain ⟨t, ht, e⟩ := List.mem_map.1 ((h.mem k).1 hk)
 cases hf : findT T k with
 | some l => exact ⟨l, rfl⟩
 | none => exact absurd e (find_none hf t ht)
theorem KeysT.len {T : List Lf} {ks : List (List Nat)} (h : KeysT T ks) : ks.length ≤ T.length := by
 have := len_sub ks (T.map (·.k)) h.sorted.nodup (fun k hk => (h.mem k).1 hk)
 simpa using this
theorem KeysT.perm {T : List Lf} {ks : List (List Nat)} (h : KeysT T ks) (hT : (T.map (·.k)).Nodup) : (ks.map (leafAt T)).Perm T := by
 have hk : ∀ k ∈ ks, (leafAt T k).k = k := fun k hk => (find_key (leafAt_some T k (h.find k hk))).1
 have nd : (ks.map (leafAt T)).Nodup := by
   refine List.pairwise_map.2 (List.Pairwise.imp_of_mem (fun {a b} ha hb hne e => hne ?_) h.sorted.nodup)
   rw [← hk a ha, ← hk b hb, e]
 have nT : T.Nodup := (List.pairwise_map.1 hT).imp fun hne e => hne (by rw [e])
 refine (List.perm_ext_iff_of_nodup nd nT).2 fun t => ⟨fun ht => ?_, fun ht => ?_⟩
 · obtain ⟨k, hk1, rfl⟩ := List.mem_map.1 ht
   exact (find_key (leafAt_some T k (h.find k hk1))).2
 · refine List.mem_map.2 ⟨t.k, (h.mem _).2 (List.mem_map.2 ⟨t, ht, rfl⟩), ?_⟩
   unfold leafAt
   rw [find_mem hT ht]; rfl
theorem KeysT.part {T : List Lf} {ks : List (List Nat)} (h : KeysT T ks) (hT : Keyed (T.map (·.k))) (K s0 : List Wd) : partNd K s0 256 (ks.map (leafAt T)) = partNd K s0 256 T := by
 have hk : (ks.map (leafAt T)).map (·.k) = ks := by
   rw [List.map_map]
   conv => rhs; rw [← List.map_id ks]
   exact List.map_congr_left fun k hk => (find_key (leafAt_some T k (h.find k hk))).1
 refine part_perm K s0 256 _ _ ?_ ?_ (h.perm hT.nodup)
 · rw [hk]
   exact ⟨fun k hk => hT.hash k ((h.mem k).1 hk), h.sorted.nodup⟩
 · rw [hk]; exact coh_top ks
theorem keys_own {w : World} {base : Nat} {v : Value} {ys : List HK} (h : w.ownsRow base 27 32 v ys.length (ys.flatMap HK.enc)) :
   ∃ a c, v = .slice a ys.length c ∧ KeysAt w a ys.length (ys.map (·.k)) ∧ ys.length ≤ c ∧ ∀ A, a = some A → base ≤ A.block := by
 rcases h.2 with ⟨rfl, h0⟩ | ⟨b, cap, cur, rfl, hB, hh, h1, h2, h3, h4⟩
 · have e : ys = [] := List.eq_nil_of_length_eq_zero h0
   subst e
   exact ⟨none, 0, rfl, ⟨rfl, fun k hk => (by cases hk), fun h => absurd h (by simp)⟩, Nat.le_refl _, fun A hA => (by cases hA)⟩
 · refine ⟨_, cap, rfl, ⟨by simp, fun k hk => ?_, fun h0 => ⟨b, 0, rfl, (Array.getElem?_eq_some_iff.1 hh).1, fun i k hi j v hv => ?_⟩⟩, h1, fun A hA => by injection hA with hA; rw [← hA]; exact hB⟩
   · obtain ⟨y, _, rfl⟩ := List.mem_map.1 hk
     exact y.h
   · rw [List.getElem?_map] at hi
     obtain ⟨y, hy, rfl⟩ := Option.map_eq_some_iff.1 hi
     have hj := (List.getElem?_eq_some_iff.1 hv).1
     rw [bcells_length, y.h.1] at hj
     have hil := (List.getElem?_eq_some_iff.1 hy).1
     have hg : Has w b 27 cur := hh
     refine hg.cell_is ?_
     have e := flat_getK HK.enc 32 HK.len ys i j y hy hj
     have hlt : i * 32 + j < ys.length * 32 := by
      have : (i + 1) * 32 ≤ ys.length * 32 := Nat.mul_le_mul_right 32 hil
      omega
     rw [Nat.zero_add, ← Array.getElem?_toList]
     have e2 : cur.toList[i * 32 + j]? = (cur.toList.take (ys.length * 32))[i * 32 + j]? := by rw [List.getElem?_take_of_lt hlt]
     rw [e2, h4, e]
     exact hv

section
variable (K s0 : List Wd) (S : Nat → Prop)
theorem keysT_is {g m : Nat} {es : List Ent} {T : List Lf} (w : World) (htr : TreeAt K s0 S w g m es T) :
  Calls Tryz.prog 76 #[.pointer (some ⟨g, 0, none⟩)] w fun e w' => ∃ a n c ks, e = .returned (.slice a n c) ∧ KeysT T ks ∧ KeysAt w' a n ks ∧ n ≤ c ∧ n ≤ 256 ∧ (∀ A, a = some A → w.heap.size ≤ A.block) ∧ Below w.heap.size w w' := by
 obtain ⟨cs, hf⟩ := htr.frame
 have Aa := htr.leaves.keys
 have hlen : es.length ≤ 256 := by
  have := congrArg List.length Aa
  rw [List.length_map, List.length_map] at this
  have := htr.len
  omega
 refine (keys_is w g m es (hf.obj.cell_is hf.lv) htr.map (by omega)).mono fun e w' ⟨v', ys, he, hk, ho, hb⟩ => ?_
 obtain ⟨a, c, rfl, h1, h2, h3⟩ := keys_own ho
 have hkt : KeysT T (ys.map (·.k)) := ⟨List.pairwise_map.2 hk.rise, fun k => by rw [hk.mem, Aa]⟩
 have hl := hkt.len
 rw [List.length_map] at hl
 exact ⟨a, ys.length, c, _, he, hkt, h1, h2, Nat.le_trans hl htr.len, h3, hb⟩
set_option maxRecDepth 100000 in
set_option maxHeartbeats 2000000 in
theorem root_at {g m : Nat} {es : List Ent} {T : List Lf} (hlow : 2 + 1 ≤ g) (w : World) (hT : Tabs K s0 w) (htr : TreeAt K s0 S w g m es T) :
  Calls Tryz.prog 46 #[.pointer (some ⟨g, 0, none⟩)] w (PartP K s0 S w g m es T (partNd K s0 256 T)) := by
 obtain ⟨Z, hz, hZs, hZn, -⟩ := zero_node
 have b2 := Has.new w 30 Z
 have hk0 : Kept (fun _ => False) w (w.alloc (.cells Z 30)) := (Kept.refl _ _).alloc _
 have Ac := htr.kept hk0 (fun _ _ _ h => h)
 have Ag : g < w.heap.size := by obtain ⟨cs, hf⟩ := htr.frame; exact hf.obj.lt
 have Ab := keysT_is K s0 S _ Ac
 obtain ⟨LN, hLN⟩ : ∃ L, L = ndV (partNd K s0 256 T) := ⟨_, rfl⟩
 have ln : LN.length = 33 := by rw [hLN]; exact ndV_len (part_hash K s0 hT.len 256 T)
 have Ao := Hh (show (Tryz.prog.info? 30).map (·.size) = some LN.toArray.size by rw [List.size_toArray, ln]; kernel_rfl)
 have Av := Hh (show LN.toArray.all (·.oneCell') = true by rw [hLN]; exact ndV_one _)
 have Au := Hh (show Z.size = LN.toArray.size by rw [hZs, List.size_toArray, ln])
 have HT := Hh hT
 have As := Hh htr
 have Ae := Hh Ac
 have Ai := Hh hk0
 have HB := Hh b2
 have An := Hh Ag
 have Aa := Hh Ab
 have Am := Hh hLN
 have Ak := Hh hlow
 unfold PartP
 clear hT htr Ac hk0 b2 Ag Ab hLN ln hlow hZs
 go_enter Tryz.func46, Tryz.ntmps46
 go_upto_region 1 with (fail)
 generalize w.alloc (.cells Z 30) = W0 at Ae Ai HB Aa ⊢
 go_wp2_with fail
 refine Aa.o.mono ?_
 rintro _ w1 ⟨a, n, c, ks, rfl, hkt, hka, hnc, hn, hA, hb1⟩
 have hT1 : Tabs K s0 w1 := (HT.o.kept Ai.o (fun _ h => h.elim)).kept (Kept.of_below (S := fun _ => False) hb1) (fun _ h => h.elim)
 have Ad := Ae.o.kept (Z := fun _ => False) (Kept.of_below hb1) (fun _ _ _ h => h)
 have Af : FarK a g := fun A hA' e => by have h1 := hA A hA'; have h2 := Ai.o.size; have h3 := An.o; omega
 have hp := part_is K s0 S g m es T Ak.o (leafAt T) (leafAt_some T) 256 (by decide) w1 hT1 Ad a n c ks hka hnc hn Af hkt.sorted (coh_top ks) hkt.find
 rw [hkt.part Ad.keyed] at hp
 have hp' : Calls Tryz.prog 75 #[.pointer (some ⟨g, 0, none⟩), .slice a n c, .int .i64 256] w1 (PartP K s0 S w1 g m es T (partNd K s0 256 T)) := hp
 have HP := Hh hp'
 have Ar := Hh (Ai.o.trans (Kept.of_below (S := fun _ => False) hb1))
 have Ap := Hh (HB.o.below hb1 HB.o.lt)
 clear hb1 hT1 Ad Af hp hp' hkt hka hnc hn hA
 go_wp2_with fail
 refine HP.o.mono ?_
 rintro _ w2 ⟨rfl, Ah, hk2⟩
 rw [← Am.o]
 have hgg := An.o
 have hb2 := Ap.o.kept hk2 (by omega)
 have hk3 : Kept (· = w.heap.size) w2 (w2.setRow w.heap.size LN.toArray) := kept_setRow (g := w.heap.size) w2 LN.toArray
 have Al := Hh (show Has (w2.setRow w.heap.size LN.toArray) w.heap.size 30 LN.toArray from hb2.setRow)
 have hkF : Kept (· = g) w (w2.setRow w.heap.size LN.toArray) := ((Ar.o.mono (fun _ _ h => h.elim)).trans hk2).step hk3 (fun k e => by have e' : k = w.heap.size := e; omega)
 obtain ⟨cs2, hf2⟩ := Ah.frame
 have Aj := Hh (And.intro (As.o.framed hkF (cs := cs2) ⟨hf2.obj.kept hk3 (by omega), hf2.size, hf2.lock, hf2.lv, hf2.sm, hf2.once⟩) hkF)
 have Aq := Hh hb2
 clear Ah hk2 hb2 hk3 hkF hf2 hgg
 go_wp2_with (refine wpList_store_row rfl 30 (.tmp 2) (.tmp 9) rfl w.heap.size LN.toArray rfl rfl 30 Z Aq.o Ao.o Au.o Av.o ?_)
 refine bodyPost_ret (results_cell_row rfl _ _ w.heap.size 30 LN.toArray (0, 0) _ rfl Al.o Tryz.underlying30 rfl Ao.o) rfl ?_
 exact ⟨by rw [← Am.o], Aj.o⟩
end
end

/- The walk of None: is a leaf nothing? -/

set_option maxRecDepth 100000 in
theorem none_is (w : World) (a : Option Addr) (n c s : Nat) (hn : n ≤ 9223372036854775807) : Calls Tryz.prog 73 #[.agg #[.slice a n c, .int .u64 (s : Int)]] w fun e w' => e = .returned (.bool (decide (n = 0 ∧ s = 0))) ∧ Below w.heap.size w w' := by
 have Ab := Has.new w 50 #[.slice a n c, .int .u64 (s : Int)]
 have d0 : (w.alloc (.cells #[.slice a n c, .int .u64 (s : Int)] 50)).cell? ⟨w.heap.size, 0, none⟩ = some (.slice a n c) := Ab.cell_is rfl
 have d1 : (w.alloc (.cells #[.slice a n c, .int .u64 (s : Int)] 50)).cell? ⟨w.heap.size, 1, none⟩ = some (.int .u64 (s : Int)) := Ab.cell_is rfl
 have Aa := Hh ((Below.refl w.heap.size w).alloc (Nat.le_refl _) (.cells #[.slice a n c, .int .u64 (s : Int)] 50))
 clear Ab
 by_cases h0 : n = 0
 · subst h0
   by_cases h1 : s = 0
   · subst h1
     go_enter Tryz.func73, Tryz.ntmps73
     go_wp2
     go_ret
     exact ⟨rfl, Aa.o⟩
   · have h2 : ((s : Int) == 0) = false := by simp; omega
     have HD := Hh (show decide ((0 : Nat) = 0 ∧ s = 0) = false by simp [h1])
     go_enter Tryz.func73, Tryz.ntmps73
     go_wp2
     go_ret
     exact ⟨by first | rfl | (rw [HD.o]; rfl), Aa.o⟩
 · have h2 : ((n : Int) == 0) = false := by simp; omega
   have HD := Hh (show decide (n = 0 ∧ s = 0) = false by simp [h0])
   go_enter Tryz.func73, Tryz.ntmps73
   go_wp2
   go_ret
   exact ⟨by first | rfl | (rw [HD.o]; rfl), Aa.o⟩

/- A new tree; None; slices.Clone at bytes; how many stand in a tree. -/

theorem zero_tree : Tryz.zeroCells163.size = 8486 ∧ Tryz.zeroCells163[0]? = some (.int .u32 0) ∧ Tryz.zeroCells163[1]? = some (.int .i32 0) ∧ Tryz.zeroCells163[8485]? = some (.int .u64 0) := ⟨by kernel_rfl, by kernel_rfl, by kernel_rfl, by kernel_rfl⟩
theorem build_tree (b : Nat) (w : World) : (Instr.build 163 #[(2, .map (some b))]).run Tryz.prog w = .ok (.agg (Tryz.zeroCells163.setIfInBounds 8484 (.map (some b)))) w := by kernel_rfl
set_option maxRecDepth 100000 in
set_option maxHeartbeats 1000000 in
theorem newT_is (K s0 : List Wd) (S : Nat → Prop) (w : World) (hn : ∀ k, w.heap.size ≤ k → S k) : Calls Tryz.prog 42 #[] w fun e w' => ∃ g, e = .returned (.pointer (some ⟨g, 0, none⟩)) ∧ Tr K s0 S w' g [] ∧ Below w.heap.size w w' ∧ w.heap.size ≤ g := by
 obtain ⟨z1, z2, z3, z4⟩ := zero_tree
 obtain ⟨C, hC⟩ : ∃ C, C = Tryz.zeroCells163.setIfInBounds 8484 (.map (some w.heap.size)) := ⟨_, rfl⟩
 have hbd : ∀ W, (Instr.build 163 #[(2, .map (some w.heap.size))]).run Tryz.prog W = .ok (.agg C) W := fun W => by rw [hC]; exact build_tree _ W
 have c0 : C.size = 8486 := by rw [hC, Array.size_setIfInBounds, z1]
 have c1 : C[0]? = some (.int .u32 0) := by rw [hC, Array.getElem?_setIfInBounds_ne (by decide)]; exact z2
 have c2 : C[1]? = some (.int .i32 0) := by rw [hC, Array.getElem?_setIfInBounds_ne (by decide)]; exact z3
 have c3 : C[8485]? = some (.int .u64 0) := by rw [hC, Array.getElem?_setIfInBounds_ne (by decide)]; exact z4
 have c4 : C[8484]? = some (.map (some w.heap.size)) := by rw [hC, Array.getElem?_setIfInBounds_self_of_lt (by rw [z1]; decide)]
 have hmp := MapIs.new w
 have hT := Has.new (w.alloc (.map #[] 0)) 163 C
 have hs : (w.alloc (.map #[] 0)).heap.size = w.heap.size + 1 := by simp
 rw [hs] at hT
 have Aa : Below w.heap.size w ((w.alloc (.map #[] 0)).alloc (.cells C 163)) := ((Below.refl _ _).alloc (Nat.le_refl _) _).alloc (by rw [hs]; omega) _
 have htr : TreeAt K s0 S ((w.alloc (.map #[] 0)).alloc (.cells C 163)) (w.heap.size + 1) w.heap.size [] [] :=
  ⟨⟨C, hT, c0, c2, c4, c3, .inl c1⟩, hmp.kept (S := fun _ => False) ((Kept.refl _ _).alloc _) (fun h => h), trivial, ⟨fun k hk => (by cases hk), List.nodup_nil⟩, by decide, by decide, fun t ht => (by cases ht), hn _ (by omega), hn _ (Nat.le_refl _)⟩
 have Ab := Hh (And.intro (show Tr K s0 S ((w.alloc (.map #[] 0)).alloc (.cells C 163)) (w.heap.size + 1) [] from ⟨_, _, htr⟩) Aa)
 have EC := Hh hC
 have hmm := @run_makeMap Tryz.prog
 clear hC hbd c0 c1 c2 c3 c4 hmp hT hs Aa htr z1 z2 z3 z4 hn
 go_enter Tryz.func42, Tryz.ntmps42
 go_wp2
 go_ret
 have hf := Ab.o
 rw [EC.o] at hf
 exact ⟨_, rfl, hf.1, hf.2, by omega⟩
set_option maxRecDepth 100000 in
theorem len_map {w : World} {m : Nat} {l : List Ent} (h : MapIs w m l) (ty : TypeId) : (Builtin.len_ #[149] ty #[.map (some m)]).run Tryz.prog w = .ok (goInt l.length) w := by
 obtain ⟨es, clock, hb, hs, he, hl⟩ := h
 have hl2 : es.size = l.length := by
  have := congrArg List.length he
  rw [List.length_map, List.length_map, Array.length_toList] at this
  exact this
 rw [← hl2]
 exact run_len_map w 149 ty m es clock Tryz.underlying149 hb
set_option maxRecDepth 100000 in
theorem eq_nil_bytes (w : World) (a : Option Addr) (n c : Nat) : (binOp .eql 48 (.slice a n c) (.slice none 0 0)).run Tryz.prog w = .ok (.bool a.isNone) w :=
 Lib.run_eql_slice_nil w 48 5 a n c 0 0 Tryz.underlying48
theorem info_byte : (Tryz.prog.info? 5).map (fun i => (i.zero, i.size, i.bytes)) = some (some (.int .u8 0), 1, 1) := by kernel_rfl
set_option maxRecDepth 100000 in
set_option maxHeartbeats 1000000 in
theorem clone_bytes (w : World) (v : Value) (bs : List Nat) (hn : bs.length ≤ 1000000) (h : Bytes w w.heap.size v bs) :
  Calls Tryz.prog 74 #[v] w fun e w' => ∃ v', e = .returned v' ∧ RowB (fun k => w.heap.size ≤ k) w' v' bs ∧ Below w.heap.size w w' := by
 have hnil := eq_nil_bytes
 obtain ⟨a, c, rfl, hc, hb, hp⟩ := h
 cases a with
 | none =>
  have h0 : bs = [] := by
   refine Classical.byContradiction fun hne => ?_
   obtain ⟨bg, bo, e, _⟩ := hp (List.length_pos_iff.2 hne)
   cases e
  subst h0
  go_enter Tryz.func74, Tryz.ntmps74
  go_wp2
  go_ret
  exact ⟨_, rfl, RowB.nil _ _ _ _, Below.refl _ _⟩
 | some A =>
  obtain ⟨i0, hi, hz0, hz1, hz2⟩ := info_parts info_byte
  obtain ⟨n, hnn⟩ : ∃ n, n = bs.length := ⟨_, rfl⟩
  obtain ⟨L, hL⟩ : ∃ L, L = bcells bs := ⟨_, rfl⟩
  have hfl : L.length = n := by rw [hL, bcells_length, hnn]
  have Aa : ∀ v ∈ L, v.oneCell' = true := by rw [hL]; exact bcells_oneC bs
  have hcl : ∀ j u, L[j]? = some u → (w.alloc (.cells #[] 5)).cell? (A.add j) = some u := fun j u hu => by
   have hj := (List.getElem?_eq_some_iff.1 hu).1
   obtain ⟨bg, bo, e, hne, hcc⟩ := hp (by omega)
   injection e with e
   subst e
   have := hcc j (by omega)
   rw [Addr.add_mid, World.cell?_alloc_lt w _ _ (World.block_lt_of_cell? w _ this), this]
   rw [hL, bcells_get bs j (by omega)] at hu
   exact hu
  have Ae := Hh hcl
  have Ac := Hh Aa
  have Af := Hh hfl
  have HB := Hh (And.intro hb (And.intro hL hnn))
  rw [← hnn] at hn hc ⊢
  clear hcl Aa hfl hb hp hnn hL
  go_enter Tryz.func74, Tryz.ntmps74
  go_wp2_with (at_builtin; refine wpList_append_own _ rfl (.tmp 5) (.tmp 6) 48 rfl w.heap.size 5 i0 _ 1 1 Tryz.underlying48 hi hz0 hz1 hz2 (by kernel_rfl) (by decide) _ 0 [] rfl (World.ownsRow_made w #[] 0 (Nat.le_refl _) (by decide) rfl) A n c L rfl (by rw [Af.o, Nat.mul_one]) Ae.o Ac.o (by unfold maxLen; omega) (by omega) (by simp) ?_)
  intro v' w' Ab hgr _
  have Ad := Hh Ab
  have Ag := Hh hgr
  clear Ab hgr
  go_wp2
  go_ret
  obtain ⟨b1, b2, b3⟩ := HB.o
  have ho := Ad.o
  rw [b2] at ho
  exact ⟨v', rfl, RowB.of_own ho b3.symm b1 (fun k h => h), ((Below.refl _ _).alloc (Nat.le_refl _) _).grown Ag.o (by simp) (fun k hk => by simp [Value.ownBlock] at hk; omega)⟩
/- The walk of Put. -/

def putE (T : List Lf) (l : Lf) : Int := if l.v.length = 0 ∧ l.s = 0 then 1 else if 65536 < l.v.length then 3 else if findT T l.k = none ∧ 256 ≤ T.length then 4 else if sumT T - wasS T l.k + l.s < 18446744073709551616 then 0 else 10
def putN (T : List Lf) (l : Lf) : List Lf := if putE T l = 0 then putT T l else T
def PutP (K s0 : List Wd) (S : Nat → Prop) (w : World) (g m : Nat) (T : List Lf) (l : Lf) (e : Ending) (w' : World) : Prop :=
 e = .returned (.int .i64 (putE T l)) ∧ (∃ es', TreeAt K s0 S w' g m es' (putN T l)) ∧ Kept (fun k => k = g ∨ k = m) w w'
theorem zero_leaf (w : World) : (zeroValue 50).run Tryz.prog w = .ok (leafV (.slice none 0 0) 0) w := by kernel_rfl
theorem Leaves.ask {S : Nat → Prop} {w : World} {es : List Ent} {T : List Lf} (h : Leaves S w es T) (k : List Nat) :
   ∃ (a0 : Option Addr) (n0 c0 ws : Nat) (kn : Bool), (look es k).getD (leafV (.slice none 0 0) 0) = .agg #[.slice a0 n0 c0, .int .u64 (ws : Int)] ∧ (look es k).isSome = kn ∧ ws = wasS T k ∧ kn = (findT T k).isSome ∧ ∀ l, findT T k = some l → RowB S w (.slice a0 n0 c0) l.v ∧ n0 = l.v.length ∧ ws = l.s := by
 rcases h.look_ k with ⟨h1, h2⟩ | ⟨v, l, h1, h2, h3⟩
 · exact ⟨none, 0, 0, 0, false, by rw [h1]; rfl, by rw [h1]; rfl, by unfold wasS; rw [h2], by rw [h2]; rfl, fun l e => by rw [h2] at e; cases e⟩
 · obtain ⟨a, c, rfl, h4⟩ := id h3
   exact ⟨a, _, c, l.s, true, by rw [h1]; rfl, by rw [h1]; rfl, by unfold wasS; rw [h2], by rw [h2]; rfl, fun l' e => by
    rw [h2] at e
    injection e with e
    subst e
    exact ⟨h3, rfl, rfl⟩⟩

set_option maxRecDepth 100000 in
set_option maxHeartbeats 8000000 in
theorem putT_is (K s0 : List Wd) (hl8 : s0.length = 8) (S : Nat → Prop) (w : World) (g m : Nat) (es : List Ent) (T : List Lf) (htr : TreeAt K s0 S w g m es T) (hn : ∀ k, w.heap.size ≤ k → S k) (l : Lf) (hk : IsHash l.k) (v : Value) (hv : Bytes w w.heap.size v l.v) (hs : l.s < 18446744073709551616) (hlen : l.v.length ≤ 1000000) :
   Calls Tryz.prog 43 #[.pointer (some ⟨g, 0, none⟩), arr l.k, leafV v l.s] w (PutP K s0 S w g m T l) := by
 obtain ⟨a, c, rfl, hv2⟩ := id hv
 have hkl : (bcells l.k).length = 32 := by rw [bcells_length, hk.1]
 obtain ⟨LK, hLK⟩ : ∃ L, L = bcells l.k := ⟨_, rfl⟩
 obtain ⟨n, hnn⟩ : ∃ n, n = l.v.length := ⟨_, rfl⟩
 obtain ⟨s, hss⟩ : ∃ s, s = l.s := ⟨_, rfl⟩
 obtain ⟨st, hst⟩ : ∃ x, x = sumT T := ⟨_, rfl⟩
 obtain ⟨a0, n0, c0, ws, kn, Ao, Aq, hws, hkn, -⟩ := htr.leaves.ask l.k
 have hle : ws ≤ st := by rw [hws, hst]; exact was_le T l.k
 have Bf := htr.fit
 rw [← hst] at Bf
 obtain ⟨sr, hsr⟩ : ∃ x, x = st - ws := ⟨_, rfl⟩
 obtain ⟨cs, hf⟩ := htr.frame
 have Ae := hf.obj.lt
 have Bg := htr.map.lt
 have hmg : m ≠ g := fun e => by
   obtain ⟨es', clock, h1, _⟩ := htr.map
   have := hf.obj
   unfold Has at this
   rw [e, this] at h1
   cases h1
 have Ay : es.length = T.length := by
   have := congrArg List.length htr.leaves.keys
   rw [List.length_map, List.length_map] at this
   exact this
 have hT256 := htr.len
 obtain ⟨en, hen⟩ : ∃ x, x = es.length := ⟨_, rfl⟩
 have Bx := Hh (show (Tryz.prog.info? 27).map (·.size) = some LK.length by rw [hLK, hkl]; kernel_rfl)
 have Ca := Hh (show (Tryz.prog.info? 50).map (·.size) = some (#[Value.slice a0 n0 c0, .int .u64 (ws : Int)] : Array Value).size by kernel_rfl)
 have Bt := Hh (show (#[Value.slice a0 n0 c0, .int .u64 (ws : Int)] : Array Value).all (·.oneCell') = true by kernel_rfl)
 have hb1 := (Has.new w 27 LK.toArray).alloc (.cells #[.slice a n c, .int .u64 (s : Int)] 50)
 have hb2 := Has.new (w.alloc (.cells LK.toArray 27)) 50 #[.slice a n c, .int .u64 (s : Int)]
 have s1 : ∀ (x : World) o, (x.alloc o).heap.size = x.heap.size + 1 := fun x o => by simp
 rw [s1] at hb2
 have Be := ((Below.refl w.heap.size w).alloc (Nat.le_refl _) (.cells LK.toArray 27)).alloc (by rw [s1]; omega) (.cells #[.slice a n c, .int .u64 (s : Int)] 50)
 have hlk : ∀ w', Below w.heap.size w w' → (Instr.lookup 149 (.map (some m)) (.agg LK.toArray) true).run Tryz.prog w' = .ok (.tuple #[.agg #[.slice a0 n0 c0, .int .u64 (ws : Int)], .bool kn]) w' := fun w' hb => by
   have := lookup_ok_is (T := 149) Tryz.underlying149 zero_leaf (htr.map.kept (Kept.of_below (S := fun _ => False) hb) (fun h => h)) hk
   rw [Ao, Aq] at this
   rw [hLK]; exact this
 have hgl : ∀ w', Below w.heap.size w w' → w'.cell? ⟨g, 8484, none⟩ = some (.map (some m)) ∧ w'.cell? ⟨g, 8485, none⟩ = some (.int .u64 (st : Int)) := fun w' hb => ⟨(hf.obj.below hb Ae).cell_is hf.lv, (hf.obj.below hb Ae).cell_is (by rw [hst]; exact hf.sm)⟩
 have hln : ∀ w' ty, Below w.heap.size w w' → (Builtin.len_ #[149] ty #[.map (some m)]).run Tryz.prog w' = .ok (goInt en) w' := fun w' ty hb => by rw [hen]; exact len_map (htr.map.kept (Kept.of_below (S := fun _ => False) hb) (fun h => h)) ty
 have Ar : ∀ w', Below w.heap.size w w' → putE T l ≠ 0 → ∀ x, x = putE T l → PutP K s0 S w g m T l (.returned (.int .i64 x)) w' := fun w' hb hne x hx => by
   subst hx
   refine ⟨rfl, ⟨es, ?_⟩, (Kept.of_below hb).mono (fun _ _ h => h)⟩
   unfold putN
   rw [if_neg hne]
   exact htr.kept (Kept.of_below (S := fun _ => False) hb) (fun _ _ _ h => h)
 have An : ∀ (w5 : World) (v' : Value), Below w.heap.size w w5 → putE T l = 0 → RowB (fun k => w.heap.size ≤ k) w5 v' l.v → ∃ w6 v0 sti, (Instr.mapEntry 149 (.map (some m)) (.agg LK.toArray)).run Tryz.prog w5 = .ok (.tuple #[v0, .int .i64 sti]) w6 ∧ Kept (· = m) w5 w6 ∧
     ∃ w7, (Instr.entryStore 149 (.map (some m)) (.int .i64 sti) (leafV v' l.s)).run Tryz.prog w6 = .ok () w7 ∧ Kept (· = m) w5 w7 ∧ PutP K s0 S w g m T l (.returned (.int .i64 0)) (w7.setCell ⟨g, 8485, none⟩ (.int .u64 ((sr + s : Nat) : Int))) := fun w5 v' hb he hr => by
   obtain ⟨w6, v0, sti, q1, q2, -, q4⟩ := entry_is (T := 149) Tryz.underlying149 zero_leaf (htr.map.kept (Kept.of_below (S := fun _ => False) hb) (fun h => h)) hk
   obtain ⟨w7, q5, q6, q7⟩ := q4 (leafV v' l.s)
   refine ⟨w6, v0, sti, by rw [hLK]; exact q1, q2, w7, q5, q7, ⟨by rw [he], ⟨putL es l.k (leafV v' l.s), ?_⟩, ?_⟩⟩
   · unfold putN
     rw [if_pos he]
     have h7 : Has w7 g 163 cs := (hf.obj.below hb Ae).kept q7 (fun e => hmg e.symm)
     have hk8 : Kept (· = g) w7 (w7.setCell ⟨g, 8485, none⟩ (.int .u64 ((sr + s : Nat) : Int))) := (Kept.refl (· = g) w7).set (p := ⟨g, 8485, none⟩) (.inl rfl) _
     have hpE := he
     unfold putE at hpE
     have Bj : sumT (putT T l) = sr + s := by
       have := sum_put T l
       rw [← hws, ← hst, ← hss] at this
       omega
     split at hpE
     · cases hpE
     · split at hpE
       · cases hpE
       · next hshort =>
         split at hpE
         · cases hpE
         · next hroom =>
           split at hpE
           · next hfits =>
             have Bu : Leaves S (w7.setCell ⟨g, 8485, none⟩ (.int .u64 ((sr + s : Nat) : Int))) (putL es l.k (leafV v' l.s)) (putT T l) := by
               have far : ∀ {S' : Nat → Prop} {v bs}, RowB S' w5 v bs → RowB S' (w7.setCell ⟨g, 8485, none⟩ (.int .u64 ((sr + s : Nat) : Int))) v bs := fun {S' v bs} hr' => by
                 obtain ⟨a', c', e, h1, h2, h3⟩ := hr'
                 refine ⟨a', c', e, h1, h2, fun hl => ?_⟩
                 obtain ⟨bg, bo, cur, e2, hz, hh, hc⟩ := h3 hl
                 have hbm : bg ≠ m := fun e => by
                  obtain ⟨es', clock, h1, _⟩ := htr.map.kept (Kept.of_below (S := fun _ => False) hb) (fun h => h)
                  unfold Has at hh
                  rw [e, h1] at hh
                  cases hh
                 have hbg : bg ≠ g := hh.ne (hf.obj.below hb Ae) (by decide)
                 exact ⟨bg, bo, cur, e2, hz, (hh.kept q7 hbm).kept hk8 hbg, hc⟩
               refine Leaves.put ?_ (htr.leaves.imp fun v bs hr' => far (hr'.kept (Kept.of_below (S := fun _ => False) hb) (fun _ _ _ h => h)))
               exact (far hr).zone (fun k _ h => hn k h)
             refine ⟨⟨_, h7.set 8485 _, by rw [Array.size_setIfInBounds]; exact hf.size, by rw [Array.getElem?_setIfInBounds_ne (by decide)]; exact hf.lock, by rw [Array.getElem?_setIfInBounds_ne (by decide)]; exact hf.lv, by rw [Array.getElem?_setIfInBounds_self_of_lt (by rw [hf.size]; decide), Bj], ?_⟩, q6.kept hk8 hmg, Bu, htr.keyed.put hk, by rw [Bj, hsr, hst, hws, hss]; exact hfits, ?_, fun t ht => ?_, htr.zg, htr.zm⟩
             · rcases hf.once with h | ⟨h1, h2⟩
               · exact .inl (by rw [Array.getElem?_setIfInBounds_ne (by decide)]; exact h)
               · refine .inr ⟨by rw [Array.getElem?_setIfInBounds_ne (by decide)]; exact h1, fun h hh j u hu => ?_⟩
                 have hj := (List.getElem?_eq_some_iff.1 hu).1
                 have hj2 := h2 h hh j u hu
                 have hj3 : 3 + h * 33 + j < 8484 := by
                  have hl33 : j < 33 := by
                   refine Nat.lt_of_not_le fun hc => ?_
                   have : (ncells (emptyNd K s0 h).h (emptyNd K s0 h).s).length = 33 := ndV_len (empty_hash K s0 hl8 h)
                   omega
                  have := Nat.mul_le_mul_right 33 hh
                  omega
                 rw [Array.getElem?_setIfInBounds_ne (by omega)]
                 exact hj2
             · rw [put_len]
               split
               · next e =>
                    rcases Nat.lt_or_ge T.length 256 with h | h
                    · omega
                    · exact absurd ⟨e, h⟩ hroom
               · exact htr.len
             · rcases put_mem ht with rfl | ht
               · omega
               · exact htr.short t ht
           · cases hpE
   · exact ((Kept.of_below hb).trans (q7.mono (S' := fun k => k = g ∨ k = m) (fun _ _ h => .inr h))).set (p := ⟨g, 8485, none⟩) (.inl (.inl rfl)) _
 have hfz : ∀ v u, Below w.heap.size w v → Kept (· = m) v u → u.frozen? ⟨g, 8485, none⟩ = false := fun v u h1 h2 => ((hf.obj.below h1 Ae).kept h2 (fun e => hmg e.symm)).free _
 have Bp := Hh hfz
 have E1 := Hh (show n = 0 ∧ s = 0 → 1 = putE T l from fun e => by rw [hnn, hss] at e; unfold putE; rw [if_pos e])
 have E3 := Hh (show ¬ (n = 0 ∧ s = 0) → 65536 < n → 3 = putE T l from fun e h => by rw [hnn, hss] at e; rw [hnn] at h; unfold putE; rw [if_neg e, if_pos h])
 have E4 := Hh (show ¬ (n = 0 ∧ s = 0) → ¬ 65536 < n → kn = false → 256 ≤ en → 4 = putE T l from fun e h k h2 => by
   rw [hnn, hss] at e; rw [hnn] at h
   unfold putE
   rw [if_neg e, if_neg h, if_pos ⟨(by cases hq : findT T l.k with | none => rfl | some x => (rw [hq] at hkn; rw [hkn] at k; cases k)), (by rw [← Ay, ← hen]; exact h2)⟩])
 have A1 : kn = true ∨ en < 256 → ¬ (findT T l.k = none ∧ 256 ≤ T.length) := fun h ⟨h1, h2⟩ => by
   rcases h with h | h
   · rw [h1] at hkn; rw [hkn] at h; cases h
   · rw [hen, Ay] at h; omega
 have E0 := Hh (show ¬ (n = 0 ∧ s = 0) → ¬ 65536 < n → (kn = true ∨ en < 256) → sr + s < 18446744073709551616 → putE T l = 0 from fun e h k h2 => by
   rw [hnn, hss] at e; rw [hnn] at h; rw [hsr, hst, hws, hss] at h2
   unfold putE
   rw [if_neg e, if_neg h, if_neg (A1 k), if_pos h2])
 have Bv := Hh (show ¬ (n = 0 ∧ s = 0) → ¬ 65536 < n → (kn = true ∨ en < 256) → ¬ sr + s < 18446744073709551616 → 10 = putE T l from fun e h k h2 => by
   rw [hnn, hss] at e; rw [hnn] at h; rw [hsr, hst, hws, hss] at h2
   unfold putE
   rw [if_neg e, if_neg h, if_neg (A1 k), if_neg h2])
 have hsl : s < 18446744073709551616 := by rw [hss]; exact hs
 have hnl : n ≤ 1000000 := by rw [hnn]; exact hlen
 have hel : en ≤ 256 := by omega
 have Bi : sr < 18446744073709551616 := by omega
 have HV := Hh hv
 have B8 := Hh hnn
 have B9 := Hh hss
 have B5 := Hh hlk
 have A9 := Hh hgl
 have B6 := Hh hln
 have Af := Hh Ar
 have A8 := Hh An
 have A3 := Hh hb1
 have Av := Hh hb2
 have Ak := Hh Be
 have B3 := Hh (And.intro Ae (And.intro Bg hmg))
 have hsub : IntKind.u64.wrap ((st : Int) - (ws : Int)) = (sr : Int) := by rw [IntKind.wrap_u64]; omega
 have B4 := Hh hlen
 have earr : arr l.k = .agg LK.toArray := by unfold arr; rw [hLK]
 have elf : leafV (.slice a l.v.length c) l.s = .agg #[.slice a n c, .int .u64 (s : Int)] := by rw [hnn, hss]; rfl
 rw [earr, elf]
 have Br := Hh (And.intro Bi hsl)
 clear htr hn hk hv hs hlen hkl hLK hnn hss hst Ao Aq hws hkn hle Bf hsr hf Ae Bg hmg Ay hT256 hen hb1 hb2 s1 Be hlk hgl hln Ar An A1 hfz earr elf hv2 hsl Bi
 go_enter Tryz.func43, Tryz.ntmps43
 go_upto_region 1 with (fail)
 generalize (w.alloc (.cells LK.toArray 27)).alloc (.cells #[.slice a n c, .int .u64 (s : Int)] 50) = W0 at A3 Av Ak ⊢
 obtain ⟨Bk, hBk⟩ : ∃ B, B = w.heap.size := ⟨_, rfl⟩
 obtain ⟨Bl, hBl⟩ : ∃ B, B = w.heap.size + 1 := ⟨_, rfl⟩
 rw [← hBk] at A3
 rw [← hBl] at Av
 rw [← hBl, ← hBk]
 have d0 : W0.cell? ⟨Bl, 0, none⟩ = some (.slice a n c) := Av.o.cell_is rfl
 have d1 : W0.cell? ⟨Bl, 1, none⟩ = some (.int .u64 (s : Int)) := Av.o.cell_is rfl
 have By := Hh hBk
 have Bz := Hh hBl
 clear hBk hBl
 go_wp2_with fail
 refine (none_is W0 a n c s (by omega)).mono ?_
 rintro _ w1 ⟨rfl, hb1⟩
 have Ah := Hh (A3.o.below hb1 A3.o.lt)
 have Ai := Hh (Av.o.below hb1 Av.o.lt)
 have Aa := Hh (Ak.o.trans (hb1.mono Ak.o.size))
 clear hb1 d0 d1 A3 Av Ak
 have d0 : w1.cell? ⟨Bl, 0, none⟩ = some (.slice a n c) := Ai.o.cell_is rfl
 have d1 : w1.cell? ⟨Bl, 1, none⟩ = some (.int .u64 (s : Int)) := Ai.o.cell_is rfl
 by_cases hN : n = 0 ∧ s = 0
 · have HN := Hh hN
   have hd : decide (n = 0 ∧ s = 0) = true := decide_eq_true hN
   rw [hd]
   clear hN hd
   go_wp2
   go_ret
   exact Af.o w1 Aa.o (by rw [← E1.o HN.o]; decide) 1 (E1.o HN.o)
 have HN := Hh hN
 have hd : decide (n = 0 ∧ s = 0) = false := decide_eq_false hN
 rw [hd]
 clear hN hd
 by_cases hL : 65536 < n
 · have HL := Hh hL
   have hL2 : (65536 : Int) < (n : Int) := by omega
   go_wp2
   go_ret
   exact Af.o w1 Aa.o (by rw [← E3.o HN.o HL.o]; decide) 3 (E3.o HN.o HL.o)
 have HL := Hh hL
 have hL2 : ¬ (65536 : Int) < (n : Int) := by omega
 clear hL
 have hS : ∀ v, Below w.heap.size w v → Below w1.heap.size w1 v → (v.cell? ⟨g, 8484, none⟩ = some (.map (some m)) ∧ v.rangeAt Bk 0 LK ∧ (Instr.lookup 149 (.map (some m)) (.agg LK.toArray) true).run Tryz.prog v = .ok (.tuple #[.agg #[.slice a0 n0 c0, .int .u64 (ws : Int)], .bool kn]) v) := fun v h1 h2 =>
   ⟨(A9.o v h1).1, (Ah.o.below h2 Ah.o.lt).row0, B5.o v h1⟩
 have hS5 := hS w1.drew Aa.o.drew (Below.refl _ _).drew
 have hal : Below w1.heap.size w1 (w1.alloc (.cells #[.slice none 0 0, .int .u64 0] 50)).drew := ((Below.refl _ _).drew).alloc (Nat.le_refl _) _
 have hSa9 := hS _ (Aa.o.trans (hal.mono Aa.o.size)) hal
 have A0 : Has (w1.alloc (.cells #[.slice none 0 0, .int .u64 0] 50)).drew w1.heap.size 50 #[.slice none 0 0, .int .u64 0] := Has.new w1.drew _ _
 obtain ⟨p1, p2⟩ := row_set (L := [Value.slice a0 n0 c0, .int .u64 (ws : Int)]) A0 rfl
 have Ag : Below w1.heap.size w1 ((w1.alloc (.cells #[.slice none 0 0, .int .u64 0] 50)).drew.setCells w1.heap.size 0 [Value.slice a0 n0 c0, .int .u64 (ws : Int)]) := hal.trans (p2.below hal.size (fun k e => by have e' : k = w1.heap.size := e; omega))
 have hS5b := hS _ (Aa.o.trans (Ag.mono Aa.o.size)) Ag
 have Bs := Hh (A0.there 0 2 (by decide))
 have Bq := Hh p1
 have Au := Hh Ag
 have Ac := Hh (Aa.o.trans (Ag.mono Aa.o.size))
 clear hS hal A0 p1 p2 Ag
 go_upto_region 5 with (fail)
 refine wp_region_noPanic ?_
 refine wp_region_held_drew (S := fun w' => w'.cell? ⟨g, 8484, none⟩ = some (.map (some m)) ∧ w'.rangeAt Bk 0 LK ∧ (Instr.lookup 149 (.map (some m)) (.agg LK.toArray) true).run Tryz.prog w' = .ok (.tuple #[.agg #[.slice a0 n0 c0, .int .u64 (ws : Int)], .bool kn]) w') (by kernel_rfl) hS5 (fun hH0 => ?_)
 refine tl 0 (v := (.pointer (some ⟨g, 0, none⟩))) rfl (by intro w' hS; obtain ⟨e0, e1, e2⟩ := hS; go_simp) hH0 ?_
 simp only [qc]
 refine tl 1 (v := (.pointer (some ⟨g, 0, none⟩))) rfl (by intro w' hS; obtain ⟨e0, e1, e2⟩ := hS; go_simp) hH0 ?_
 simp only [qc]
 refine tl 2 (v := (.pointer (some ⟨g, 8484, none⟩))) rfl (by intro w' hS; obtain ⟨e0, e1, e2⟩ := hS; go_simp) hH0 ?_
 simp only [qc]
 refine tl 3 (v := (.map (some m))) rfl (by intro w' hS; obtain ⟨e0, e1, e2⟩ := hS; go_simp) hH0 ?_
 simp only [qc]
 refine tk 4 (v := (.agg LK.toArray)) rfl (yieldsIf_load_mid (by kernel_rfl) 27 (.tmp 4) rfl Bk 0 rfl LK _ (fun w' h => h.2.1) Tryz.underlying27 rfl Bx.o) hH0 ?_
 simp only [qc]
 refine tl 5 (v := (.tuple #[.agg #[.slice a0 n0 c0, .int .u64 (ws : Int)], .bool kn])) rfl (by intro w' hS; obtain ⟨e0, e1, e2⟩ := hS; go_simp) hH0 ?_
 simp only [qc]
 refine tl 6 (v := (.tuple #[.agg #[.slice a0 n0 c0, .int .u64 (ws : Int)], .bool kn])) rfl (by intro w' hS; obtain ⟨e0, e1, e2⟩ := hS; go_simp) hH0 ?_
 simp only [qc]
 refine tl 7 (v := (.agg #[.slice a0 n0 c0, .int .u64 (ws : Int)])) rfl (by intro w' hS; obtain ⟨e0, e1, e2⟩ := hS; go_simp) hH0 ?_
 simp only [qc]
 refine tl 8 (v := (.bool kn)) rfl (by intro w' hS; obtain ⟨e0, e1, e2⟩ := hS; go_simp) hH0 ?_
 simp only [qc]
 refine rdy [9] (ar1 rfl fun K hK => ?_)
 go_simp
 refine hK _ _ hSa9 fun hH1 => ?_
 clear hK K
 try simp only [qc]
 refine rdy [10] (ar1 rfl fun K hK => ?_)
 refine step_store_mid rfl 50 (.tmp 7) (.tmp 30) rfl w1.heap.size 0 #[.slice a0 n0 c0, .int .u64 (ws : Int)] rfl rfl Bs.o Ca.o Bt.o ?_
 refine hK _ _ hS5b fun hH2 => ?_
 clear hK K
 try simp only [qc]
 refine tl 11 (v := (.bool kn)) rfl (by intro w' hS; obtain ⟨e0, e1, e2⟩ := hS; go_simp) hH2 ?_
 simp only [qc]
 refine wpAnyH_done (by kernel_rfl) ?_ _
 refine NoPanic.normal ?_
 clear hH0 hH1 hH2 hS5 hSa9 hS5b
 have Ad := Ah.o.below Au.o Ah.o.lt
 have Ab := Ai.o.below Au.o Ai.o.lt
 clear d0 d1
 generalize (w1.alloc (.cells #[.slice none 0 0, .int .u64 0] 50)).drew.setCells w1.heap.size 0 [Value.slice a0 n0 c0, .int .u64 (ws : Int)] = W2 at Bq Au Ac Ad Ab ⊢
 obtain ⟨B7, hB7⟩ : ∃ B, B = w1.heap.size := ⟨_, rfl⟩
 rw [← hB7] at Bq ⊢
 have Bn := Hh Ad
 have A6 := Hh Ab
 clear Ad Ab hB7
 have hln : ∀ ty, (Builtin.len_ #[149] ty #[.map (some m)]).run Tryz.prog W2 = .ok (.int .i64 (en : Int)) W2 := fun ty => B6.o W2 ty Ac.o
 have d84 : W2.cell? ⟨g, 8484, none⟩ = some (.map (some m)) := (A9.o W2 Ac.o).1
 go_upto_region 6 with (fail)
 go_cut [41] from 11 (fun cc wx => W2 = wx ∧ cc = .bool (decide (kn = false ∧ 256 ≤ en)))
 case first =>
   cases kn with
   | true =>
     go_wp2
     go_meet
     case rel => exact ⟨rfl, rfl⟩
   | false =>
     by_cases hM : 256 ≤ en
     · have HD := Hh (show decide ((false : Bool) = false ∧ 256 ≤ en) = true from decide_eq_true ⟨rfl, hM⟩)
       have hM2 : (256 : Int) ≤ (en : Int) := by omega
       go_wp2
       go_meet
       case rel => exact ⟨rfl, by rw [HD.o]⟩
     · have HD := Hh (show decide ((false : Bool) = false ∧ 256 ≤ en) = false from decide_eq_false (fun e => hM e.2))
       have hM2 : ¬ (256 : Int) ≤ (en : Int) := by omega
       go_wp2
       go_meet
       case rel => exact ⟨rfl, by rw [HD.o]⟩
 case rest =>
 obtain ⟨hw, hc⟩ := hcut
 subst hw
 subst hc
 clear hln d84
 by_cases hM : kn = false ∧ 256 ≤ en
 · have HM := Hh hM
   have hd : decide (kn = false ∧ 256 ≤ en) = true := decide_eq_true hM
   rw [hd]
   clear hM hd
   go_wp2
   go_ret
   exact Af.o W2 Ac.o (by rw [← E4.o HN.o HL.o HM.o.1 HM.o.2]; decide) 4 (E4.o HN.o HL.o HM.o.1 HM.o.2)
 have HM := Hh (show kn = true ∨ en < 256 from by
   cases kn with
   | true => exact .inl rfl
   | false => exact .inr (by have : ¬ 256 ≤ en := fun e => hM ⟨rfl, e⟩; omega))
 have hd : decide (kn = false ∧ 256 ≤ en) = false := decide_eq_false hM
 rw [hd]
 clear hM hd
 have d85 : W2.cell? ⟨g, 8485, none⟩ = some (.int .u64 (st : Int)) := (A9.o W2 Ac.o).2
 have d71 : W2.cell? ⟨B7, 1, none⟩ = some (.int .u64 (ws : Int)) := Bq.o.cell_is rfl
 have dl1 : W2.cell? ⟨Bl, 1, none⟩ = some (.int .u64 (s : Int)) := A6.o.cell_is rfl
 have hS8 : W2.drew.cell? ⟨g, 8485, none⟩ = some (.int .u64 (st : Int)) ∧ W2.drew.cell? ⟨B7, 1, none⟩ = some (.int .u64 (ws : Int)) ∧ W2.drew.cell? ⟨Bl, 1, none⟩ = some (.int .u64 (s : Int)) := ⟨d85, d71, dl1⟩
 have hS8b := hS8
 clear d85 d71 dl1
 by_cases hfits : sr + s < 18446744073709551616
 · have Ax := add_fits W2.drew sr s hfits
   obtain ⟨sn, hsn⟩ : ∃ x, x = sr + s := ⟨_, rfl⟩
   rw [← hsn] at Ax
   have As := Hh Ax
   have B0 := Hh hsn
   have Bm := Hh hfits
   clear Ax hsn hfits
   go_upto_region 8 with (fail)
   refine wp_region_noPanic ?_
   refine wp_region_held_drew (S := fun w' => w'.cell? ⟨g, 8485, none⟩ = some (.int .u64 (st : Int)) ∧ w'.cell? ⟨B7, 1, none⟩ = some (.int .u64 (ws : Int)) ∧ w'.cell? ⟨Bl, 1, none⟩ = some (.int .u64 (s : Int))) (by kernel_rfl) hS8 (fun hH0 => ?_)
   refine tl 0 (v := (.pointer (some ⟨g, 0, none⟩))) rfl (by intro w' hS; obtain ⟨e0, e1, e2⟩ := hS; go_simp) hH0 ?_
   simp only [qc]
   refine tl 1 (v := (.pointer (some ⟨g, 0, none⟩))) rfl (by intro w' hS; obtain ⟨e0, e1, e2⟩ := hS; go_simp) hH0 ?_
   simp only [qc]
   refine tl 2 (v := (.pointer (some ⟨g, 8485, none⟩))) rfl (by intro w' hS; obtain ⟨e0, e1, e2⟩ := hS; go_simp) hH0 ?_
   simp only [qc]
   refine tl 3 (v := (.int .u64 (st : Int))) rfl (by intro w' hS; obtain ⟨e0, e1, e2⟩ := hS; go_simp) hH0 ?_
   simp only [qc]
   refine tl 4 (v := (.pointer (some ⟨B7, 1, none⟩))) rfl (by intro w' hS; obtain ⟨e0, e1, e2⟩ := hS; go_simp) hH0 ?_
   simp only [qc]
   refine tl 5 (v := (.int .u64 (ws : Int))) rfl (by intro w' hS; obtain ⟨e0, e1, e2⟩ := hS; go_simp) hH0 ?_
   simp only [qc]
   refine tl 6 (v := (.int .u64 (sr : Int))) rfl (by intro w' hS; obtain ⟨e0, e1, e2⟩ := hS; go_simp) hH0 ?_
   simp only [qc]
   refine tl 7 (v := (.pointer (some ⟨Bl, 1, none⟩))) rfl (by intro w' hS; obtain ⟨e0, e1, e2⟩ := hS; go_simp) hH0 ?_
   simp only [qc]
   refine tl 8 (v := (.int .u64 (s : Int))) rfl (by intro w' hS; obtain ⟨e0, e1, e2⟩ := hS; go_simp) hH0 ?_
   simp only [qc]
   refine rdy [9] (ar1 rfl fun K hK => ?_)
   go_simp
   refine As.o.mono ?_
   rintro _ v1 ⟨rfl, e9⟩
   subst e9
   refine hK _ _ hS8b fun hH1 => ?_
   clear hK K
   try simp only [qc]
   refine tl 10 (v := (.tuple #[.int .u64 (sn : Int), .int .i64 0])) rfl (by intro w' hS; obtain ⟨e0, e1, e2⟩ := hS; go_simp) hH1 ?_
   simp only [qc]
   refine tl 11 (v := (.int .u64 (sn : Int))) rfl (by intro w' hS; obtain ⟨e0, e1, e2⟩ := hS; go_simp) hH1 ?_
   simp only [qc]
   refine tl 12 (v := (.int .i64 0)) rfl (by intro w' hS; obtain ⟨e0, e1, e2⟩ := hS; go_simp) hH1 ?_
   simp only [qc]
   refine tl 13 (v := (.int .u64 (sn : Int))) rfl (by intro w' hS; obtain ⟨e0, e1, e2⟩ := hS; go_simp) hH1 ?_
   simp only [qc]
   refine tl 14 (v := (.int .i64 0)) rfl (by intro w' hS; obtain ⟨e0, e1, e2⟩ := hS; go_simp) hH1 ?_
   simp only [qc]
   refine wpAnyH_done (by kernel_rfl) ?_ _
   refine NoPanic.normal ?_
   clear hH0 hH1 hS8 hS8b
   have Ad := Bn.o.drew
   have Ab := A6.o.drew
   have hbe := Ac.o.drew
   generalize W2.drew = W3 at Ad Ab hbe ⊢
   have A4 := Hh Ad
   have Aw := Hh Ab
   have Aj := Hh hbe
   have hcl := clone_bytes W3 _ l.v B4.o (HV.o.alive hbe hbe.size)
   rw [← B8.o] at hcl
   have B2 := Hh hcl
   have d0 : W3.cell? ⟨Bl, 0, none⟩ = some (.slice a n c) := Ab.cell_is rfl
   clear Ad Ab hbe hcl
   go_wp2_with fail
   refine B2.o.mono ?_
   rintro _ w4 ⟨v', rfl, A2, hb4⟩
   obtain ⟨av, cv, hv', -⟩ := id A2
   obtain ⟨nv, hnv⟩ : ∃ x, x = l.v.length := ⟨_, rfl⟩
   rw [← hnv] at hv'
   subst hv'
   have Al := Aw.o.below hb4 Aw.o.lt
   have Bb := A4.o.below hb4 A4.o.lt
   have Bh := Al.set 0 (.slice av nv cv)
   have hk5 : Kept (· = Bl) w4 (w4.setCell ⟨Bl, 0, none⟩ (.slice av nv cv)) := (Kept.refl (· = Bl) w4).set (p := ⟨Bl, 0, none⟩) (.inl rfl) _
   have d0 : w4.cell? ⟨Bl, 0, none⟩ = some (.slice a n c) := Al.cell_is rfl
   have f0 : w4.frozen? ⟨Bl, 0, none⟩ = false := Al.free _
   have hBl3 : Bl < W3.heap.size := Aw.o.lt
   have hBw : w.heap.size ≤ Bk ∧ Bk < Bl := by have h1 := By.o; have h2 := Bz.o; omega
   have Bd : Below w.heap.size w (w4.setCell ⟨Bl, 0, none⟩ (.slice av nv cv)) := (Aj.o.trans (hb4.mono Aj.o.size)).trans (hk5.below (by have h1 := Aj.o.size; have h2 := hb4.size; omega) (fun k e => by have e' : k = Bl := e; omega))
   have Ap : RowB (fun k => w.heap.size ≤ k) (w4.setCell ⟨Bl, 0, none⟩ (.slice av nv cv)) (.slice av nv cv) l.v := (A2.kept hk5 (fun k _ h e => by have e' : k = Bl := e; have h' : W3.heap.size ≤ k := h; omega)).zone (fun k _ h => by have h' : W3.heap.size ≤ k := h; have := Aj.o.size; show w.heap.size ≤ k; omega)
   have Bc := Bb.kept hk5 (by omega)
   have Ba := Hh Bh
   have A5 := Hh Bc
   have A7 := Hh Bd
   have Am := Hh Ap
   have B1 := Hh hBw
   clear A2 hb4 Al Bb Bh hk5 hBl3 hBw Bd Ap Bc hnv
   go_upto_region 12 with (fail)
   generalize w4.setCell ⟨Bl, 0, none⟩ (.slice av nv cv) = W5 at Ba A5 A7 Am ⊢
   have hbd : Below w.heap.size w W5.drew := A7.o.drew
   have hrd : RowB (fun k => w.heap.size ≤ k) W5.drew (.slice av nv cv) l.v := Am.o.kept ((Kept.refl (fun _ => False) W5).drew) (fun _ _ _ h => h)
   obtain ⟨w6, v0, sti, q1, k6, w7, q5, k7, Az⟩ := A8.o W5.drew (.slice av nv cv) hbd (E0.o HN.o HL.o HM.o Bm.o) hrd
   rw [← B0.o] at Az
   have elf : leafV (.slice av nv cv) l.s = .agg #[.slice av nv cv, .int .u64 (s : Int)] := by rw [B9.o]; rfl
   rw [elf] at q5
   have hmk : m ≠ Bk ∧ m ≠ Bl ∧ g ≠ m ∧ g ≠ Bk ∧ g ≠ Bl := by
     have h1 := B1.o
     have h2 := B3.o
     exact ⟨by omega, by omega, fun e => h2.2.2 e.symm, by omega, by omega⟩
   have hSx : ∀ v, Kept (· = m) W5.drew v → (v.cell? ⟨g, 8484, none⟩ = some (.map (some m)) ∧ v.rangeAt Bk 0 LK ∧ v.cell? ⟨Bl, 0, none⟩ = some (.slice av nv cv) ∧ v.cell? ⟨Bl, 1, none⟩ = some (.int .u64 (s : Int))) := fun v hv => by
     have hh := (Ba.o.drew).kept hv (fun e => hmk.2.1 e.symm)
     exact ⟨cell_held hv (A9.o _ hbd).1 hmk.2.2.1, ((A5.o.drew).kept hv (fun e => hmk.1 e.symm)).row0, hh.cell_is rfl, hh.cell_is rfl⟩
   have hS12 := hSx W5.drew (Kept.refl _ _)
   have hS12b := hSx w6 k6
   have hS12c := hSx w7 k7
   have hS12d : ((w7.setCell ⟨g, 8485, none⟩ (.int .u64 (sn : Int))).cell? ⟨g, 8484, none⟩ = some (.map (some m)) ∧ (w7.setCell ⟨g, 8485, none⟩ (.int .u64 (sn : Int))).rangeAt Bk 0 LK ∧ (w7.setCell ⟨g, 8485, none⟩ (.int .u64 (sn : Int))).cell? ⟨Bl, 0, none⟩ = some (.slice av nv cv) ∧ (w7.setCell ⟨g, 8485, none⟩ (.int .u64 (sn : Int))).cell? ⟨Bl, 1, none⟩ = some (.int .u64 (s : Int))) := by
     have hk : Kept (· = g) w7 (w7.setCell ⟨g, 8485, none⟩ (.int .u64 (sn : Int))) := (Kept.refl (· = g) w7).set (p := ⟨g, 8485, none⟩) (.inl rfl) _
     refine ⟨(World.cell?_setCell_other _ ⟨g, 8485, none⟩ ⟨g, 8484, none⟩ _ (by simp)).trans hS12c.1, rangeAt_kept hS12c.2.1 hk (fun e => hmk.2.2.2.1 e.symm), cell_held hk hS12c.2.2.1 (fun e => hmk.2.2.2.2 e.symm), cell_held hk hS12c.2.2.2 (fun e => hmk.2.2.2.2 e.symm)⟩
   have c7 : w7.cell? ⟨g, 8485, none⟩ = some (.int .u64 (st : Int)) := cell_held k7 (A9.o _ hbd).2 hmk.2.2.1
   have f7 : w7.frozen? ⟨g, 8485, none⟩ = false := Bp.o W5.drew w7 hbd k7
   have Bo := Hh Az
   clear hbd hrd Az elf hmk hSx k6 k7 d0 f0
   refine wp_region_noPanic ?_
   refine wp_region_held_drew (S := fun w' => w'.cell? ⟨g, 8484, none⟩ = some (.map (some m)) ∧ w'.rangeAt Bk 0 LK ∧ w'.cell? ⟨Bl, 0, none⟩ = some (.slice av nv cv) ∧ w'.cell? ⟨Bl, 1, none⟩ = some (.int .u64 (s : Int))) (by kernel_rfl) hS12 (fun hH0 => ?_)
   refine tl 0 (v := (.pointer (some ⟨g, 0, none⟩))) rfl (by intro w' hS; obtain ⟨e0, e1, e2, e3⟩ := hS; go_simp) hH0 ?_
   simp only [qc]
   refine tl 1 (v := (.pointer (some ⟨g, 0, none⟩))) rfl (by intro w' hS; obtain ⟨e0, e1, e2, e3⟩ := hS; go_simp) hH0 ?_
   simp only [qc]
   refine tl 2 (v := (.pointer (some ⟨g, 8484, none⟩))) rfl (by intro w' hS; obtain ⟨e0, e1, e2, e3⟩ := hS; go_simp) hH0 ?_
   simp only [qc]
   refine tl 3 (v := (.map (some m))) rfl (by intro w' hS; obtain ⟨e0, e1, e2, e3⟩ := hS; go_simp) hH0 ?_
   simp only [qc]
   refine tk 4 (v := (.agg LK.toArray)) rfl (yieldsIf_load_mid (by kernel_rfl) 27 (.tmp 4) rfl Bk 0 rfl LK _ (fun w' h => h.2.1) Tryz.underlying27 rfl Bx.o) hH0 ?_
   simp only [qc]
   refine tl 5 (v := (.pointer (some ⟨g, 0, none⟩))) rfl (by intro w' hS; obtain ⟨e0, e1, e2, e3⟩ := hS; go_simp) hH0 ?_
   simp only [qc]
   refine tl 6 (v := (.agg #[.slice av nv cv, .int .u64 (s : Int)])) rfl (by intro w' hS; obtain ⟨e0, e1, e2, e3⟩ := hS; go_simp) hH0 ?_
   simp only [qc]
   refine tl 7 (v := (.int .u64 (sn : Int))) rfl (by intro w' hS; obtain ⟨e0, e1, e2, e3⟩ := hS; go_simp) hH0 ?_
   simp only [qc]
   refine rdy [8] (ar1 rfl fun K hK => ?_)
   go_simp
   refine hK _ _ hS12b fun hH1 => ?_
   clear hK K
   try simp only [qc]
   refine tl 9 (v := (.int .i64 sti)) rfl (by intro w' hS; obtain ⟨e0, e1, e2, e3⟩ := hS; go_simp) hH1 ?_
   simp only [qc]
   refine rdy [10] (ar1 rfl fun K hK => ?_)
   go_simp
   refine hK _ _ hS12c fun hH2 => ?_
   clear hK K
   try simp only [qc]
   refine tl 11 (v := (.pointer (some ⟨g, 0, none⟩))) rfl (by intro w' hS; obtain ⟨e0, e1, e2, e3⟩ := hS; go_simp) hH2 ?_
   simp only [qc]
   refine tl 12 (v := (.pointer (some ⟨g, 8485, none⟩))) rfl (by intro w' hS; obtain ⟨e0, e1, e2, e3⟩ := hS; go_simp) hH2 ?_
   simp only [qc]
   refine rdy [13] (ar1 rfl fun K hK => ?_)
   go_simp
   refine hK _ _ hS12d fun hH3 => ?_
   clear hK K
   try simp only [qc]
   refine wpAnyH_done (by kernel_rfl) ?_ _
   refine NoPanic.normal ?_
   clear hH0 hH1 hH2 hH3 hS12 hS12b hS12c hS12d c7 f7 q1 q5
   go_wp2
   go_ret
   exact Bo.o
 · have Bw := Hh (show 18446744073709551616 ≤ sr + s ∧ sr + s < 36893488147419103232 by have := Br.o; omega)
   have As := Hh (add_over W2.drew sr s Bw.o.1 Bw.o.2)
   have Bm := Hh hfits
   clear hfits
   go_upto_region 8 with (fail)
   refine wp_region_noPanic ?_
   refine wp_region_held_drew (S := fun w' => w'.cell? ⟨g, 8485, none⟩ = some (.int .u64 (st : Int)) ∧ w'.cell? ⟨B7, 1, none⟩ = some (.int .u64 (ws : Int)) ∧ w'.cell? ⟨Bl, 1, none⟩ = some (.int .u64 (s : Int))) (by kernel_rfl) hS8 (fun hH0 => ?_)
   refine tl 0 (v := (.pointer (some ⟨g, 0, none⟩))) rfl (by intro w' hS; obtain ⟨e0, e1, e2⟩ := hS; go_simp) hH0 ?_
   simp only [qc]
   refine tl 1 (v := (.pointer (some ⟨g, 0, none⟩))) rfl (by intro w' hS; obtain ⟨e0, e1, e2⟩ := hS; go_simp) hH0 ?_
   simp only [qc]
   refine tl 2 (v := (.pointer (some ⟨g, 8485, none⟩))) rfl (by intro w' hS; obtain ⟨e0, e1, e2⟩ := hS; go_simp) hH0 ?_
   simp only [qc]
   refine tl 3 (v := (.int .u64 (st : Int))) rfl (by intro w' hS; obtain ⟨e0, e1, e2⟩ := hS; go_simp) hH0 ?_
   simp only [qc]
   refine tl 4 (v := (.pointer (some ⟨B7, 1, none⟩))) rfl (by intro w' hS; obtain ⟨e0, e1, e2⟩ := hS; go_simp) hH0 ?_
   simp only [qc]
   refine tl 5 (v := (.int .u64 (ws : Int))) rfl (by intro w' hS; obtain ⟨e0, e1, e2⟩ := hS; go_simp) hH0 ?_
   simp only [qc]
   refine tl 6 (v := (.int .u64 (sr : Int))) rfl (by intro w' hS; obtain ⟨e0, e1, e2⟩ := hS; go_simp) hH0 ?_
   simp only [qc]
   refine tl 7 (v := (.pointer (some ⟨Bl, 1, none⟩))) rfl (by intro w' hS; obtain ⟨e0, e1, e2⟩ := hS; go_simp) hH0 ?_
   simp only [qc]
   refine tl 8 (v := (.int .u64 (s : Int))) rfl (by intro w' hS; obtain ⟨e0, e1, e2⟩ := hS; go_simp) hH0 ?_
   simp only [qc]
   refine rdy [9] (ar1 rfl fun K hK => ?_)
   go_simp
   refine As.o.mono ?_
   rintro _ v1 ⟨rfl, e9⟩
   subst e9
   refine hK _ _ hS8b fun hH1 => ?_
   clear hK K
   try simp only [qc]
   refine tl 10 (v := (.tuple #[.int .u64 (0 : Int), .int .i64 10])) rfl (by intro w' hS; obtain ⟨e0, e1, e2⟩ := hS; go_simp) hH1 ?_
   simp only [qc]
   refine tl 11 (v := (.int .u64 (0 : Int))) rfl (by intro w' hS; obtain ⟨e0, e1, e2⟩ := hS; go_simp) hH1 ?_
   simp only [qc]
   refine tl 12 (v := (.int .i64 10)) rfl (by intro w' hS; obtain ⟨e0, e1, e2⟩ := hS; go_simp) hH1 ?_
   simp only [qc]
   refine tl 13 (v := (.int .u64 (0 : Int))) rfl (by intro w' hS; obtain ⟨e0, e1, e2⟩ := hS; go_simp) hH1 ?_
   simp only [qc]
   refine tl 14 (v := (.int .i64 10)) rfl (by intro w' hS; obtain ⟨e0, e1, e2⟩ := hS; go_simp) hH1 ?_
   simp only [qc]
   refine wpAnyH_done (by kernel_rfl) ?_ _
   refine NoPanic.normal ?_
   clear hH0 hH1 hS8 hS8b
   go_wp2
   go_ret
   exact Af.o W2.drew Ac.o.drew (by rw [← Bv.o HN.o HL.o HM.o Bm.o]; decide) 10 (Bv.o HN.o HL.o HM.o Bm.o)
end Go.Proofs.YtknfbccbdiidjaaGreatDoor
