/- The walk of Keys. -/
import Derived.Test.YtknfbccbdiidjaaGreatDoorWs
import Derived.Test.YtknfbccbdiidjaaGreatDoorRKeys1
import Derived.Test.YtknfbccbdiidjaaGreatDoorRMap4
import Derived.Test.YtknfbccbdiidjaaGreatDoorRTree8
import Derived.Test.YtknfbccbdiidjaaGreatDoorRMem
import Derived.Shelf.SlSortCmp.NoneTotal
import Derived.Deep.WholeRow
import Derived.WideLaws
namespace Go.Proofs.YtknfbccbdiidjaaGreatDoor
set_option linter.unusedVariables false
set_option linter.unusedSimpArgs false
open Go.ChangeShapes Go.WideShapes Go.ChangeAt Go.RowKit Go.Maps

structure KeysOf (l : List Ent) (ys : List HK) : Prop where
 rise : RisingK ys
 mem : ∀ k, k ∈ ys.map (·.k) ↔ k ∈ l.map (·.1)
theorem zero_key : ∃ Z : Array Value, (∀ w, (zeroValue 27).run Tryz.prog w = .ok (.agg Z) w) ∧ Z.size = 32 ∧ ¬ Z = #[] := by
 have hs : (bcells (List.replicate 32 0)).toArray.size = 32 := by kernel_rfl
 exact ⟨_, fun w => by kernel_rfl, hs, fun e => by rw [e] at hs; cases hs⟩
theorem info_key : (Tryz.prog.info? 27).map (fun i => (i.zero, i.size, i.bytes)) = some (some (.agg (bcells (List.replicate 32 0)).toArray), 32, 32) := by kernel_rfl
theorem Iter.mem {w : World} {b r : Nat} {l : List Ent} {done : List (List Nat)} (h : Iter w b r l done) : ∀ k ∈ done, k ∈ l.map (·.1) := by
 obtain ⟨_, _, _, _, _, _, _, _, _, _, _, _, _, _, h⟩ := h
 exact h
def GathK (w : World) (m r : Nat) (l : List Ent) (done : List (List Nat)) (xs : List HK) (ov : Value) (wr : World) : Prop :=
 Iter wr m r l done ∧ xs.map (·.k) = done ∧ (∃ oa on oc, ov = .slice oa on oc) ∧ wr.ownsRow (r + 1) 27 32 ov xs.length (xs.flatMap HK.enc) ∧ Kept (fun k => w.heap.size ≤ k) w wr ∧ r < wr.heap.size

set_option maxRecDepth 100000 in
set_option maxHeartbeats 4000000 in
theorem keys_is (w : World) (g m : Nat) (l : List Ent) (hc : w.cell? ⟨g, 8484, none⟩ = some (.map (some m))) (hm : MapIs w m l) (hlen : l.length ≤ 1000) :
  Calls Tryz.prog 76 #[.pointer (some ⟨g, 0, none⟩)] w fun e w' => ∃ v' ys, e = .returned v' ∧ KeysOf l ys ∧ w'.ownsRow w.heap.size 27 32 v' ys.length (ys.flatMap HK.enc) ∧ Below w.heap.size w w' := by
 have hmlt := hm.lt
 obtain ⟨w0, hrun, hit, hk0, hsz0⟩ := range_is (T := 149) Tryz.underlying149 hm
 have HLEN := Lib.hid hlen
 have HIT := Lib.hid hit
 have HK0 := Lib.hid hk0
 have HS0 := Lib.hid hsz0
 have HML := Lib.hid hmlt
 have hu30 := Tryz.underlying27
 clear hm hit hk0 hsz0 hlen hmlt
 go_enter Tryz.func76, Tryz.ntmps76
 go_wp2_with fail
 generalize hr : w.heap.size = r at hrun HIT HS0 HML ⊢
 have HR := Lib.hid hr
 clear hr
 go_loopw [3] (fun ov wr => ∃ done xs, GathK w m r l done xs ov wr) (fun _ wr => wr.rangeLeft m r)
 case atStart => exact ⟨[], [], HIT.out, rfl, ⟨_, _, _, rfl⟩, World.ownsRow_nil _ _ _ _, HK0.out.mono (fun _ _ h => h.elim), by rw [HS0.out]; omega⟩
 case round =>
  obtain ⟨done, xs, hit, hxs, ⟨oa, on, oc, rfl⟩, hown, hkw, hr⟩ := hrel
  have hdl : xs.length ≤ 1000000 := by
    have h1 := hit.size
    have h2 : xs.length = done.length := by rw [← hxs]; simp
    have h3 := HLEN.out
    omega
  rcases next_is hit 0 with ⟨hd, hnx⟩ | ⟨key, vv, w2, hmem, hnd, hkh, hnx, hit1, hk1, hsz1, hlt1, hen⟩
  · have hxd : (xs.map (·.k)).Nodup := by rw [hxs]; exact hit.nodup.1
    have hbel : Below w.heap.size w wr := hkw.below (Nat.le_refl _) (fun k e => e)
    have hsum : ∀ ys : List HK, ys.Perm xs → RisingK ys → KeysOf l ys := fun ys hp hr => ⟨hr, fun k => ⟨fun hk => by
      have h1 : k ∈ xs.map (·.k) := (hp.map (·.k)).mem_iff.1 hk
      rw [hxs] at h1
      exact hit.mem k h1, fun hk => by
      obtain ⟨p, hp1, rfl⟩ := List.mem_map.1 hk
      have h1 := hd p hp1
      rw [← hxs] at h1
      exact (hp.map (·.k)).mem_iff.2 h1⟩⟩
    have HSUM := Lib.hid hsum
    have HBEL := Lib.hid hbel
    have hrw : w.heap.size ≤ r := by rw [HR.out]; exact Nat.le_refl _
    rcases hown.2 with ⟨e, h0⟩ | ⟨gs, cap, cur, e, hbase, hh, h1, h2, h3, h4⟩
    · injection e with e1 e2 e3
      subst e1 e2 e3
      have hxs0 : xs = [] := List.eq_nil_of_length_eq_zero h0
      subst hxs0
      have hcall := AnyF.slices_SortFunc_none (P := Tryz.prog) sortHash none 0 (.func (.func 104) #[] #[]) wr
      change Calls Tryz.prog 60 _ _ _ at hcall
      have HCALL := Lib.hid hcall
      clear hcall hown hit hxs hkw hr hdl hd hxd hbel hsum hrw h0 hrun
      go_wp2_with fail
      refine HCALL.out.mono ?_
      rintro _ W7 ⟨rfl, e8⟩
      have e9 := e8.symm
      subst e9
      clear e8
      go_wp2
      go_ret
      exact ⟨_, [], rfl, HSUM.out [] (List.Perm.refl _) List.Pairwise.nil, World.ownsRow_nil _ _ _ _, HBEL.out⟩
    · injection e with e1 e2 e3
      subst e1 e2 e3
      have hcall := sort_keys wr w.heap.size gs xs.length oc cur xs rfl (by omega) hh h1 h2 h3 h4 hxd hdl
      have HCALL := Lib.hid hcall
      have HGS := Lib.hid (show w.heap.size ≤ gs by omega)
      clear hcall hown hit hxs hkw hr hd hxd hbel hsum hrw hrun hbase hh h1 h2 h3 h4
      go_wp2_with fail
      refine HCALL.out.mono ?_
      rintro _ W7 ⟨rfl, ys, hp, hri, hown7, hk7⟩
      have hl7 := hp.length_eq
      rw [← hl7] at hown7
      have HE := Lib.hid (And.intro (HSUM.out ys hp hri) (And.intro hown7 (HBEL.out.trans (hk7.below HBEL.out.size (fun k e => by rw [e]; exact HGS.out)))))
      have HL7 := Lib.hid hl7
      clear hp hri hown7 hk7 hl7
      go_wp2
      go_ret
      exact ⟨.slice (some ⟨gs, 0, none⟩) ys.length oc, ys, by rw [HL7.out]; rfl, HE.out⟩
  · obtain ⟨ZH, hzh, hzhs, hzhn⟩ := zero_key
    obtain ⟨isum, his, his0, his1, his2⟩ := info_parts info_key
    have hnw : ∀ C, Has ((w2.alloc (.cells ZH 27)).setRow w2.heap.size C) w2.heap.size 27 C ∧ Kept (fun _ => False) w2 ((w2.alloc (.cells ZH 27)).setRow w2.heap.size C) := fun C => by
      rw [World.setRow_alloc_new]
      exact ⟨Has.new w2 _ _, (Kept.refl _ _).alloc _⟩
    have hmr : m < r := HML.out
    have hown1 : w2.ownsRow (r + 1) 27 32 (.slice oa on oc) xs.length (xs.flatMap HK.enc) := own_kept hown hk1 (fun k hk e => by
      rcases hown.2 with ⟨e2, _⟩ | ⟨gs, cap, cur, e2, hbase, _⟩
      · rw [e2] at hk; simp [Value.ownBlock] at hk
      · rw [e2] at hk
        simp [Value.ownBlock] at hk
        omega)
    have hkw1 : Kept (fun k => w.heap.size ≤ k) w w2 := hkw.step hk1 (fun k e => .inr (by rw [e, HR.out]; exact Nat.le_refl _))
    obtain ⟨X, hX⟩ : ∃ X : HK, X = ⟨key, hkh⟩ := ⟨_, rfl⟩
    obtain ⟨L, hL⟩ : ∃ L, L = bcells key := ⟨_, rfl⟩
    have hLX : L = X.enc := by rw [hL, hX]; rfl
    have hLl : L.length = 32 := by rw [hL, bcells_length, hkh.1]
    have szk : (Tryz.prog.info? 27).map (·.size) = some L.toArray.size := by rw [List.size_toArray, hLl]; kernel_rfl
    have hone : L.toArray.all (·.oneCell') = true := by rw [hL]; exact all_oneCell_toArray (bcells_oneC key)
    have hzL : ZH.size = L.toArray.size := by rw [hzhs, List.size_toArray, hLl]
    unfold arr at hnx hen
    rw [← hL] at hnx hen
    have HNW := Lib.hid hnw
    have HOWN1 := Lib.hid hown1
    have HKW1 := Lib.hid hkw1
    have HIT1 := Lib.hid hit1
    have HLT1 := Lib.hid hlt1
    have SZK := Lib.hid szk
    have HONE := Lib.hid hone
    have HZL := Lib.hid hzL
    have HXL := Lib.hid X.len
    have HX1 := Lib.hid X.one
    have HLX := Lib.hid hLX
    have HXK := Lib.hid (show xs.map (·.k) ++ [X.k] = done ++ [key] by rw [hxs, hX])
    have HDL := Lib.hid hdl
    have HSZ1 := Lib.hid (show r < w2.heap.size by rw [hsz1]; exact hr)
    clear hnw hown1 hkw1 hit1 hlt1 szk hone hzL hmem hxs hdl hL hLX hX hLl hk1 hsz1 hit hown hkw hr hrun hnd hkh
    go_upto_region 7 with (refine wpList_store_row rfl 27 (.tmp 4) (.tmp 15) rfl w2.heap.size L.toArray rfl rfl 27 ZH (heap_alloc_new w2 _) SZK.out HZL.out HONE.out ?_)
    obtain ⟨h9, hk9⟩ := HNW.out L.toArray
    generalize (w2.alloc (.cells ZH 27)).setRow w2.heap.size L.toArray = W5 at h9 hk9 ⊢
    have hit5 := HIT1.out.kept hk9 (fun h => h) (fun h => h)
    have hlf5 := HIT1.out.left_kept hk9 (fun h => h) (fun h => h)
    have hown5 := own_kept HOWN1.out hk9 (fun _ _ h => h)
    have hkw5 := HKW1.out.trans (hk9.mono (fun _ _ h => h.elim))
    have hr5 : r < W5.heap.size := Nat.lt_of_lt_of_le HSZ1.out hk9.size
    generalize w2.heap.size = G5 at h9 ⊢
    have H9 := Lib.hid h9
    have HOWN5 := Lib.hid hown5
    have HR5 := Lib.hid hr5
    have HBS := Lib.hid (show r + 1 ≤ (W5.alloc (.cells X.enc.toArray 27)).heap.size by show r + 1 ≤ (W5.heap.push _).size; rw [Array.size_push]; omega)
    have HZ33 := Lib.hid (show (Value.agg (bcells (List.replicate 32 0)).toArray).cells.size = 32 by kernel_rfl)
    have HML2 := Lib.hid (show xs.length + 1 ≤ maxLen by unfold maxLen; have := HDL.out; omega)
    have HBY := Lib.hid (show (xs.length + 1) * 32 ≤ 140737488355328 by have := HDL.out; omega)
    have hend : ∀ g6 cap6 w6, w6.ownsRow (r + 1) 27 32 (.slice (some ⟨g6, 0, none⟩) (xs.length + 1) cap6) (xs.length + 1) (xs.flatMap HK.enc ++ X.enc) → (W5.alloc (.cells X.enc.toArray 27)).grownBy w6 (Value.slice oa on oc).ownBlock →
        (∃ done zs, GathK w m r l done zs (.slice (some ⟨g6, 0, none⟩) (xs.length + 1) cap6) w6) ∧ w6.rangeLeft m r < wr.rangeLeft m r := fun g6 cap6 w6 ho6 hg6 => by
      have hob : ∀ k, (Value.slice oa on oc).ownBlock = some k → r + 1 ≤ k := fun k hk => by
        rcases hown5.2 with ⟨e2, _⟩ | ⟨gs, cap, cur, e2, hbase, _⟩
        · rw [e2] at hk; simp [Value.ownBlock] at hk
        · rw [e2] at hk
          simp [Value.ownBlock] at hk
          omega
      have hk6 : Kept (fun k => (Value.slice oa on oc).ownBlock = some k) W5 w6 := ((Kept.refl _ W5).alloc _).grown hg6 (fun k e => .inl e)
      have hmr : m < r := HML.out
      refine ⟨⟨_, xs ++ [X], hit5.kept hk6 (fun e => by have := hob m e; omega) (fun e => by have := hob r e; omega), by rw [List.map_append, List.map_singleton]; exact HXK.out, ⟨_, _, _, rfl⟩, ?_, hkw5.step hk6 (fun k e => .inl (by have h1 := hob k e; have h2 := HR.out; show w.heap.size ≤ k; omega)), Nat.lt_of_lt_of_le hr5 hk6.size⟩, ?_⟩
      · rw [List.length_append, List.flatMap_append]
        simpa using ho6
      · rw [hit5.left_kept hk6 (fun e => by have := hob m e; omega) (fun e => by have := hob r e; omega), hlf5]
        exact HLT1.out
    have HEND := Lib.hid hend
    clear h9 hk9 hit5 hlf5 hown5 hkw5 hr5 hend hen hnx
    go_wp2_with (first
      | (refine wpList_load_row rfl 27 (.tmp 4) rfl G5 rfl 27 L.toArray (0, 0) _ H9.out Tryz.underlying27 rfl SZK.out ?_)
      | (refine wpList_build1 rfl 124 27 (.tmp 17) rfl isum _ Tryz.underlying124 his his0 X.enc (by rw [his1, HXL.out]) (by rw [HXL.out]; kernel_rfl) (by rw [HXL.out]; decide) (by rw [HXL.out]; decide) (by rw [← HLX.out]; rfl) ?_)
      | (at_builtin; refine wpList_append_lies _ rfl (.tmp 16) (.tmp 18) 124 rfl (r + 1) 27 isum _ 32 32 Tryz.underlying124 his his0 his1 his2 HZ33.out (by decide) _ xs.length _ rfl (HOWN5.out.alloc _) ⟨W5.heap.size, 0, none⟩ 1 1 X.enc rfl HXL.out (World.news_of_block (cs := X.enc.toArray) (heap_alloc_new W5 _)) HX1.out (by decide) HML2.out HBY.out HBS.out _ rfl ?_; intro g6 cap6 w6 hown6 hgr6 hat6 hlt6))
    have hfin := HEND.out g6 cap6 w6 hown6 hgr6
    have HFIN := Lib.hid hfin
    clear hfin hown6 hgr6 hat6 hlt6
    go_wp2
    go_roundw
    case rel =>
      obtain ⟨dn, ys, e⟩ := HFIN.out.1
      exact ⟨dn, ys, e⟩
    case measure => exact HFIN.out.2
end Go.Proofs.YtknfbccbdiidjaaGreatDoor

/- What stands for all of a tree: Root. -/
namespace Go.Proofs.YtknfbccbdiidjaaGreatDoor
set_option linter.unusedVariables false
set_option linter.unusedSimpArgs false
open Go.ChangeShapes Go.WideShapes Go.ChangeAt Go.RowKit Go.Maps

def leafAt (T : List Lf) (k : List Nat) : Lf := (findT T k).getD ⟨k, [], 0⟩
theorem leafAt_some (T : List Lf) : ∀ k, (∃ l, findT T k = some l) → findT T k = some (leafAt T k) := fun k ⟨l, h⟩ => by unfold leafAt; rw [h]; rfl
structure KeysT (T : List Lf) (ks : List (List Nat)) : Prop where
 sorted : Sorted ks
 mem : ∀ k, k ∈ ks ↔ k ∈ T.map (·.k)
theorem KeysT.find {T : List Lf} {ks : List (List Nat)} (h : KeysT T ks) : ∀ k ∈ ks, ∃ l, findT T k = some l := fun k hk => by
 obtain ⟨t, ht, e⟩ := List.mem_map.1 ((h.mem k).1 hk)
 cases hf : findT T k with
 | some l => exact ⟨l, rfl⟩
 | none => exact absurd e (find_none hf t ht)
theorem KeysT.len {T : List Lf} {ks : List (List Nat)} (h : KeysT T ks) : ks.length ≤ T.length := by
 have := len_sub ks (T.map (·.k)) h.sorted.nodup (fun k hk => (h.mem k).1 hk)
 simpa using this
theorem KeysT.perm {T : List Lf} {ks : List (List Nat)} (h : KeysT T ks) (hT : (T.map (·.k)).Nodup) : (ks.map (leafAt T)).Perm T := by
 have hk : ∀ k ∈ ks, (leafAt T k).k = k := fun k hk => (find_key (leafAt_some T k (h.find k hk))).1
 have nd : (ks.map (leafAt T)).Nodup := by
   refine List.pairwise_map.2 (List.Pairwise.imp_of_mem (fun {a b} ha hb hne e => hne ?_) h.sorted.nodup)
   rw [← hk a ha, ← hk b hb, e]
 have nT : T.Nodup := (List.pairwise_map.1 hT).imp fun hne e => hne (by rw [e])
 refine (List.perm_ext_iff_of_nodup nd nT).2 fun t => ⟨fun ht => ?_, fun ht => ?_⟩
 · obtain ⟨k, hk1, rfl⟩ := List.mem_map.1 ht
   exact (find_key (leafAt_some T k (h.find k hk1))).2
 · refine List.mem_map.2 ⟨t.k, (h.mem _).2 (List.mem_map.2 ⟨t, ht, rfl⟩), ?_⟩
   unfold leafAt
   rw [find_mem hT ht]; rfl
theorem KeysT.part {T : List Lf} {ks : List (List Nat)} (h : KeysT T ks) (hT : Keyed (T.map (·.k))) (K s0 : List Wd) : partNd K s0 256 (ks.map (leafAt T)) = partNd K s0 256 T := by
 have hk : (ks.map (leafAt T)).map (·.k) = ks := by
   rw [List.map_map]
   conv => rhs; rw [← List.map_id ks]
   exact List.map_congr_left fun k hk => (find_key (leafAt_some T k (h.find k hk))).1
 refine part_perm K s0 256 _ _ ?_ ?_ (h.perm hT.nodup)
 · rw [hk]
   exact ⟨fun k hk => hT.hash k ((h.mem k).1 hk), h.sorted.nodup⟩
 · rw [hk]; exact coh_top ks
theorem keys_own {w : World} {base : Nat} {v : Value} {ys : List HK} (h : w.ownsRow base 27 32 v ys.length (ys.flatMap HK.enc)) :
   ∃ a c, v = .slice a ys.length c ∧ KeysAt w a ys.length (ys.map (·.k)) ∧ ys.length ≤ c ∧ ∀ A, a = some A → base ≤ A.block := by
 rcases h.2 with ⟨rfl, h0⟩ | ⟨b, cap, cur, rfl, hB, hh, h1, h2, h3, h4⟩
 · have e : ys = [] := List.eq_nil_of_length_eq_zero h0
   subst e
   exact ⟨none, 0, rfl, ⟨rfl, fun k hk => (by cases hk), fun h => absurd h (by simp)⟩, Nat.le_refl _, fun A hA => (by cases hA)⟩
 · refine ⟨_, cap, rfl, ⟨by simp, fun k hk => ?_, fun h0 => ⟨b, 0, rfl, (Array.getElem?_eq_some_iff.1 hh).1, fun i k hi j v hv => ?_⟩⟩, h1, fun A hA => by injection hA with hA; rw [← hA]; exact hB⟩
   · obtain ⟨y, _, rfl⟩ := List.mem_map.1 hk
     exact y.h
   · rw [List.getElem?_map] at hi
     obtain ⟨y, hy, rfl⟩ := Option.map_eq_some_iff.1 hi
     have hj := (List.getElem?_eq_some_iff.1 hv).1
     rw [bcells_length, y.h.1] at hj
     have hil := (List.getElem?_eq_some_iff.1 hy).1
     have hg : Has w b 27 cur := hh
     refine hg.cell_is ?_
     have e := flat_getK HK.enc 32 HK.len ys i j y hy hj
     have hlt : i * 32 + j < ys.length * 32 := by
      have : (i + 1) * 32 ≤ ys.length * 32 := Nat.mul_le_mul_right 32 hil
      omega
     rw [Nat.zero_add, ← Array.getElem?_toList]
     have e2 : cur.toList[i * 32 + j]? = (cur.toList.take (ys.length * 32))[i * 32 + j]? := by rw [List.getElem?_take_of_lt hlt]
     rw [e2, h4, e]
     exact hv

section
variable (K s0 : List Wd) (S : Nat → Prop)
theorem keysT_is {g m : Nat} {es : List Ent} {T : List Lf} (w : World) (htr : TreeAt K s0 S w g m es T) :
  Calls Tryz.prog 76 #[.pointer (some ⟨g, 0, none⟩)] w fun e w' => ∃ a n c ks, e = .returned (.slice a n c) ∧ KeysT T ks ∧ KeysAt w' a n ks ∧ n ≤ c ∧ n ≤ 256 ∧ (∀ A, a = some A → w.heap.size ≤ A.block) ∧ Below w.heap.size w w' := by
 obtain ⟨cs, hf⟩ := htr.frame
 have hkeys := htr.leaves.keys
 have hlen : es.length ≤ 256 := by
  have := congrArg List.length hkeys
  rw [List.length_map, List.length_map] at this
  have := htr.len
  omega
 refine (keys_is w g m es (hf.obj.cell_is hf.lv) htr.map (by omega)).mono fun e w' ⟨v', ys, he, hk, ho, hb⟩ => ?_
 obtain ⟨a, c, rfl, h1, h2, h3⟩ := keys_own ho
 have hkt : KeysT T (ys.map (·.k)) := ⟨List.pairwise_map.2 hk.rise, fun k => by rw [hk.mem, hkeys]⟩
 have hl := hkt.len
 rw [List.length_map] at hl
 exact ⟨a, ys.length, c, _, he, hkt, h1, h2, Nat.le_trans hl htr.len, h3, hb⟩
set_option maxRecDepth 100000 in
set_option maxHeartbeats 2000000 in
theorem root_at {g m : Nat} {es : List Ent} {T : List Lf} (hlow : 2 + 1 ≤ g) (w : World) (hT : Tabs K s0 w) (htr : TreeAt K s0 S w g m es T) :
  Calls Tryz.prog 46 #[.pointer (some ⟨g, 0, none⟩)] w (PartP K s0 S w g m es T (partNd K s0 256 T)) := by
 obtain ⟨Z, hz, hZs, hZn, -⟩ := zero_node
 have b2 := Has.new w 30 Z
 have hk0 : Kept (fun _ => False) w (w.alloc (.cells Z 30)) := (Kept.refl _ _).alloc _
 have htr0 := htr.kept hk0 (fun _ _ _ h => h)
 have hglt : g < w.heap.size := by obtain ⟨cs, hf⟩ := htr.frame; exact hf.obj.lt
 have hkeys := keysT_is K s0 S _ htr0
 obtain ⟨LN, hLN⟩ : ∃ L, L = ndV (partNd K s0 256 T) := ⟨_, rfl⟩
 have ln : LN.length = 33 := by rw [hLN]; exact ndV_len (part_hash K s0 hT.len 256 T)
 have SZN := Lib.hid (show (Tryz.prog.info? 30).map (·.size) = some LN.toArray.size by rw [List.size_toArray, ln]; kernel_rfl)
 have ONE := Lib.hid (show LN.toArray.all (·.oneCell') = true by rw [hLN]; exact ndV_one _)
 have HZN := Lib.hid (show Z.size = LN.toArray.size by rw [hZs, List.size_toArray, ln])
 have HT := Lib.hid hT
 have HTR := Lib.hid htr
 have HTR0 := Lib.hid htr0
 have HK0 := Lib.hid hk0
 have HB := Lib.hid b2
 have HGL := Lib.hid hglt
 have HKEYS := Lib.hid hkeys
 have ELN := Lib.hid hLN
 have HLOW := Lib.hid hlow
 unfold PartP
 clear hT htr htr0 hk0 b2 hglt hkeys hLN ln hlow hZs
 go_enter Tryz.func46, Tryz.ntmps46
 go_upto_region 1 with (fail)
 generalize w.alloc (.cells Z 30) = W0 at HTR0 HK0 HB HKEYS ⊢
 go_wp2_with fail
 refine HKEYS.out.mono ?_
 rintro _ w1 ⟨a, n, c, ks, rfl, hkt, hka, hnc, hn, hA, hb1⟩
 have hT1 : Tabs K s0 w1 := (HT.out.kept HK0.out (fun _ h => h.elim)).kept (Kept.of_below (S := fun _ => False) hb1) (fun _ h => h.elim)
 have htr1 := HTR0.out.kept (Z := fun _ => False) (Kept.of_below hb1) (fun _ _ _ h => h)
 have hfar : FarK a g := fun A hA' e => by have h1 := hA A hA'; have h2 := HK0.out.size; have h3 := HGL.out; omega
 have hp := part_is K s0 S g m es T HLOW.out (leafAt T) (leafAt_some T) 256 (by decide) w1 hT1 htr1 a n c ks hka hnc hn hfar hkt.sorted (coh_top ks) hkt.find
 rw [hkt.part htr1.keyed] at hp
 have hp' : Calls Tryz.prog 75 #[.pointer (some ⟨g, 0, none⟩), .slice a n c, .int .i64 256] w1 (PartP K s0 S w1 g m es T (partNd K s0 256 T)) := hp
 have HP := Lib.hid hp'
 have HKB := Lib.hid (HK0.out.trans (Kept.of_below (S := fun _ => False) hb1))
 have HB1 := Lib.hid (HB.out.below hb1 HB.out.lt)
 clear hb1 hT1 htr1 hfar hp hp' hkt hka hnc hn hA
 go_wp2_with fail
 refine HP.out.mono ?_
 rintro _ w2 ⟨rfl, htr2, hk2⟩
 rw [← ELN.out]
 have hgg := HGL.out
 have hb2 := HB1.out.kept hk2 (by omega)
 have hk3 : Kept (· = w.heap.size) w2 (w2.setRow w.heap.size LN.toArray) := kept_setRow (g := w.heap.size) w2 LN.toArray
 have HRES := Lib.hid (show Has (w2.setRow w.heap.size LN.toArray) w.heap.size 30 LN.toArray from hb2.setRow)
 have hkF : Kept (· = g) w (w2.setRow w.heap.size LN.toArray) := ((HKB.out.mono (fun _ _ h => h.elim)).trans hk2).step hk3 (fun k e => by have e' : k = w.heap.size := e; omega)
 obtain ⟨cs2, hf2⟩ := htr2.frame
 have HFIN := Lib.hid (And.intro (HTR.out.framed hkF (cs := cs2) ⟨hf2.obj.kept hk3 (by omega), hf2.size, hf2.lock, hf2.lv, hf2.sm, hf2.once⟩) hkF)
 have HB3 := Lib.hid hb2
 clear htr2 hk2 hb2 hk3 hkF hf2 hgg
 go_wp2_with (refine wpList_store_row rfl 30 (.tmp 2) (.tmp 9) rfl w.heap.size LN.toArray rfl rfl 30 Z HB3.out SZN.out HZN.out ONE.out ?_)
 refine bodyPost_ret (results_cell_row rfl _ _ w.heap.size 30 LN.toArray (0, 0) _ rfl HRES.out Tryz.underlying30 rfl SZN.out) rfl ?_
 exact ⟨by rw [← ELN.out], HFIN.out⟩
end
end Go.Proofs.YtknfbccbdiidjaaGreatDoor

/- The walk of None: is a leaf nothing? -/
namespace Go.Proofs.YtknfbccbdiidjaaGreatDoor
set_option linter.unusedVariables false
set_option linter.unusedSimpArgs false
open Go.ChangeShapes Go.WideShapes Go.ChangeAt Go.RowKit Go.Maps

set_option maxRecDepth 100000 in
theorem none_is (w : World) (a : Option Addr) (n c s : Nat) (hn : n ≤ 9223372036854775807) : Calls Tryz.prog 73 #[.agg #[.slice a n c, .int .u64 (s : Int)]] w fun e w' => e = .returned (.bool (decide (n = 0 ∧ s = 0))) ∧ Below w.heap.size w w' := by
 have hbox := Has.new w 50 #[.slice a n c, .int .u64 (s : Int)]
 have d0 : (w.alloc (.cells #[.slice a n c, .int .u64 (s : Int)] 50)).cell? ⟨w.heap.size, 0, none⟩ = some (.slice a n c) := hbox.cell_is rfl
 have d1 : (w.alloc (.cells #[.slice a n c, .int .u64 (s : Int)] 50)).cell? ⟨w.heap.size, 1, none⟩ = some (.int .u64 (s : Int)) := hbox.cell_is rfl
 have hbel := Lib.hid ((Below.refl w.heap.size w).alloc (Nat.le_refl _) (.cells #[.slice a n c, .int .u64 (s : Int)] 50))
 clear hbox
 by_cases h0 : n = 0
 · subst h0
   by_cases h1 : s = 0
   · subst h1
     go_enter Tryz.func73, Tryz.ntmps73
     go_wp2
     go_ret
     exact ⟨rfl, hbel.out⟩
   · have h2 : ((s : Int) == 0) = false := by simp; omega
     have HD := Lib.hid (show decide ((0 : Nat) = 0 ∧ s = 0) = false by simp [h1])
     go_enter Tryz.func73, Tryz.ntmps73
     go_wp2
     go_ret
     exact ⟨by first | rfl | (rw [HD.out]; rfl), hbel.out⟩
 · have h2 : ((n : Int) == 0) = false := by simp; omega
   have HD := Lib.hid (show decide (n = 0 ∧ s = 0) = false by simp [h0])
   go_enter Tryz.func73, Tryz.ntmps73
   go_wp2
   go_ret
   exact ⟨by first | rfl | (rw [HD.out]; rfl), hbel.out⟩
end Go.Proofs.YtknfbccbdiidjaaGreatDoor

/- A new tree; None; slices.Clone at bytes; how many stand in a tree. -/
namespace Go.Proofs.YtknfbccbdiidjaaGreatDoor
set_option linter.unusedVariables false
set_option linter.unusedSimpArgs false
open Go.ChangeShapes Go.WideShapes Go.ChangeAt Go.RowKit Go.Maps

theorem zero_tree : Tryz.zeroCells163.size = 8486 ∧ Tryz.zeroCells163[0]? = some (.int .u32 0) ∧ Tryz.zeroCells163[1]? = some (.int .i32 0) ∧ Tryz.zeroCells163[8485]? = some (.int .u64 0) := ⟨by kernel_rfl, by kernel_rfl, by kernel_rfl, by kernel_rfl⟩
theorem build_tree (b : Nat) (w : World) : (Instr.build 163 #[(2, .map (some b))]).run Tryz.prog w = .ok (.agg (Tryz.zeroCells163.setIfInBounds 8484 (.map (some b)))) w := by kernel_rfl
set_option maxRecDepth 100000 in
set_option maxHeartbeats 1000000 in
theorem newT_is (K s0 : List Wd) (S : Nat → Prop) (w : World) (hn : ∀ k, w.heap.size ≤ k → S k) : Calls Tryz.prog 42 #[] w fun e w' => ∃ g, e = .returned (.pointer (some ⟨g, 0, none⟩)) ∧ Tr K s0 S w' g [] ∧ Below w.heap.size w w' ∧ w.heap.size ≤ g := by
 obtain ⟨z1, z2, z3, z4⟩ := zero_tree
 obtain ⟨C, hC⟩ : ∃ C, C = Tryz.zeroCells163.setIfInBounds 8484 (.map (some w.heap.size)) := ⟨_, rfl⟩
 have hbd : ∀ W, (Instr.build 163 #[(2, .map (some w.heap.size))]).run Tryz.prog W = .ok (.agg C) W := fun W => by rw [hC]; exact build_tree _ W
 have c0 : C.size = 8486 := by rw [hC, Array.size_setIfInBounds, z1]
 have c1 : C[0]? = some (.int .u32 0) := by rw [hC, Array.getElem?_setIfInBounds_ne (by decide)]; exact z2
 have c2 : C[1]? = some (.int .i32 0) := by rw [hC, Array.getElem?_setIfInBounds_ne (by decide)]; exact z3
 have c3 : C[8485]? = some (.int .u64 0) := by rw [hC, Array.getElem?_setIfInBounds_ne (by decide)]; exact z4
 have c4 : C[8484]? = some (.map (some w.heap.size)) := by rw [hC, Array.getElem?_setIfInBounds_self_of_lt (by rw [z1]; decide)]
 have hmp := MapIs.new w
 have hT := Has.new (w.alloc (.map #[] 0)) 163 C
 have hs : (w.alloc (.map #[] 0)).heap.size = w.heap.size + 1 := by simp
 rw [hs] at hT
 have hbel : Below w.heap.size w ((w.alloc (.map #[] 0)).alloc (.cells C 163)) := ((Below.refl _ _).alloc (Nat.le_refl _) _).alloc (by rw [hs]; omega) _
 have htr : TreeAt K s0 S ((w.alloc (.map #[] 0)).alloc (.cells C 163)) (w.heap.size + 1) w.heap.size [] [] :=
  ⟨⟨C, hT, c0, c2, c4, c3, .inl c1⟩, hmp.kept (S := fun _ => False) ((Kept.refl _ _).alloc _) (fun h => h), trivial, ⟨fun k hk => (by cases hk), List.nodup_nil⟩, by decide, by decide, fun t ht => (by cases ht), hn _ (by omega), hn _ (Nat.le_refl _)⟩
 have HFIN := Lib.hid (And.intro (show Tr K s0 S ((w.alloc (.map #[] 0)).alloc (.cells C 163)) (w.heap.size + 1) [] from ⟨_, _, htr⟩) hbel)
 have EC := Lib.hid hC
 have hmm := @run_makeMap Tryz.prog
 clear hC hbd c0 c1 c2 c3 c4 hmp hT hs hbel htr z1 z2 z3 z4 hn
 go_enter Tryz.func42, Tryz.ntmps42
 go_wp2
 go_ret
 have hf := HFIN.out
 rw [EC.out] at hf
 exact ⟨_, rfl, hf.1, hf.2, by omega⟩
set_option maxRecDepth 100000 in
theorem len_map {w : World} {m : Nat} {l : List Ent} (h : MapIs w m l) (ty : TypeId) : (Builtin.len_ #[149] ty #[.map (some m)]).run Tryz.prog w = .ok (goInt l.length) w := by
 obtain ⟨es, clock, hb, hs, he, hl⟩ := h
 have hl2 : es.size = l.length := by
  have := congrArg List.length he
  rw [List.length_map, List.length_map, Array.length_toList] at this
  exact this
 rw [← hl2]
 exact run_len_map w 149 ty m es clock Tryz.underlying149 hb
set_option maxRecDepth 100000 in
theorem eq_nil_bytes (w : World) (a : Option Addr) (n c : Nat) : (binOp .eql 48 (.slice a n c) (.slice none 0 0)).run Tryz.prog w = .ok (.bool a.isNone) w :=
 Lib.run_eql_slice_nil w 48 5 a n c 0 0 Tryz.underlying48
theorem info_byte : (Tryz.prog.info? 5).map (fun i => (i.zero, i.size, i.bytes)) = some (some (.int .u8 0), 1, 1) := by kernel_rfl
set_option maxRecDepth 100000 in
set_option maxHeartbeats 1000000 in
theorem clone_bytes (w : World) (v : Value) (bs : List Nat) (hn : bs.length ≤ 1000000) (h : Bytes w w.heap.size v bs) :
  Calls Tryz.prog 74 #[v] w fun e w' => ∃ v', e = .returned v' ∧ RowB (fun k => w.heap.size ≤ k) w' v' bs ∧ Below w.heap.size w w' := by
 have hnil := eq_nil_bytes
 obtain ⟨a, c, rfl, hc, hb, hp⟩ := h
 cases a with
 | none =>
  have h0 : bs = [] := by
   refine Classical.byContradiction fun hne => ?_
   obtain ⟨bg, bo, e, _⟩ := hp (List.length_pos_iff.2 hne)
   cases e
  subst h0
  go_enter Tryz.func74, Tryz.ntmps74
  go_wp2
  go_ret
  exact ⟨_, rfl, RowB.nil _ _ _ _, Below.refl _ _⟩
 | some A =>
  obtain ⟨i0, hi, hz0, hz1, hz2⟩ := info_parts info_byte
  obtain ⟨n, hnn⟩ : ∃ n, n = bs.length := ⟨_, rfl⟩
  obtain ⟨L, hL⟩ : ∃ L, L = bcells bs := ⟨_, rfl⟩
  have hfl : L.length = n := by rw [hL, bcells_length, hnn]
  have hone : ∀ v ∈ L, v.oneCell' = true := by rw [hL]; exact bcells_oneC bs
  have hcl : ∀ j u, L[j]? = some u → (w.alloc (.cells #[] 5)).cell? (A.add j) = some u := fun j u hu => by
   have hj := (List.getElem?_eq_some_iff.1 hu).1
   obtain ⟨bg, bo, e, hne, hcc⟩ := hp (by omega)
   injection e with e
   subst e
   have := hcc j (by omega)
   rw [Addr.add_mid, World.cell?_alloc_lt w _ _ (World.block_lt_of_cell? w _ this), this]
   rw [hL, bcells_get bs j (by omega)] at hu
   exact hu
  have HCL := Lib.hid hcl
  have HONE := Lib.hid hone
  have HFL := Lib.hid hfl
  have HB := Lib.hid (And.intro hb (And.intro hL hnn))
  rw [← hnn] at hn hc ⊢
  clear hcl hone hfl hb hp hnn hL
  go_enter Tryz.func74, Tryz.ntmps74
  go_wp2_with (at_builtin; refine wpList_append_own _ rfl (.tmp 5) (.tmp 6) 48 rfl w.heap.size 5 i0 _ 1 1 Tryz.underlying48 hi hz0 hz1 hz2 (by kernel_rfl) (by decide) _ 0 [] rfl (World.ownsRow_made w #[] 0 (Nat.le_refl _) (by decide) rfl) A n c L rfl (by rw [HFL.out, Nat.mul_one]) HCL.out HONE.out (by unfold maxLen; omega) (by omega) (by simp) ?_)
  intro v' w' hown hgr _
  have HOWN := Lib.hid hown
  have HGR := Lib.hid hgr
  clear hown hgr
  go_wp2
  go_ret
  obtain ⟨b1, b2, b3⟩ := HB.out
  have ho := HOWN.out
  rw [b2] at ho
  exact ⟨v', rfl, RowB.of_own ho b3.symm b1 (fun k h => h), ((Below.refl _ _).alloc (Nat.le_refl _) _).grown HGR.out (by simp) (fun k hk => by simp [Value.ownBlock] at hk; omega)⟩
end Go.Proofs.YtknfbccbdiidjaaGreatDoor

