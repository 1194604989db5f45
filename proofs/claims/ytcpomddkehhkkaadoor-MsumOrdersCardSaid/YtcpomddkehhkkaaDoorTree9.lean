/- The walk of Keys. -/
import Derived.Test.YtcpomddkehhkkaaDoorKeys1
import Derived.Test.YtcpomddkehhkkaaDoorMap4
import Derived.Test.YtcpomddkehhkkaaDoorTree8
import Derived.Shelf.SlSortCmp.NoneTotal
import Derived.Deep.WholeRow
namespace Go.Proofs.YtcpomddkehhkkaaDoor
set_option linter.unusedVariables false
set_option linter.unusedSimpArgs false
open Go.ChangeShapes Go.WideShapes Go.ChangeAt Go.RowKit Go.Maps

/-- what Keys hands back of a map. -/
structure KeysOf (l : List Ent) (ys : List HK) : Prop where
  rise : RisingK ys
  mem : ∀ k, k ∈ ys.map (·.k) ↔ k ∈ l.map (·.1)
theorem zero_key : ∃ Z : Array Value, (∀ w, (zeroValue 27).run Tryd.prog w = .ok (.agg Z) w) ∧ Z.size = 32 ∧ ¬ Z = #[] := by
  have hs : (bcells (List.replicate 32 0)).toArray.size = 32 := by kernel_rfl
  exact ⟨_, fun w => by kernel_rfl, hs, fun e => by rw [e] at hs; cases hs⟩
theorem info_key : (Tryd.prog.info? 27).map (fun i => (i.zero, i.size, i.bytes)) = some (some (.agg (bcells (List.replicate 32 0)).toArray), 32, 32) := by kernel_rfl
theorem Iter.mem {w : World} {b r : Nat} {l : List Ent} {done : List (List Nat)} (h : Iter w b r l done) : ∀ k ∈ done, k ∈ l.map (·.1) := by
  obtain ⟨_, _, _, _, _, _, _, _, _, _, _, _, _, _, h⟩ := h
  exact h
/-- what holds while the keys are gathered. -/
def GathK (w : World) (m r : Nat) (l : List Ent) (done : List (List Nat)) (xs : List HK) (ov : Value) (wr : World) : Prop :=
  Iter wr m r l done ∧ xs.map (·.k) = done ∧ (∃ oa on oc, ov = .slice oa on oc) ∧ wr.ownsRow (r + 1) 27 32 ov xs.length (xs.flatMap HK.enc) ∧ Kept (fun k => w.heap.size ≤ k) w wr ∧ r < wr.heap.size

set_option maxRecDepth 100000 in
set_option maxHeartbeats 4000000 in
theorem keys_is (w : World) (g m : Nat) (l : List Ent) (hc : w.cell? ⟨g, 8484, none⟩ = some (.map (some m))) (hm : MapIs w m l) (hlen : l.length ≤ 1000) :
    Calls Tryd.prog 37 #[.pointer (some ⟨g, 0, none⟩)] w fun e w' => ∃ v' ys, e = .returned v' ∧ KeysOf l ys ∧ w'.ownsRow w.heap.size 27 32 v' ys.length (ys.flatMap HK.enc) ∧ Below w.heap.size w w' := by
  have hmlt := hm.lt
  obtain ⟨w0, hrun, hit, hk0, hsz0⟩ := range_is (T := 98) Tryd.underlying98 hm
  have HLEN := Lib.hid hlen
  have HIT := Lib.hid hit
  have HK0 := Lib.hid hk0
  have HS0 := Lib.hid hsz0
  have HML := Lib.hid hmlt
  have hu30 := Tryd.underlying27
  clear hm hit hk0 hsz0 hlen hmlt
  go_enter Tryd.func37, Tryd.ntmps37
  go_wp2_with fail
  generalize hr : w.heap.size = r at hrun HIT HS0 HML ⊢
  have HR := Lib.hid hr
  clear hr
  go_loopw [3] (fun ov wr => ∃ done xs, GathK w m r l done xs ov wr) (fun _ wr => wr.rangeLeft m r)
  case atStart => exact ⟨[], [], HIT.out, rfl, ⟨_, _, _, rfl⟩, World.ownsRow_nil _ _ _ _, HK0.out.mono (fun _ _ h => h.elim), by rw [HS0.out]; omega⟩
  case round =>
    obtain ⟨done, xs, hit, hxs, ⟨oa, on, oc, rfl⟩, hown, hkw, hr⟩ := hrel
    have hdl : xs.length ≤ 1000000 := by
      have h1 := hit.size
      have h2 : xs.length = done.length := by rw [← hxs]; simp
      have h3 := HLEN.out
      omega
    rcases next_is hit 0 with ⟨hd, hnx⟩ | ⟨key, vv, w2, hmem, hnd, hkh, hnx, hit1, hk1, hsz1, hlt1, hen⟩
    · have hxd : (xs.map (·.k)).Nodup := by rw [hxs]; exact hit.nodup.1
      have hbel : Below w.heap.size w wr := hkw.below (Nat.le_refl _) (fun k e => e)
      have hsum : ∀ ys : List HK, ys.Perm xs → RisingK ys → KeysOf l ys := fun ys hp hr => ⟨hr, fun k => ⟨fun hk => by
        have h1 : k ∈ xs.map (·.k) := (hp.map (·.k)).mem_iff.1 hk
        rw [hxs] at h1
        exact hit.mem k h1, fun hk => by
        obtain ⟨p, hp1, rfl⟩ := List.mem_map.1 hk
        have h1 := hd p hp1
        rw [← hxs] at h1
        exact (hp.map (·.k)).mem_iff.2 h1⟩⟩
      have HSUM := Lib.hid hsum
      have HBEL := Lib.hid hbel
      have hrw : w.heap.size ≤ r := by rw [HR.out]; exact Nat.le_refl _
      rcases hown.2 with ⟨e, h0⟩ | ⟨gs, cap, cur, e, hbase, hh, h1, h2, h3, h4⟩
      · injection e with e1 e2 e3
        subst e1 e2 e3
        have hxs0 : xs = [] := List.eq_nil_of_length_eq_zero h0
        subst hxs0
        have hcall := AnyF.slices_SortFunc_none (P := Tryd.prog) sortHash none 0 (.func (.func 54) #[] #[]) wr
        change Calls Tryd.prog 53 _ _ _ at hcall
        have HCALL := Lib.hid hcall
        clear hcall hown hit hxs hkw hr hdl hd hxd hbel hsum hrw h0 hrun
        go_wp2_with fail
        refine HCALL.out.mono ?_
        rintro _ W7 ⟨rfl, e8⟩
        have e9 := e8.symm
        subst e9
        clear e8
        go_wp2
        go_ret
        exact ⟨_, [], rfl, HSUM.out [] (List.Perm.refl _) List.Pairwise.nil, World.ownsRow_nil _ _ _ _, HBEL.out⟩
      · injection e with e1 e2 e3
        subst e1 e2 e3
        have hcall := sort_keys wr w.heap.size gs xs.length oc cur xs rfl (by omega) hh h1 h2 h3 h4 hxd hdl
        have HCALL := Lib.hid hcall
        have HGS := Lib.hid (show w.heap.size ≤ gs by omega)
        clear hcall hown hit hxs hkw hr hd hxd hbel hsum hrw hrun hbase hh h1 h2 h3 h4
        go_wp2_with fail
        refine HCALL.out.mono ?_
        rintro _ W7 ⟨rfl, ys, hp, hri, hown7, hk7⟩
        have hl7 := hp.length_eq
        rw [← hl7] at hown7
        have HE := Lib.hid (And.intro (HSUM.out ys hp hri) (And.intro hown7 (HBEL.out.trans (hk7.below HBEL.out.size (fun k e => by rw [e]; exact HGS.out)))))
        have HL7 := Lib.hid hl7
        clear hp hri hown7 hk7 hl7
        go_wp2
        go_ret
        exact ⟨.slice (some ⟨gs, 0, none⟩) ys.length oc, ys, by rw [HL7.out]; rfl, HE.out⟩
    · obtain ⟨ZH, hzh, hzhs, hzhn⟩ := zero_key
      obtain ⟨isum, his, his0, his1, his2⟩ := info_parts info_key
      have hnw : ∀ C, Has ((w2.alloc (.cells ZH 27)).setRow w2.heap.size C) w2.heap.size 27 C ∧ Kept (fun _ => False) w2 ((w2.alloc (.cells ZH 27)).setRow w2.heap.size C) := fun C => by
        rw [World.setRow_alloc_new]
        exact ⟨Has.new w2 _ _, (Kept.refl _ _).alloc _⟩
      have hmr : m < r := HML.out
      have hown1 : w2.ownsRow (r + 1) 27 32 (.slice oa on oc) xs.length (xs.flatMap HK.enc) := own_kept hown hk1 (fun k hk e => by
        rcases hown.2 with ⟨e2, _⟩ | ⟨gs, cap, cur, e2, hbase, _⟩
        · rw [e2] at hk; simp [Value.ownBlock] at hk
        · rw [e2] at hk
          simp [Value.ownBlock] at hk
          omega)
      have hkw1 : Kept (fun k => w.heap.size ≤ k) w w2 := hkw.step hk1 (fun k e => .inr (by rw [e, HR.out]; exact Nat.le_refl _))
      obtain ⟨X, hX⟩ : ∃ X : HK, X = ⟨key, hkh⟩ := ⟨_, rfl⟩
      obtain ⟨L, hL⟩ : ∃ L, L = bcells key := ⟨_, rfl⟩
      have hLX : L = X.enc := by rw [hL, hX]; rfl
      have hLl : L.length = 32 := by rw [hL, bcells_length, hkh.1]
      have szk : (Tryd.prog.info? 27).map (·.size) = some L.toArray.size := by rw [List.size_toArray, hLl]; kernel_rfl
      have hone : L.toArray.all (·.oneCell') = true := by rw [hL]; exact all_oneCell_toArray (bcells_oneC key)
      have hzL : ZH.size = L.toArray.size := by rw [hzhs, List.size_toArray, hLl]
      unfold arr at hnx hen
      rw [← hL] at hnx hen
      have HNW := Lib.hid hnw
      have HOWN1 := Lib.hid hown1
      have HKW1 := Lib.hid hkw1
      have HIT1 := Lib.hid hit1
      have HLT1 := Lib.hid hlt1
      have SZK := Lib.hid szk
      have HONE := Lib.hid hone
      have HZL := Lib.hid hzL
      have HXL := Lib.hid X.len
      have HX1 := Lib.hid X.one
      have HLX := Lib.hid hLX
      have HXK := Lib.hid (show xs.map (·.k) ++ [X.k] = done ++ [key] by rw [hxs, hX])
      have HDL := Lib.hid hdl
      have HSZ1 := Lib.hid (show r < w2.heap.size by rw [hsz1]; exact hr)
      clear hnw hown1 hkw1 hit1 hlt1 szk hone hzL hmem hxs hdl hL hLX hX hLl hk1 hsz1 hit hown hkw hr hrun hnd hkh
      go_upto_region 7 with (refine wpList_store_row rfl 27 (.tmp 4) (.tmp 15) rfl w2.heap.size L.toArray rfl rfl 27 ZH (heap_alloc_new w2 _) SZK.out HZL.out HONE.out ?_)
      obtain ⟨h9, hk9⟩ := HNW.out L.toArray
      generalize (w2.alloc (.cells ZH 27)).setRow w2.heap.size L.toArray = W5 at h9 hk9 ⊢
      have hit5 := HIT1.out.kept hk9 (fun h => h) (fun h => h)
      have hlf5 := HIT1.out.left_kept hk9 (fun h => h) (fun h => h)
      have hown5 := own_kept HOWN1.out hk9 (fun _ _ h => h)
      have hkw5 := HKW1.out.trans (hk9.mono (fun _ _ h => h.elim))
      have hr5 : r < W5.heap.size := Nat.lt_of_lt_of_le HSZ1.out hk9.size
      generalize w2.heap.size = G5 at h9 ⊢
      have H9 := Lib.hid h9
      have HOWN5 := Lib.hid hown5
      have HR5 := Lib.hid hr5
      have HBS := Lib.hid (show r + 1 ≤ (W5.alloc (.cells X.enc.toArray 27)).heap.size by show r + 1 ≤ (W5.heap.push _).size; rw [Array.size_push]; omega)
      have HZ33 := Lib.hid (show (Value.agg (bcells (List.replicate 32 0)).toArray).cells.size = 32 by kernel_rfl)
      have HML2 := Lib.hid (show xs.length + 1 ≤ maxLen by unfold maxLen; have := HDL.out; omega)
      have HBY := Lib.hid (show (xs.length + 1) * 32 ≤ 140737488355328 by have := HDL.out; omega)
      have hend : ∀ g6 cap6 w6, w6.ownsRow (r + 1) 27 32 (.slice (some ⟨g6, 0, none⟩) (xs.length + 1) cap6) (xs.length + 1) (xs.flatMap HK.enc ++ X.enc) → (W5.alloc (.cells X.enc.toArray 27)).grownBy w6 (Value.slice oa on oc).ownBlock →
          (∃ done zs, GathK w m r l done zs (.slice (some ⟨g6, 0, none⟩) (xs.length + 1) cap6) w6) ∧ w6.rangeLeft m r < wr.rangeLeft m r := fun g6 cap6 w6 ho6 hg6 => by
        have hob : ∀ k, (Value.slice oa on oc).ownBlock = some k → r + 1 ≤ k := fun k hk => by
          rcases hown5.2 with ⟨e2, _⟩ | ⟨gs, cap, cur, e2, hbase, _⟩
          · rw [e2] at hk; simp [Value.ownBlock] at hk
          · rw [e2] at hk
            simp [Value.ownBlock] at hk
            omega
        have hk6 : Kept (fun k => (Value.slice oa on oc).ownBlock = some k) W5 w6 := ((Kept.refl _ W5).alloc _).grown hg6 (fun k e => .inl e)
        have hmr : m < r := HML.out
        refine ⟨⟨_, xs ++ [X], hit5.kept hk6 (fun e => by have := hob m e; omega) (fun e => by have := hob r e; omega), by rw [List.map_append, List.map_singleton]; exact HXK.out, ⟨_, _, _, rfl⟩, ?_, hkw5.step hk6 (fun k e => .inl (by have h1 := hob k e; have h2 := HR.out; show w.heap.size ≤ k; omega)), Nat.lt_of_lt_of_le hr5 hk6.size⟩, ?_⟩
        · rw [List.length_append, List.flatMap_append]
          simpa using ho6
        · rw [hit5.left_kept hk6 (fun e => by have := hob m e; omega) (fun e => by have := hob r e; omega), hlf5]
          exact HLT1.out
      have HEND := Lib.hid hend
      clear h9 hk9 hit5 hlf5 hown5 hkw5 hr5 hend hen hnx
      go_wp2_with (first
        | (refine wpList_load_row rfl 27 (.tmp 4) rfl G5 rfl 27 L.toArray (0, 0) _ H9.out Tryd.underlying27 rfl SZK.out ?_)
        | (refine wpList_build1 rfl 78 27 (.tmp 17) rfl isum _ Tryd.underlying78 his his0 X.enc (by rw [his1, HXL.out]) (by rw [HXL.out]; kernel_rfl) (by rw [HXL.out]; decide) (by rw [HXL.out]; decide) (by rw [← HLX.out]; rfl) ?_)
        | (at_builtin; refine wpList_append_lies _ rfl (.tmp 16) (.tmp 18) 78 rfl (r + 1) 27 isum _ 32 32 Tryd.underlying78 his his0 his1 his2 HZ33.out (by decide) _ xs.length _ rfl (HOWN5.out.alloc _) ⟨W5.heap.size, 0, none⟩ 1 1 X.enc rfl HXL.out (World.news_of_block (cs := X.enc.toArray) (heap_alloc_new W5 _)) HX1.out (by decide) HML2.out HBY.out HBS.out _ rfl ?_; intro g6 cap6 w6 hown6 hgr6 hat6 hlt6))
      have hfin := HEND.out g6 cap6 w6 hown6 hgr6
      have HFIN := Lib.hid hfin
      clear hfin hown6 hgr6 hat6 hlt6
      go_wp2
      go_roundw
      case rel =>
        obtain ⟨dn, ys, e⟩ := HFIN.out.1
        exact ⟨dn, ys, e⟩
      case measure => exact HFIN.out.2
end Go.Proofs.YtcpomddkehhkkaaDoor
