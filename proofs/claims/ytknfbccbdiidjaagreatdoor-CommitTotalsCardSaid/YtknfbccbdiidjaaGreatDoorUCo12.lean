/- The walk of commit's Leaves. -/
import Derived.Test.YtknfbccbdiidjaaGreatDoorWs
import Derived.Test.YtknfbccbdiidjaaGreatDoorUCo7
import Derived.Test.YtknfbccbdiidjaaGreatDoorULf4
namespace Go.Proofs.YtknfbccbdiidjaaGreatDoor
set_option linter.unusedVariables false
set_option linter.unusedSimpArgs false
open Go.ChangeShapes Go.WideShapes Go.ChangeAt Go.RowKit Go.Maps

set_option maxHeartbeats 1000000 in
/-- cmp, in whatever world: two blocks are laid. -/
theorem cmpC_is (x y : HK) (W : World) : Calls Tryz.prog 61 #[.agg x.enc.toArray, .agg y.enc.toArray] W fun e w' => e = .returned (.int .i64 (HK.cmp x y)) ∧ ∃ q os', w' = Sort.grow (W.drewN q) os' := by
 have hb1 := Has.new W 27 x.enc.toArray
 have hb2 := Has.new (W.alloc (.cells x.enc.toArray 27)) 27 y.enc.toArray
 have hsz : (W.alloc (.cells x.enc.toArray 27)).heap.size = W.heap.size + 1 := by simp
 rw [hsz] at hb2
 have hb1' := hb1.alloc (.cells y.enc.toArray 27)
 have cx : ∀ z : HK, ∀ i, i < 32 → z.enc.toArray[i]? = some (.int .u8 ((z.k.getD i 0 : Nat) : Int)) := fun z i hi => by
  rw [List.getElem?_toArray, HK.enc]
  exact bcells_get _ _ (by rw [z.h.1]; exact hi)
 have hgrow : ∀ n, ∃ q os', ((W.alloc (.cells x.enc.toArray 27)).alloc (.cells y.enc.toArray 27)).drewN n = Sort.grow (W.drewN q) os' := fun n => ⟨n, #[.cells x.enc.toArray 27] ++ #[.cells y.enc.toArray 27], by
  rw [Sort.alloc_eq_grow, Sort.alloc_eq_grow, Sort.grow_grow]; rfl⟩
 have hcmp : ∀ W', (∀ i, i < 32 → W'.cell? ⟨W.heap.size, 0 + i, none⟩ = some (.int .u8 ((x.k.getD i 0 : Nat) : Int))) → (∀ i, i < 32 → W'.cell? ⟨W.heap.size + 1, 0 + i, none⟩ = some (.int .u8 ((y.k.getD i 0 : Nat) : Int))) →
   Calls Tryz.prog 31 #[.slice (some ⟨W.heap.size, 0, none⟩) 32 32, .slice (some ⟨W.heap.size + 1, 0, none⟩) 32 32] W' fun e w' => e = .returned (.int .i64 (HK.cmp x y)) ∧ w' = W' := fun W' h1 h2 =>
  (bytesCompare_is W' W.heap.size 0 32 (W.heap.size + 1) 0 32 32 32 x.k y.k x.h.1 y.h.1 h1 h2 x.h.2 y.h.2).mono fun e w' he => ⟨he.1, he.2.symm⟩
 have hc1 : ∀ n, ∀ i, i < 32 → (((W.alloc (.cells x.enc.toArray 27)).alloc (.cells y.enc.toArray 27)).drewN n).cell? ⟨W.heap.size, 0 + i, none⟩ = some (.int .u8 ((x.k.getD i 0 : Nat) : Int)) := fun n i hi => by rw [Nat.zero_add]; exact (hb1'.drewN n).cell_is (cx x i hi)
 have hc2 : ∀ n, ∀ i, i < 32 → (((W.alloc (.cells x.enc.toArray 27)).alloc (.cells y.enc.toArray 27)).drewN n).cell? ⟨W.heap.size + 1, 0 + i, none⟩ = some (.int .u8 ((y.k.getD i 0 : Nat) : Int)) := fun n i hi => by rw [Nat.zero_add]; exact (hb2.drewN n).cell_is (cx y i hi)
 have HCMP := Lib.hid (fun n => hcmp _ (hc1 n) (hc2 n))
 have HGROW := Lib.hid hgrow
 obtain ⟨A, hA⟩ : ∃ A, A = x.enc.toArray := ⟨_, rfl⟩
 obtain ⟨B, hB⟩ : ∃ B, B = y.enc.toArray := ⟨_, rfl⟩
 rw [← hA, ← hB] at HCMP HGROW ⊢
 obtain ⟨r, hr⟩ : ∃ r, r = HK.cmp x y := ⟨_, rfl⟩
 rw [← hr] at HCMP ⊢
 clear hb1 hb2 hsz hb1' cx hgrow hcmp hc1 hc2 hA hB hr
 go_enter Tryz.func61, Tryz.ntmps61
 go_upto_region 1 with (fail)
 go_quiet ((go_at_call 31; exact Calls.quiet_of_same (HCMP.out _)))
 go_wp2
 go_ret
 exact ⟨rfl, HGROW.out _⟩
theorem enters_cmpC : ∀ args w, (callFunc 61 args).run Tryz.prog w = .ok (.enter 61 args) w := enters_of Tryz.func61 (by kernel_rfl) rfl
theorem sort_keysC (w : World) (base g n cap : Nat) (cur : Array Value) (xs : List HK) (hn : xs.length = n) (hbase : base ≤ g) (hb : Has w g 27 cur) (h1 : n ≤ cap) (h2 : cap ≤ maxLen) (h3 : cur.size = cap * 32)
   (ht : cur.toList.take (n * 32) = xs.flatMap HK.enc) (hd : (xs.map (·.k)).Nodup) (hs : n ≤ 1000000) :
   Calls Tryz.prog 60 #[.slice (some ⟨g, 0, none⟩) n cap, .func (.func 61) #[] #[]] w fun e w' =>
    e = .returned (.tuple #[]) ∧ ∃ ys : List HK, ys.Perm xs ∧ RisingK ys ∧ w'.ownsRow base 27 32 (.slice (some ⟨g, 0, none⟩) n cap) n (ys.flatMap HK.enc) ∧ Kept (· = g) w w' := by
 have hH := holdsK_of HK.enc 32 HK.len (by decide) (xs := xs) hb (by rw [hn]; exact ht)
 have hcon := AnyQ.slices_SortFunc (P := Tryz.prog) sortHash 32 Tryz.isAgg27 Tryz.sizeOf27 HK.enc HK.len HK.one HK.cmp HK.swo 61 #[] g 0 cap xs.toArray w enters_cmpC (fun m os dk _ x y => cmpC_is x y _) hH hb.lt (by simp; omega)
 change Calls Tryz.prog 60 _ _ _ at hcon
 have hsz : xs.toArray.size = n := by simp [hn]
 rw [hsz] at hcon
 refine hcon.mono fun e w' ⟨he, d', m, os, hp, hsd, hw⟩ => ?_
 have e1 : d'.size = n := hp.1.trans hsz
 have hperm : d'.toList.Perm xs := by
   have h := hp.2.2
   have a1 : d'.extract 0 n = d' := Array.extract_eq_self_of_le (by omega)
   have a2 : xs.toArray.extract 0 n = xs.toArray := Array.extract_eq_self_of_le (by omega)
   rw [a1, a2] at h
   simpa using h
 refine ⟨he, d'.toList, hperm, ?_, ?_, ?_⟩
 · have hd' : (d'.toList.map (·.k)).Nodup := ((hperm.map (·.k)).nodup_iff).2 hd
   unfold RisingK
   rw [List.pairwise_iff_getElem]
   intro i j hi hj hij
   have hi' : i < d'.size := by simpa using hi
   have hj' : j < d'.size := by simpa using hj
   have h := hsd i j (Nat.zero_le _) hij (by omega)
   rw [getElem!_pos d' j hj', getElem!_pos d' i hi'] at h
   unfold ltOf HK.cmp at h
   simp only [decide_eq_false_iff_not] at h
   have hne : (d'.toList[i]).k ≠ (d'.toList[j]).k := fun e => by
    have hp2 : d'.toList.Pairwise (fun a b => a.k ≠ b.k) := by
     have := hd'
     unfold List.Nodup at this
     rw [List.pairwise_map] at this
     exact this
    exact (List.pairwise_iff_getElem.1 hp2) i j hi hj hij e
   have hz : lexC (d'.toList[i]).k (d'.toList[j]).k ≠ 0 := fun e => hne (lexC_zero _ _ e)
   have hsw := lexC_swap (d'.toList[i]).k (d'.toList[j]).k
   have h' : ¬ lexC (d'.toList[j]).k (d'.toList[i]).k < 0 := by simpa using h
   omega
 · rw [hw]
   have := own_sortK HK.enc 32 HK.len (by decide) (m := m) (os := os) (ys := d'.toList) base hbase hb h1 h2 h3 (by simpa using hp.1.trans hsz)
   simpa using this
 · rw [hw]
   exact kept_sortK HK.enc 32 d'
theorem by_keys {K s0 : List Wd} {ls : List LeafT} (h : (ls.map (keyK K s0)).Nodup) {ks : List (List Nat)} (hn : ks.Nodup) (hm : ∀ k, k ∈ ks ↔ k ∈ ls.map (keyK K s0)) : ∃ srt : List LeafT, srt.Perm ls ∧ srt.map (keyK K s0) = ks := by
 have hz : ∀ k ∈ ks, ∃ l, l ∈ ls ∧ keyK K s0 l = k := fun k hk => by
  obtain ⟨l, hl, e⟩ := List.mem_map.1 ((hm k).1 hk)
  exact ⟨l, hl, e⟩
 have hx : ∀ ks : List (List Nat), (∀ k ∈ ks, ∃ l, l ∈ ls ∧ keyK K s0 l = k) → ∃ srt : List LeafT, srt.map (keyK K s0) = ks ∧ ∀ l ∈ srt, l ∈ ls := by
  intro ks
  induction ks with
  | nil => intro _; exact ⟨[], rfl, fun l hl => (by cases hl)⟩
  | cons k ks ih =>
   intro hk
   obtain ⟨l, hl, e⟩ := hk k List.mem_cons_self
   obtain ⟨srt, e1, e2⟩ := ih (fun x hx => hk x (List.mem_cons_of_mem _ hx))
   exact ⟨l :: srt, by rw [List.map_cons, e, e1], fun x hx => by
    rcases List.mem_cons.1 hx with hx | hx
    · rw [hx]; exact hl
    · exact e2 x hx⟩
 obtain ⟨srt, e1, e2⟩ := hx ks hz
 refine ⟨srt, (List.perm_ext_iff_of_nodup (nodup_of_map (keyK K s0) (by rw [e1]; exact hn)) (nodup_of_map (keyK K s0) h)).2 fun x => ⟨e2 x, fun hx => ?_⟩, e1⟩
 have h1 := (hm (keyK K s0 x)).2 (List.mem_map.2 ⟨x, hx, rfl⟩)
 rw [← e1] at h1
 obtain ⟨y, hy, e3⟩ := List.mem_map.1 h1
 rw [← key_inj h (e2 y hy) hx e3]
 exact hy
theorem at_hC (b o n c k : Nat) (hk : k < n) (w : World) : (Instr.indexAt 124 (.slice (some ⟨b, o, none⟩) n c) (.int .i64 (k : Int))).run Tryz.prog w = .ok (.pointer (some ⟨b, o + k * 32, none⟩)) w := by
 have hu : Tryz.prog.underlying 124 = some (.slice (Tryz.prog.elem 124)) := by kernel_rfl
 have he : Tryz.prog.elem 124 = 27 := by kernel_rfl
 have hz : ∀ w, (sizeOf 27).run Tryz.prog w = .ok 32 w := fun w => by kernel_rfl
 rw [run_indexAt_slice w 124 ⟨b, o, none⟩ n c .i64 (k : Int) hu, if_pos ⟨by omega, by omega⟩, he, hz]
 simp only [Result.andThen, Int.toNat_natCast, Addr.add_mid]
variable {K s0 : List Wd} {S : Nat → Prop} {w w' : World} {g m0 m1 : Nat} {ls : List LeafT} {E : List (List Nat × Nat)} {Z : Nat → Nat → Prop}
def LeavesP (K s0 : List Wd) (w : World) (ls : List LeafT) (e : Ending) (w' : World) : Prop :=
 ∃ (v' : Value) (srt : List LeafT), e = .returned v' ∧ srt.Perm ls ∧ (srt.map (keyK K s0)).Pairwise (fun a b => lexC a b < 0) ∧ w'.ownsRow w.heap.size 32 99 v' srt.length (srt.flatMap LeafT.cells) ∧ Below w.heap.size w w'
set_option maxRecDepth 100000 in
set_option maxHeartbeats 16000000 in
theorem coLeaves_at (h : CmAt K s0 S w g ls m0 m1 E Z) :
  Calls Tryz.prog 29 #[.pointer (some ⟨g, 0, none⟩)] w (LeavesP K s0 w ls) := by
 have H := Lib.hid h
 have hm := h.map1
 obtain ⟨l, hl⟩ : ∃ l, l = ls.map (entL K s0) := ⟨_, rfl⟩
 have hlen : l.length ≤ 1000 := by rw [hl, List.length_map]; have := h.fine.len; omega
 rw [← hl] at hm
 have hmlt := hm.lt
 have hc := h.cells.2.1
 obtain ⟨w0, hrun, hit, hk0, hsz0⟩ := range_is (T := 99) Tryz.underlying99 hm
 have HLEN := Lib.hid hlen
 have HIT := Lib.hid hit
 have HK0 := Lib.hid hk0
 have HS0 := Lib.hid hsz0
 have HML := Lib.hid hmlt
 have EL := Lib.hid hl
 have hu30 := Tryz.underlying27
 clear hm hit hk0 hsz0 hlen hmlt h hl
 go_enter Tryz.func29, Tryz.ntmps29
 go_wp2_with fail
 generalize hr : w.heap.size = r at hrun HIT HS0 HML ⊢
 have HR := Lib.hid hr
 clear hr
 go_loopw [3] (fun ov wr => ∃ done xs, GathK w m1 r l done xs ov wr) (fun _ wr => wr.rangeLeft m1 r)
 case atStart => exact ⟨[], [], HIT.out, rfl, ⟨_, _, _, rfl⟩, World.ownsRow_nil _ _ _ _, HK0.out.mono (fun _ _ h => h.elim), by rw [HS0.out]; omega⟩
 case round =>
  obtain ⟨done, xs, hit, hxs, ⟨oa, on, oc, rfl⟩, hown, hkw, hr⟩ := hrel
  have hdl : xs.length ≤ 1000000 := by
    have h1 := hit.size
    have h2 : xs.length = done.length := by rw [← hxs]; simp
    have h3 := HLEN.out
    omega
  rcases next_is hit 0 with ⟨hd, hnx⟩ | ⟨key, vv, w2, hmem, hnd, hkh, hnx, hit1, hk1, hsz1, hlt1, hen⟩
  · have hxd : (xs.map (·.k)).Nodup := by rw [hxs]; exact hit.nodup.1
    have hbel : Below w.heap.size w wr := hkw.below (Nat.le_refl _) (fun k e => e)
    have hsum : ∀ ys : List HK, ys.Perm xs → ∀ k, k ∈ ys.map (·.k) ↔ k ∈ l.map (·.1) := fun ys hp k => ⟨fun hk => by
     have h1 : k ∈ xs.map (·.k) := (hp.map (·.k)).mem_iff.1 hk
     rw [hxs] at h1
     exact hit.mem k h1, fun hk => by
     obtain ⟨p, hp1, rfl⟩ := List.mem_map.1 hk
     have h1 := hd p hp1
     rw [← hxs] at h1
     exact (hp.map (·.k)).mem_iff.2 h1⟩
    have HSUM := Lib.hid hsum
    have HBEL := Lib.hid hbel
    have hrw : w.heap.size ≤ r := by rw [HR.out]; exact Nat.le_refl _
    go_upto_region 8 with (fail)
    go_cut [3] from 23 to 24 (fun kv wx => ∃ (ys : List HK) (a : Option Addr) (c : Nat), kv = .slice a ys.length c ∧ RowsAt HK.enc 32 wx a ys.length ys ∧ RisingK ys ∧ ys.length ≤ 1000000 ∧ (∀ k, k ∈ ys.map (·.k) ↔ k ∈ l.map (·.1)) ∧ Below w.heap.size w wx)
    case first =>
     rcases hown.2 with ⟨e, h0⟩ | ⟨gs, cap, cur, e, hbase, hh, h1, h2, h3, h4⟩
     · injection e with e1 e2 e3
       subst e1 e2 e3
       have hxs0 : xs = [] := List.eq_nil_of_length_eq_zero h0
       subst hxs0
       have hcall := AnyF.slices_SortFunc_none (P := Tryz.prog) sortHash none 0 (.func (.func 61) #[] #[]) wr
       change Calls Tryz.prog 60 _ _ _ at hcall
       have HCALL := Lib.hid hcall
       clear hcall hown hit hxs hkw hr hdl hd hxd hbel hsum hrw h0 hrun
       go_wp2_with fail
       refine HCALL.out.mono ?_
       rintro _ W7 ⟨rfl, e8⟩
       have e9 := e8.symm
       subst e9
       clear e8
       go_wp2
       go_meet
       case rel => exact ⟨[], none, 0, rfl, ⟨rfl, fun x hx => (by cases hx), fun h => absurd h (Nat.lt_irrefl 0)⟩, List.Pairwise.nil, by decide, HSUM.out [] (List.Perm.refl _), HBEL.out⟩
     · injection e with e1 e2 e3
       subst e1 e2 e3
       have hcall := sort_keysC wr w.heap.size gs xs.length oc cur xs rfl (by omega) hh h1 h2 h3 h4 hxd hdl
       have HCALL := Lib.hid hcall
       have HGS := Lib.hid (show w.heap.size ≤ gs by omega)
       have HDL := Lib.hid hdl
       clear hcall hown hit hxs hkw hr hd hxd hbel hsum hrw hrun hbase hh h1 h2 h3 h4 hdl
       go_wp2_with fail
       refine HCALL.out.mono ?_
       rintro _ W7 ⟨rfl, ys, hp, hri, hown7, hk7⟩
       have hl7 := hp.length_eq
       rw [← hl7] at hown7
       have HE := Lib.hid (And.intro (own_rows hown7 rfl (fun x _ => HK.len x)).1 (And.intro hri (And.intro (HSUM.out ys hp) (HBEL.out.trans (hk7.below HBEL.out.size (fun k e => by rw [e]; exact HGS.out))))))
       have HL7 := Lib.hid hl7
       clear hp hri hown7 hk7 hl7
       go_wp2
       go_meet
       case rel => exact ⟨ys, _, oc, by rw [HL7.out], HE.out.1, HE.out.2.1, by rw [HL7.out]; exact HDL.out, HE.out.2.2.1, HE.out.2.2.2⟩
    case rest =>
     obtain ⟨Wc, hWc⟩ : ∃ x, x = wc := ⟨_, rfl⟩
     subst hWc
     obtain ⟨ys, a, c, rfl, hrows, hris, hyl, hmem, hbw⟩ := hcut
     clear hown hit hxs hkw hr hdl hd hxd hbel hsum hrw hrun hnx HSUM HBEL HIT HK0 HS0 HML
     have hkd : (ys.map (·.k)).Pairwise (fun a b => lexC a b < 0) := by rw [List.pairwise_map]; exact hris
     have hnd : (ys.map (·.k)).Nodup := hkd.imp (fun {x y} h e => by rw [e, lexC_refl] at h; exact absurd h (by decide))
     obtain ⟨srt, hsp, hsk⟩ := by_keys (K := K) (s0 := s0) H.out.fine.keys hnd (fun k => by
       rw [hmem k, EL.out, List.map_map]
       exact Iff.rfl)
     obtain ⟨N, hN⟩ : ∃ N, N = ys.length := ⟨_, rfl⟩
     rw [← hN] at hrows hyl ⊢
     have HROWS := Lib.hid hrows
     have HYL := Lib.hid hyl
     have HSP := Lib.hid hsp
     have HSK := Lib.hid hsk
     have HKD := Lib.hid hkd
     have HBW := Lib.hid hbw
     have HN := Lib.hid hN
     have HSL := Lib.hid (show srt.length = N by have := congrArg List.length hsk; rw [List.length_map, List.length_map, ← hN] at this; exact this)
     have HSM := Lib.hid (show N ≤ 256 by rw [hN]; have h1 := congrArg List.length hsk; rw [List.length_map, List.length_map] at h1; rw [← h1, hsp.length_eq]; exact H.out.fine.len)
     clear hrows hris hyl hmem hbw hkd hnd hsp hsk hN
     obtain ⟨zk, hzk, hzks, hzkn⟩ := zero_hashT
     obtain ⟨zl, hzl, -, hzls, hzln, hzle'⟩ := zero_leafT
     clear hzle'
     obtain ⟨ZL, hinfo, hzs⟩ := info_leafT
     obtain ⟨ii, hi1, hi2, hi3, hi4⟩ := info_parts hinfo
     have HII := Lib.hid (And.intro hi1 (And.intro hi2 hi3))
     have HINFO := Lib.hid hinfo
     have HZ99 := Lib.hid (show (Value.agg ZL).cells.size = 99 from hzs)
     have HZK := Lib.hid hzks
     have HZL := Lib.hid hzls
     clear hinfo hzs hi1 hi2 hi3 hi4 hzks hzls
     go_wp2_with fail
     go_loopw [5, 27] (fun ov iv wr => ∃ j : Nat, iv = .int .i64 (j : Int) ∧ j ≤ N ∧ wr.ownsRow Wc.heap.size 32 99 ov j ((srt.take j).flatMap LeafT.cells) ∧ Below Wc.heap.size Wc wr) (fun _ iv _ => N - (intOf iv).toNat)
     case atStart => exact ⟨0, rfl, Nat.zero_le _, World.ownsRow_nil _ _ _ _, Below.refl _ _⟩
     case round =>
       obtain ⟨j, rfl, hj, hown, hbr⟩ := hrel
       by_cases hlt : j < N
       · have hlt' : (j : Int) < (N : Int) := by omega
         obtain ⟨oa2, oc2, rfl⟩ := own_form hown
         obtain ⟨sb, so, hA, hsb, hrr⟩ := HROWS.out.at_ (by omega)
         subst hA
         obtain ⟨y, hy⟩ : ∃ y, ys[j]? = some y := ⟨_, List.getElem?_eq_getElem (by rw [← HN.out]; exact hlt)⟩
         obtain ⟨x, hx⟩ : ∃ x, srt[j]? = some x := ⟨_, List.getElem?_eq_getElem (by rw [HSL.out]; exact hlt)⟩
         have hkey : keyK K s0 x = y.k := by
          have := congrArg (fun t => t[j]?) HSK.out
          simp only [List.getElem?_map, hx, hy, Option.map_some, Option.some.injEq] at this
          exact this
         have hxl : x ∈ ls := HSP.out.mem_iff.1 (List.mem_of_getElem? hx)
         have hxok := H.out.fine.ok x hxl
         obtain ⟨KL, hKL⟩ : ∃ L, L = bcells y.k := ⟨_, rfl⟩
         obtain ⟨LC, hLC⟩ : ∃ L, L = x.cells := ⟨_, rfl⟩
         have hrw := rangeAt_kept (hrr j y hy) (Kept.of_below (S := fun _ => False) hbr) (fun e => e)
         rw [show y.enc = KL by rw [hKL]; rfl] at hrw
         have hat := at_hC sb so N c j hlt
         have HLU := Lib.hid (show ∀ v, Below w.heap.size w v → v.cell? ⟨g, 1, none⟩ = some (.map (some m1)) ∧ (Instr.lookup 99 (.map (some m1)) (.agg KL.toArray) false).run Tryz.prog v = .ok (.agg LC.toArray) v from fun v hv => by
          refine ⟨(H.out.quiet hv).cells.2.1, ?_⟩
          have := lookup_is (T := 99) Tryz.underlying99 hzl (H.out.quiet hv).map1 y.h
          rw [look_mem2 (by rw [List.map_map]; exact H.out.fine.keys) (List.mem_map.2 ⟨x, hxl, by unfold entL; rw [hkey]⟩)] at this
          unfold arr at this
          rw [← hKL] at this
          rw [hLC]
          exact this)
         have hyl : y.k.length = 32 := y.h.1
         have HLC := Lib.hid (show LC.length = 99 by rw [hLC]; exact LeafT.len hxok)
         have HKL := Lib.hid (show KL.length = 32 by rw [hKL, bcells_length, hyl])
         have SZKA := Lib.hid (show (Tryz.prog.info? 27).map (·.size) = some KL.toArray.size by rw [List.size_toArray, hKL, bcells_length, hyl]; kernel_rfl)
         have SZK := Lib.hid (show (Tryz.prog.info? 27).map (·.size) = some KL.length by rw [hKL, bcells_length, hyl]; kernel_rfl)
         have ZZK := Lib.hid (show zk.size = KL.toArray.size by rw [HZK.out, List.size_toArray, hKL, bcells_length, hyl])
         have ONEK := Lib.hid (show KL.toArray.all (·.oneCell') = true by rw [hKL]; exact all_oneCell_toArray (bcells_one _))
         have HNW := Lib.hid (show ∀ C, Has ((wr.alloc (.cells zk 27)).setRow wr.heap.size C) wr.heap.size 27 C ∧ Below wr.heap.size wr ((wr.alloc (.cells zk 27)).setRow wr.heap.size C) from fun C => by
          rw [World.setRow_alloc_new]
          exact ⟨Has.new wr _ _, (Below.refl _ _).alloc (Nat.le_refl _) _⟩)
         have HRW := Lib.hid hrw
         have HOWN := Lib.hid hown
         have HBR := Lib.hid hbr
         have HXOK := Lib.hid hxok
         have ELC := Lib.hid hLC
         have HTK := Lib.hid (show (srt.take (j + 1)).flatMap LeafT.cells = (srt.take j).flatMap LeafT.cells ++ [x].flatMap LeafT.cells by rw [List.take_add_one, hx, List.flatMap_append]; rfl)
         have HLT := Lib.hid hlt
         clear hown hbr hsb hrr hy hx hkey hxl hxok hKL hLC hrw hyl hj hlt
         go_upto_region 13 with (first
          | (refine wpList_load_mid rfl 27 (.tmp 29) rfl sb (so + j * 32) rfl KL _ HRW.out Tryz.underlying27 rfl SZK.out ?_)
          | (refine wpList_store_row rfl 27 (.tmp 7) (.tmp 30) rfl wr.heap.size KL.toArray rfl rfl 27 zk (heap_alloc_new wr _) SZKA.out ZZK.out ONEK.out ?_))
         obtain ⟨h7, hb7⟩ := HNW.out KL.toArray
         have hown := own_kept HOWN.out (Kept.of_below (S := fun _ => False) hb7) (fun _ _ e => e)
         have hbr7 := HBR.out.trans (hb7.mono HBR.out.size)
         clear hb7 HNW HRW hat HOWN HBR
         generalize (wr.alloc (.cells zk 27)).setRow wr.heap.size KL.toArray = W7 at h7 hown hbr7 ⊢
         generalize wr.heap.size = G7 at h7 ⊢
         have HC13 := Lib.hid (show ∀ v, Below Wc.heap.size Wc v → v.cell? ⟨g, 1, none⟩ = some (.map (some m1)) ∧ (Instr.lookup 99 (.map (some m1)) (.agg KL.toArray) false).run Tryz.prog v = .ok (.agg LC.toArray) v from fun v hv => HLU.out v (HBW.out.trans (hv.mono HBW.out.size)))
         replace hown := own_kept hown ((Kept.refl (fun _ => False) W7).drew) (fun _ _ e => e)
         have hS0 : Below Wc.heap.size Wc W7.drew ∧ Has W7.drew G7 27 KL.toArray := ⟨hbr7.drew, h7⟩
         have HOB := Lib.hid (show ∀ y ∈ [x], ∀ u ∈ LeafT.cells y, u.oneCell' = true from fun y _ u hu => by
          have := LeafT.one y
          rw [Array.all_eq_true'] at this
          exact this u (by simpa using hu))
         have HMX := Lib.hid (show j + 1 ≤ maxLen ∧ (j + 1) * 120 ≤ 140737488355328 from ⟨by unfold maxLen; have := HSM.out; have := HLT.out; omega, by have := HSM.out; have := HLT.out; omega⟩)
         clear hbr7 h7
         refine wp_region_noPanic ?_
         refine wp_region_held_drew (S := (fun v => Below Wc.heap.size Wc v ∧ Has v G7 27 KL.toArray)) (by kernel_rfl) hS0 (fun hH0 => ?_)
         apply tk 0 (v := _) rfl (Or.inl ⟨by kernel_rfl, ?hv⟩) hH0 ?_
         case hv => intro w' hS; have z0 := (HC13.out w' hS.1).1; have z1 := (HC13.out w' hS.1).2; go_simp; try exact rfl
         simp only [Act.put, qa]
         apply tk 1 (v := _) rfl (Or.inl ⟨by kernel_rfl, ?hv⟩) hH0 ?_
         case hv => intro w' hS; have z0 := (HC13.out w' hS.1).1; have z1 := (HC13.out w' hS.1).2; go_simp; try exact rfl
         simp only [Act.put, qa]
         apply tk 2 (v := _) rfl (Or.inl ⟨by kernel_rfl, ?hv⟩) hH0 ?_
         case hv => intro w' hS; have z0 := (HC13.out w' hS.1).1; have z1 := (HC13.out w' hS.1).2; go_simp; try exact rfl
         simp only [Act.put, qa]
         apply tk 3 (v := _) rfl (Or.inl ⟨by kernel_rfl, ?hv⟩) hH0 ?_
         case hv => intro w' hS; have z0 := (HC13.out w' hS.1).1; have z1 := (HC13.out w' hS.1).2; go_simp; try exact rfl
         simp only [Act.put, qa]
         apply tk 4 (v := _) rfl (Or.inl ⟨by kernel_rfl, ?hv⟩) hH0 ?_
         case hv => intro w' hS; have z0 := (HC13.out w' hS.1).1; have z1 := (HC13.out w' hS.1).2; go_simp; try exact rfl
         simp only [Act.put, qa]
         refine tk 5 (v := (.agg KL.toArray)) rfl (yieldsIf_load_mid (by kernel_rfl) 27 (.tmp 7) rfl G7 0 rfl KL _ (fun w' h => h.2.row0) Tryz.underlying27 rfl SZK.out) hH0 ?_
         simp only [Act.put, qa]
         apply tk 6 (v := _) rfl (Or.inl ⟨by kernel_rfl, ?hv⟩) hH0 ?_
         case hv => intro w' hS; have z0 := (HC13.out w' hS.1).1; have z1 := (HC13.out w' hS.1).2; go_simp; try exact rfl
         simp only [Act.put, qa]
         refine wpAnyH_ready (rs := [7]) (by kernel_rfl) (by simp) ?_
         refine AllReadyH.cons rfl (fun KK hKK => ?_) AllReadyH.nil
         refine step_build1 rfl 22 32 (.tmp 37) rfl ii (.agg ZL) Tryz.underlying22 HII.out.1 HII.out.2.1 LC (by rw [HII.out.2.2, HLC.out]) (by rw [HLC.out]; exact HZ99.out) (by rw [HLC.out]; decide) (by rw [HLC.out]; decide) rfl ?_
         obtain ⟨x7, hx7⟩ : ∃ y, y = W7.drew.alloc (.cells LC.toArray 32) := ⟨_, rfl⟩
         have hb7 : Below W7.drew.heap.size W7.drew x7 := by rw [hx7]; exact (Below.refl _ _).alloc (Nat.le_refl _) _
         have hr7 : RowsAt LeafT.cells 99 x7 (some ⟨W7.drew.heap.size, 0, none⟩) 1 [x] := by rw [hx7]; exact rows_has (xs := [x]) (t := 32) (by have := Has.new W7.drew 32 LC.toArray; rw [ELC.out] at this ⊢; simpa using this) (len_cells (fun y hy => by rw [List.mem_singleton.1 hy]; exact HXOK.out))
         first | rw [← hx7] | (change KK _ (W7.drew.alloc (.cells LC.toArray 32)); rw [← hx7])
         obtain ⟨G8, hG8⟩ : ∃ y, y = W7.drew.heap.size := ⟨_, rfl⟩
         rw [← hG8] at hr7
         first | rw [← hG8] | (have hq : W7.heap.size = G8 := hG8.symm; rw [hq]; clear hq)
         have hs7 : Below Wc.heap.size Wc x7 ∧ Has x7 G7 27 KL.toArray := ⟨hH0.1.trans (hb7.mono hH0.1.size), hH0.2.below hb7 hH0.2.lt⟩
         replace hown := own_kept hown (Kept.of_below (S := fun _ => False) hb7) (fun _ _ e => e)
         clear hx7 hb7 hG8
         refine Shut.out hKK _ _ hs7 (fun hH1 => ?_)
         clear hKK KK
         try simp only [Act.put, qa]
         refine wpAnyH_ready (rs := [8]) (by kernel_rfl) (by simp) ?_
         refine AllReadyH.cons rfl (fun KK hKK => ?_) AllReadyH.nil
         refine step_append_rows (cl := LeafT.cells) rfl (.tmp 31) (.tmp 38) 22 rfl Wc.heap.size 32 (.agg ZL) 120 Tryz.underlying22 HINFO.out HZ99.out (by decide) _ j _ rfl hown _ 1 1 [x] rfl hr7 HOB.out HMX.out.1 HMX.out.2 hH1.1.size ?_
         intro oa8 oc8 x8 hown8 hgr8
         have hs8 : Below Wc.heap.size Wc x8 ∧ Has x8 G7 27 KL.toArray := ⟨hH1.1.grown hgr8 hH1.1.size (own_blk hown), hH1.2.grown hgr8 (fun e => own_has_ne hown hH1.2 (by decide) _ e.symm rfl)⟩
         clear hgr8
         refine Shut.out hKK _ _ hs8 (fun hH2 => ?_)
         clear hKK KK
         try simp only [Act.put, qa]
         apply tk 9 (v := _) rfl (Or.inl ⟨by kernel_rfl, ?hv⟩) hH2 ?_
         case hv => intro w' hS; have z0 := (HC13.out w' hS.1).1; have z1 := (HC13.out w' hS.1).2; go_simp; try exact rfl
         simp only [Act.put, qa]
         refine wpAnyH_done (by kernel_rfl) ?_ _
         refine NoPanic.normal ?_
         have HO8 := Lib.hid hown8
         have HS8 := Lib.hid hs8
         clear hown8 hs8 hs7 hr7 hown hS0
         have hjb : (j : Int) + 1 ≤ 256 := by have a1 := HLT.out; have a2 := HSM.out; omega
         go_wp2_with fail
         go_roundw
         case rel => exact ⟨j + 1, by go_num, HLT.out, by rw [HTK.out]; exact HO8.out, HS8.out.1⟩
         case measure => have := HLT.out; simp [intOf]; omega
       · obtain rfl : j = N := by omega
         obtain ⟨oa2, oc2, rfl⟩ := own_form hown
         have HRES := Lib.hid (show LeavesP K s0 w ls (.returned (.slice oa2 j oc2)) wr from ⟨_, srt, rfl, HSP.out, by rw [HSK.out]; exact HKD.out, by
          rw [List.take_of_length_le (by rw [HSL.out]; exact Nat.le_refl _)] at hown
          rw [HSL.out]
          exact own_base hown HBW.out.size, HBW.out.trans (hbr.mono HBW.out.size)⟩)
         clear hown hbr
         go_wp2
         go_ret
         exact HRES.out
  · obtain ⟨ZH, hzh, hzhs, hzhn⟩ := zero_key
    obtain ⟨isum, his, his0, his1, his2⟩ := info_parts info_key
    have hnw : ∀ C, Has ((w2.alloc (.cells ZH 27)).setRow w2.heap.size C) w2.heap.size 27 C ∧ Kept (fun _ => False) w2 ((w2.alloc (.cells ZH 27)).setRow w2.heap.size C) := fun C => by
     rw [World.setRow_alloc_new]
     exact ⟨Has.new w2 _ _, (Kept.refl _ _).alloc _⟩
    have hmr : m1 < r := HML.out
    have hown1 : w2.ownsRow (r + 1) 27 32 (.slice oa on oc) xs.length (xs.flatMap HK.enc) := own_kept hown hk1 (fun k hk e => by
     rcases hown.2 with ⟨e2, _⟩ | ⟨gs, cap, cur, e2, hbase, _⟩
     · rw [e2] at hk; simp [Value.ownBlock] at hk
     · rw [e2] at hk
       simp [Value.ownBlock] at hk
       omega)
    have hkw1 : Kept (fun k => w.heap.size ≤ k) w w2 := hkw.step hk1 (fun k e => .inr (by rw [e, HR.out]; exact Nat.le_refl _))
    obtain ⟨X, hX⟩ : ∃ X : HK, X = ⟨key, hkh⟩ := ⟨_, rfl⟩
    obtain ⟨L, hL⟩ : ∃ L, L = bcells key := ⟨_, rfl⟩
    have hLX : L = X.enc := by rw [hL, hX]; rfl
    have hLl : L.length = 32 := by rw [hL, bcells_length, hkh.1]
    have szk : (Tryz.prog.info? 27).map (·.size) = some L.toArray.size := by rw [List.size_toArray, hLl]; kernel_rfl
    have hone : L.toArray.all (·.oneCell') = true := by rw [hL]; exact all_oneCell_toArray (bcells_oneC key)
    have hzL : ZH.size = L.toArray.size := by rw [hzhs, List.size_toArray, hLl]
    unfold arr at hnx hen
    rw [← hL] at hnx hen
    have HNW := Lib.hid hnw
    have HOWN1 := Lib.hid hown1
    have HKW1 := Lib.hid hkw1
    have HIT1 := Lib.hid hit1
    have HLT1 := Lib.hid hlt1
    have SZK := Lib.hid szk
    have HONE := Lib.hid hone
    have HZL := Lib.hid hzL
    have HXL := Lib.hid X.len
    have HX1 := Lib.hid X.one
    have HLX := Lib.hid hLX
    have HXK := Lib.hid (show xs.map (·.k) ++ [X.k] = done ++ [key] by rw [hxs, hX])
    have HDL := Lib.hid hdl
    have HSZ1 := Lib.hid (show r < w2.heap.size by rw [hsz1]; exact hr)
    clear hnw hown1 hkw1 hit1 hlt1 szk hone hzL hmem hxs hdl hL hLX hX hLl hk1 hsz1 hit hown hkw hr hrun hnd hkh
    go_upto_region 7 with (refine wpList_store_row rfl 27 (.tmp 4) (.tmp 18) rfl w2.heap.size L.toArray rfl rfl 27 ZH (heap_alloc_new w2 _) SZK.out HZL.out HONE.out ?_)
    obtain ⟨h9, hk9⟩ := HNW.out L.toArray
    generalize (w2.alloc (.cells ZH 27)).setRow w2.heap.size L.toArray = W5 at h9 hk9 ⊢
    have hit5 := HIT1.out.kept hk9 (fun h => h) (fun h => h)
    have hlf5 := HIT1.out.left_kept hk9 (fun h => h) (fun h => h)
    have hown5 := own_kept HOWN1.out hk9 (fun _ _ h => h)
    have hkw5 := HKW1.out.trans (hk9.mono (fun _ _ h => h.elim))
    have hr5 : r < W5.heap.size := Nat.lt_of_lt_of_le HSZ1.out hk9.size
    generalize w2.heap.size = G5 at h9 ⊢
    have H9 := Lib.hid h9
    have HOWN5 := Lib.hid hown5
    have HR5 := Lib.hid hr5
    have HBS := Lib.hid (show r + 1 ≤ (W5.alloc (.cells X.enc.toArray 27)).heap.size by show r + 1 ≤ (W5.heap.push _).size; rw [Array.size_push]; omega)
    have HZ33 := Lib.hid (show (Value.agg (bcells (List.replicate 32 0)).toArray).cells.size = 32 by kernel_rfl)
    have HML2 := Lib.hid (show xs.length + 1 ≤ maxLen by unfold maxLen; have := HDL.out; omega)
    have HBY := Lib.hid (show (xs.length + 1) * 32 ≤ 140737488355328 by have := HDL.out; omega)
    have hend : ∀ g6 cap6 w6, w6.ownsRow (r + 1) 27 32 (.slice (some ⟨g6, 0, none⟩) (xs.length + 1) cap6) (xs.length + 1) (xs.flatMap HK.enc ++ X.enc) → (W5.alloc (.cells X.enc.toArray 27)).grownBy w6 (Value.slice oa on oc).ownBlock →
       (∃ done zs, GathK w m1 r l done zs (.slice (some ⟨g6, 0, none⟩) (xs.length + 1) cap6) w6) ∧ w6.rangeLeft m1 r < wr.rangeLeft m1 r := fun g6 cap6 w6 ho6 hg6 => by
     have hob : ∀ k, (Value.slice oa on oc).ownBlock = some k → r + 1 ≤ k := fun k hk => by
       rcases hown5.2 with ⟨e2, _⟩ | ⟨gs, cap, cur, e2, hbase, _⟩
       · rw [e2] at hk; simp [Value.ownBlock] at hk
       · rw [e2] at hk
         simp [Value.ownBlock] at hk
         omega
     have hk6 : Kept (fun k => (Value.slice oa on oc).ownBlock = some k) W5 w6 := ((Kept.refl _ W5).alloc _).grown hg6 (fun k e => .inl e)
     have hmr : m1 < r := HML.out
     refine ⟨⟨_, xs ++ [X], hit5.kept hk6 (fun e => by have := hob m1 e; omega) (fun e => by have := hob r e; omega), by rw [List.map_append, List.map_singleton]; exact HXK.out, ⟨_, _, _, rfl⟩, ?_, hkw5.step hk6 (fun k e => .inl (by have h1 := hob k e; have h2 := HR.out; show w.heap.size ≤ k; omega)), Nat.lt_of_lt_of_le hr5 hk6.size⟩, ?_⟩
     · rw [List.length_append, List.flatMap_append]
       simpa using ho6
     · rw [hit5.left_kept hk6 (fun e => by have := hob m1 e; omega) (fun e => by have := hob r e; omega), hlf5]
       exact HLT1.out
    have HEND := Lib.hid hend
    clear h9 hk9 hit5 hlf5 hown5 hkw5 hr5 hend hen hnx
    go_wp2_with (first
     | (refine wpList_load_row rfl 27 (.tmp 4) rfl G5 rfl 27 L.toArray (0, 0) _ H9.out Tryz.underlying27 rfl SZK.out ?_)
     | (refine wpList_build1 rfl 124 27 (.tmp 20) rfl isum _ Tryz.underlying124 his his0 X.enc (by rw [his1, HXL.out]) (by rw [HXL.out]; kernel_rfl) (by rw [HXL.out]; decide) (by rw [HXL.out]; decide) (by rw [← HLX.out]; rfl) ?_)
     | (at_builtin; refine wpList_append_lies _ rfl (.tmp 19) (.tmp 21) 124 rfl (r + 1) 27 isum _ 32 32 Tryz.underlying124 his his0 his1 his2 HZ33.out (by decide) _ xs.length _ rfl (HOWN5.out.alloc _) ⟨W5.heap.size, 0, none⟩ 1 1 X.enc rfl HXL.out (World.news_of_block (cs := X.enc.toArray) (heap_alloc_new W5 _)) HX1.out (by decide) HML2.out HBY.out HBS.out _ rfl ?_; intro g6 cap6 w6 hown6 hgr6 hat6 hlt6))
    have hfin := HEND.out g6 cap6 w6 hown6 hgr6
    have HFIN := Lib.hid hfin
    clear hfin hown6 hgr6 hat6 hlt6
    go_wp2
    go_roundw
    case rel =>
     obtain ⟨dn, ys, e⟩ := HFIN.out.1
     exact ⟨dn, ys, e⟩
    case measure => exact HFIN.out.2
end Go.Proofs.YtknfbccbdiidjaaGreatDoor

