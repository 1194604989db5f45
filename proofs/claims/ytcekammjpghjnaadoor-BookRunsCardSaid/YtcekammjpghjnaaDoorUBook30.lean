/- A book's sums: the element, its order, the library's sort at a row of them. -/
import Derived.Test.YtcekammjpghjnaaDoorWs
import Derived.Test.YtcekammjpghjnaaDoorUSortSum
import Derived.Test.YtcekammjpghjnaaDoorUBook27
import Derived.Test.YtcekammjpghjnaaDoorUMem
import Derived.Shelf.SlSortCmp.NoneTotal
namespace Go.Proofs.YtcekammjpghjnaaDoor
set_option linter.unusedVariables false
set_option linter.unusedSimpArgs false
open Go.ChangeShapes Go.WideShapes Go.ChangeAt Go.RowKit Go.Maps

structure HV where
 k : List Nat
 n : Nat
 h : IsHash k
instance : Inhabited HV := ⟨⟨Z32, 0, z32_is⟩⟩
def HV.enc (x : HV) : List Value := bcells x.k ++ [.int .u64 (x.n : Int)]
theorem HV.len (x : HV) : x.enc.length = 33 := by simp [HV.enc, bcells_length, x.h.1]
theorem HV.one (x : HV) : ∀ v ∈ x.enc, v.oneCell' = true := by
 intro v hv
 rcases List.mem_append.1 hv with h | h
 · exact bcells_oneC _ v h
 · rw [List.mem_singleton.1 h]; rfl
def HV.cmp (x y : HV) : Int := lexC x.k y.k
theorem HV.swo : Sort.SWO (ltOf HV.cmp) where
 irrefl x := by unfold ltOf HV.cmp; rw [lexC_refl]; rfl
 trans x y z h1 h2 := by
  unfold ltOf HV.cmp at *
  simp only [decide_eq_true_eq] at *
  exact lexC_trans _ _ _ h1 h2
 ntrans x y z h1 h2 := by
  unfold ltOf HV.cmp at *
  simp only [decide_eq_false_iff_not] at *
  intro h3
  have s1 := lexC_swap x.k y.k
  have s2 := lexC_swap y.k z.k
  have s3 := lexC_swap x.k z.k
  by_cases e1 : lexC x.k y.k = 0
  · rw [lexC_zero _ _ e1] at h3; exact h2 h3
  · have p1 : lexC y.k x.k < 0 := by omega
    exact h2 (lexC_trans _ _ _ p1 h3)

set_option maxHeartbeats 1000000 in
/-- cmp, in whatever world: two blocks are laid. -/
theorem sumCmp_is (x y : HV) (W : World) : Calls Tryd.prog 43 #[.agg x.enc.toArray, .agg y.enc.toArray] W fun e w' => e = .returned (.int .i64 (HV.cmp x y)) ∧ ∃ q os', w' = Sort.grow (W.drewN q) os' := by
 have hb1 := Has.new W 94 x.enc.toArray
 have hb2 := Has.new (W.alloc (.cells x.enc.toArray 94)) 94 y.enc.toArray
 have hsz : (W.alloc (.cells x.enc.toArray 94)).heap.size = W.heap.size + 1 := by simp
 rw [hsz] at hb2
 have hb1' := hb1.alloc (.cells y.enc.toArray 94)
 have cx : ∀ z : HV, ∀ i, i < 32 → z.enc.toArray[i]? = some (.int .u8 ((z.k.getD i 0 : Nat) : Int)) := fun z i hi => by
  rw [List.getElem?_toArray, HV.enc, List.getElem?_append_left (by rw [bcells_length, z.h.1]; exact hi)]
  exact bcells_get _ _ (by rw [z.h.1]; exact hi)
 have hgrow : ∀ n, ∃ q os', ((W.alloc (.cells x.enc.toArray 94)).alloc (.cells y.enc.toArray 94)).drewN n = Sort.grow (W.drewN q) os' := fun n => ⟨n, #[.cells x.enc.toArray 94] ++ #[.cells y.enc.toArray 94], by
  rw [Sort.alloc_eq_grow, Sort.alloc_eq_grow, Sort.grow_grow]; rfl⟩
 have hcmp : ∀ W', (∀ i, i < 32 → W'.cell? ⟨W.heap.size, 0 + i, none⟩ = some (.int .u8 ((x.k.getD i 0 : Nat) : Int))) → (∀ i, i < 32 → W'.cell? ⟨W.heap.size + 1, 0 + i, none⟩ = some (.int .u8 ((y.k.getD i 0 : Nat) : Int))) →
   Calls Tryd.prog 40 #[.slice (some ⟨W.heap.size, 0, none⟩) 32 32, .slice (some ⟨W.heap.size + 1, 0, none⟩) 32 32] W' fun e w' => e = .returned (.int .i64 (HV.cmp x y)) ∧ w' = W' := fun W' h1 h2 =>
  (bytesCompare_is W' W.heap.size 0 32 (W.heap.size + 1) 0 32 32 32 x.k y.k x.h.1 y.h.1 h1 h2 x.h.2 y.h.2).mono fun e w' he => ⟨he.1, he.2.symm⟩
 have hc1 : ∀ n, ∀ i, i < 32 → (((W.alloc (.cells x.enc.toArray 94)).alloc (.cells y.enc.toArray 94)).drewN n).cell? ⟨W.heap.size, 0 + i, none⟩ = some (.int .u8 ((x.k.getD i 0 : Nat) : Int)) := fun n i hi => by rw [Nat.zero_add]; exact (hb1'.drewN n).cell_is (cx x i hi)
 have hc2 : ∀ n, ∀ i, i < 32 → (((W.alloc (.cells x.enc.toArray 94)).alloc (.cells y.enc.toArray 94)).drewN n).cell? ⟨W.heap.size + 1, 0 + i, none⟩ = some (.int .u8 ((y.k.getD i 0 : Nat) : Int)) := fun n i hi => by rw [Nat.zero_add]; exact (hb2.drewN n).cell_is (cx y i hi)
 have HCMP := Lib.hid (fun n => hcmp _ (hc1 n) (hc2 n))
 have HGROW := Lib.hid hgrow
 obtain ⟨A, hA⟩ : ∃ A, A = x.enc.toArray := ⟨_, rfl⟩
 obtain ⟨B, hB⟩ : ∃ B, B = y.enc.toArray := ⟨_, rfl⟩
 rw [← hA, ← hB] at HCMP HGROW ⊢
 obtain ⟨r, hr⟩ : ∃ r, r = HV.cmp x y := ⟨_, rfl⟩
 rw [← hr] at HCMP ⊢
 clear hb1 hb2 hsz hb1' cx hgrow hcmp hc1 hc2 hA hB hr
 go_enter Tryd.func43, Tryd.ntmps43
 go_upto_region 1 with (fail)
 go_quiet ((go_at_call 40; exact Calls.quiet_of_same (HCMP.out _)))
 go_wp2
 go_ret
 exact ⟨rfl, HGROW.out _⟩
end Go.Proofs.YtcekammjpghjnaaDoor

/- The walk of Sums. -/
namespace Go.Proofs.YtcekammjpghjnaaDoor
set_option linter.unusedVariables false
set_option linter.unusedSimpArgs false
open Go.ChangeShapes Go.WideShapes Go.ChangeAt Go.RowKit Go.Maps

def Rising (ys : List HV) : Prop := ys.Pairwise fun a b => lexC a.k b.k < 0
theorem enters_cmp : ∀ args w, (callFunc 43 args).run Tryd.prog w = .ok (.enter 43 args) w := enters_of Tryd.func43 (by kernel_rfl) rfl
theorem sort_sums (w : World) (base g n cap : Nat) (cur : Array Value) (xs : List HV) (hn : xs.length = n) (hbase : base ≤ g) (hb : Has w g 94 cur) (h1 : n ≤ cap) (h2 : cap ≤ maxLen) (h3 : cur.size = cap * 33)
   (ht : cur.toList.take (n * 33) = xs.flatMap HV.enc) (hd : (xs.map (·.k)).Nodup) (hs : n ≤ 1000000) :
   Calls Tryd.prog 42 #[.slice (some ⟨g, 0, none⟩) n cap, .func (.func 43) #[] #[]] w fun e w' =>
    e = .returned (.tuple #[]) ∧ ∃ ys : List HV, ys.Perm xs ∧ Rising ys ∧ w'.ownsRow base 94 33 (.slice (some ⟨g, 0, none⟩) n cap) n (ys.flatMap HV.enc) ∧ Kept (· = g) w w' := by
 have hH := holdsK_of HV.enc 33 HV.len (by decide) (xs := xs) hb (by rw [hn]; exact ht)
 have hcon := AnyQ.slices_SortFunc (P := Tryd.prog) sortSum 33 Tryd.isAgg94 Tryd.sizeOf94 HV.enc HV.len HV.one HV.cmp HV.swo 43 #[] g 0 cap xs.toArray w enters_cmp (fun m os dk _ x y => sumCmp_is x y _) hH hb.lt (by simp; omega)
 change Calls Tryd.prog 42 _ _ _ at hcon
 have hsz : xs.toArray.size = n := by simp [hn]
 rw [hsz] at hcon
 refine hcon.mono fun e w' ⟨he, d', m, os, hp, hsd, hw⟩ => ?_
 have e1 : d'.size = n := hp.1.trans hsz
 have hperm : d'.toList.Perm xs := by
   have h := hp.2.2
   have a1 : d'.extract 0 n = d' := Array.extract_eq_self_of_le (by omega)
   have a2 : xs.toArray.extract 0 n = xs.toArray := Array.extract_eq_self_of_le (by omega)
   rw [a1, a2] at h
   simpa using h
 refine ⟨he, d'.toList, hperm, ?_, ?_, ?_⟩
 · have hd' : (d'.toList.map (·.k)).Nodup := ((hperm.map (·.k)).nodup_iff).2 hd
   unfold Rising
   rw [List.pairwise_iff_getElem]
   intro i j hi hj hij
   have hi' : i < d'.size := by simpa using hi
   have hj' : j < d'.size := by simpa using hj
   have h := hsd i j (Nat.zero_le _) hij (by omega)
   rw [getElem!_pos d' j hj', getElem!_pos d' i hi'] at h
   unfold ltOf HV.cmp at h
   simp only [decide_eq_false_iff_not] at h
   have hne : (d'.toList[i]).k ≠ (d'.toList[j]).k := fun e => by
    have hp2 : d'.toList.Pairwise (fun a b => a.k ≠ b.k) := by
     have := hd'
     unfold List.Nodup at this
     rw [List.pairwise_map] at this
     exact this
    exact (List.pairwise_iff_getElem.1 hp2) i j hi hj hij e
   have hz : lexC (d'.toList[i]).k (d'.toList[j]).k ≠ 0 := fun e => hne (lexC_zero _ _ e)
   have hsw := lexC_swap (d'.toList[i]).k (d'.toList[j]).k
   have h' : ¬ lexC (d'.toList[j]).k (d'.toList[i]).k < 0 := by simpa using h
   omega
 · rw [hw]
   have := own_sortK HV.enc 33 HV.len (by decide) (m := m) (os := os) (ys := d'.toList) base hbase hb h1 h2 h3 (by simpa using hp.1.trans hsz)
   simpa using this
 · rw [hw]
   exact kept_sortK HV.enc 33 d'
end Go.Proofs.YtcekammjpghjnaaDoor

/- The walk of Sums. -/
namespace Go.Proofs.YtcekammjpghjnaaDoor
set_option linter.unusedVariables false
set_option linter.unusedSimpArgs false
open Go.ChangeShapes Go.WideShapes Go.ChangeAt Go.RowKit Go.Maps

structure IsSums (l : List Ent) (ys : List HV) : Prop where
 rise : Rising ys
 of : ∀ x ∈ ys, (x.k, Value.int .u64 (x.n : Int)) ∈ l
 all : ∀ p ∈ l, ∃ x ∈ ys, p.1 = x.k
theorem build_sum (D : List Nat) (hD : D.length = 32) (n : Int) (w : World) : (Instr.build 94 #[(0, .agg (bcells D).toArray), (1, .int .u64 n)]).run Tryd.prog w = .ok (.agg (bcells D ++ [Value.int .u64 n]).toArray) w := by
 match D, hD with
 | [d0, d1, d2, d3, d4, d5, d6, d7, d8, d9, d10, d11, d12, d13, d14, d15, d16, d17, d18, d19, d20, d21, d22, d23, d24, d25, d26, d27, d28, d29, d30, d31], _ => show _ = _; kernel_rfl
theorem info_sum : (Tryd.prog.info? 94).map (fun i => (i.zero, i.size, i.bytes)) = some (some (.agg (HV.enc ⟨Z32, 0, z32_is⟩).toArray), 33, 40) := by kernel_rfl
def Gath (w : World) (m r : Nat) (l : List Ent) (done : List (List Nat)) (xs : List HV) (ov : Value) (wr : World) : Prop :=
 Iter wr m r l done ∧ xs.map (·.k) = done ∧ (∀ x ∈ xs, (x.k, Value.int .u64 (x.n : Int)) ∈ l) ∧ (∃ oa on oc, ov = .slice oa on oc) ∧ wr.ownsRow (r + 1) 94 33 ov xs.length (xs.flatMap HV.enc) ∧ Kept (fun k => w.heap.size ≤ k) w wr ∧ r < wr.heap.size

set_option maxRecDepth 100000 in
set_option maxHeartbeats 4000000 in
theorem sums_is (w : World) (g m0 m1 : Nat) (v : Value) (b : Bk) (at_ : Int) (h : BookAt w g m0 m1 v b) (hb : b.ok) (ha : isSide at_) (hlen : (b.side at_).length ≤ 1000000) :
  Calls Tryd.prog 20 #[.pointer (some ⟨g, 0, none⟩), .int .i64 at_] w fun e w' => ∃ v' ys, e = .returned v' ∧ IsSums (b.side at_) ys ∧ w'.ownsRow w.heap.size 94 33 v' ys.length (ys.flatMap HV.enc) ∧ Below w.heap.size w w' := by
 obtain ⟨m, c, hm, hmm⟩ := h.sided at_ ha
 have hmlt := hm.lt
 have ha0 : (0 : Int) ≤ at_ := by rcases ha with rfl | rfl <;> decide
 have ha1 : at_ < 2 := by rcases ha with rfl | rfl <;> decide
 have HS := Lib.hid (fun W => side_yes W at_ ha)
 obtain ⟨w0, hrun, hit, hk0, hsz0⟩ := range_is (T := 68) Tryd.underlying68 hm
 have hnums := hb.side at_
 obtain ⟨l, hl⟩ : ∃ l, l = b.side at_ := ⟨_, rfl⟩
 rw [← hl] at hit hlen hnums ⊢
 have HLEN := Lib.hid hlen
 have HNUMS := Lib.hid hnums
 have HIT := Lib.hid hit
 have HK0 := Lib.hid hk0
 have HS0 := Lib.hid hsz0
 have HML := Lib.hid hmlt
 have hu30 := hash_under
 clear h hb ha hm hmm hit hk0 hsz0 hl hlen hnums hmlt
 go_enter Tryd.func20, Tryd.ntmps20
 go_wp2_with (go_at_call 29; refine (HS.out _).mono ?_; rintro _ W8 ⟨rfl, e8⟩; have e9 := e8.symm; subst e9)
 generalize hr : w.heap.size = r at hrun HIT HS0 HML ⊢
 have HR := Lib.hid hr
 clear hr
 go_loopw [5] (fun ov wr => ∃ done xs, Gath w m r l done xs ov wr) (fun _ wr => wr.rangeLeft m r)
 case atStart => exact ⟨[], [], HIT.out, rfl, (fun x hx => by cases hx), ⟨_, _, _, rfl⟩, World.ownsRow_nil _ _ _ _, HK0.out.mono (fun _ _ h => h.elim), by rw [HS0.out]; omega⟩
 case round =>
  obtain ⟨done, xs, hit, hxs, hof, ⟨oa, on, oc, rfl⟩, hown, hkw, hr⟩ := hrel
  have hdl : xs.length ≤ 1000000 := by
    have h1 := hit.size
    have h2 : xs.length = done.length := by rw [← hxs]; simp
    have h3 := HLEN.out
    omega
  rcases next_is hit 0 with ⟨hd, hnx⟩ | ⟨key, vv, w2, hmem, hnd, hkh, hnx, hit1, hk1, hsz1, hlt1, hen⟩
  · have hxd : (xs.map (·.k)).Nodup := by rw [hxs]; exact hit.nodup.1
    have hbel : Below w.heap.size w wr := hkw.below (Nat.le_refl _) (fun k e => e)
    have hsum : ∀ ys : List HV, ys.Perm xs → Rising ys → IsSums l ys := fun ys hp hr => ⟨hr, fun x hx => hof x (hp.mem_iff.1 hx), fun p hp2 => by
      have := hd p hp2
      rw [← hxs] at this
      obtain ⟨x, hx, e⟩ := List.mem_map.1 this
      exact ⟨x, hp.mem_iff.2 hx, e.symm⟩⟩
    have HSUM := Lib.hid hsum
    have HBEL := Lib.hid hbel
    have hrw : w.heap.size ≤ r := by rw [HR.out]; exact Nat.le_refl _
    rcases hown.2 with ⟨e, h0⟩ | ⟨gs, cap, cur, e, hbase, hh, h1, h2, h3, h4⟩
    · injection e with e1 e2 e3
      subst e1 e2 e3
      have hxs0 : xs = [] := List.eq_nil_of_length_eq_zero h0
      subst hxs0
      have hcall := AnyF.slices_SortFunc_none (P := Tryd.prog) sortSum none 0 (.func (.func 43) #[] #[]) wr
      change Calls Tryd.prog 42 _ _ _ at hcall
      have HCALL := Lib.hid hcall
      clear hcall hown hit hxs hof hkw hr hdl hd hxd hbel hsum hrw h0 hrun
      go_wp2_with fail
      refine HCALL.out.mono ?_
      rintro _ W7 ⟨rfl, e8⟩
      have e9 := e8.symm
      subst e9
      clear e8
      go_wp2
      go_ret
      exact ⟨_, [], rfl, HSUM.out [] (List.Perm.refl _) List.Pairwise.nil, World.ownsRow_nil _ _ _ _, HBEL.out⟩
    · injection e with e1 e2 e3
      subst e1 e2 e3
      have hcall := sort_sums wr w.heap.size gs xs.length oc cur xs rfl (by omega) hh h1 h2 h3 h4 hxd hdl
      have HCALL := Lib.hid hcall
      have HGS := Lib.hid (show w.heap.size ≤ gs by omega)
      clear hcall hown hit hxs hof hkw hr hd hxd hbel hsum hrw hrun hbase hh h1 h2 h3 h4
      go_wp2_with fail
      refine HCALL.out.mono ?_
      rintro _ W7 ⟨rfl, ys, hp, hri, hown7, hk7⟩
      have hl7 := hp.length_eq
      rw [← hl7] at hown7
      have HE := Lib.hid (And.intro (HSUM.out ys hp hri) (And.intro hown7 (HBEL.out.trans (hk7.below HBEL.out.size (fun k e => by rw [e]; exact HGS.out)))))
      have HL7 := Lib.hid hl7
      clear hp hri hown7 hk7 hl7
      go_wp2
      go_ret
      exact ⟨.slice (some ⟨gs, 0, none⟩) ys.length oc, ys, by rw [HL7.out]; rfl, HE.out⟩
  · obtain ⟨n, hn, hnlt⟩ := HNUMS.out _ hmem
    have hvv : vv = .int .u64 (n : Int) := hn
    subst hvv
    obtain ⟨ZH, hzh, hzhs, hzhn⟩ := zero_hash
    obtain ⟨isum, his, his0, his1, his2⟩ := info_parts info_sum
    have hnw : ∀ C, Has ((w2.alloc (.cells ZH 39)).setRow w2.heap.size C) w2.heap.size 39 C ∧ Kept (fun _ => False) w2 ((w2.alloc (.cells ZH 39)).setRow w2.heap.size C) := fun C => by
      rw [World.setRow_alloc_new]
      exact ⟨Has.new w2 _ _, (Kept.refl _ _).alloc _⟩
    have hmr : m < r := HML.out
    have hown1 : w2.ownsRow (r + 1) 94 33 (.slice oa on oc) xs.length (xs.flatMap HV.enc) := own_kept hown hk1 (fun k hk e => by
      rcases hown.2 with ⟨e2, _⟩ | ⟨gs, cap, cur, e2, hbase, _⟩
      · rw [e2] at hk; simp [Value.ownBlock] at hk
      · rw [e2] at hk
        simp [Value.ownBlock] at hk
        omega)
    have hkw1 : Kept (fun k => w.heap.size ≤ k) w w2 := hkw.step hk1 (fun k e => .inr (by rw [e, HR.out]; exact Nat.le_refl _))
    obtain ⟨X, hX⟩ : ∃ X : HV, X = ⟨key, n, hkh⟩ := ⟨_, rfl⟩
    have hbuild := fun W => build_sum key hkh.1 (n : Int) W
    obtain ⟨L, hL⟩ : ∃ L, L = bcells key := ⟨_, rfl⟩
    have hLX : L ++ [Value.int .u64 (n : Int)] = X.enc := by rw [hL, hX]; rfl
    have hLl : L.length = 32 := by rw [hL, bcells_length, hkh.1]
    have szk : (Tryd.prog.info? 39).map (·.size) = some L.toArray.size := by rw [List.size_toArray, hLl]; kernel_rfl
    have hone : L.toArray.all (·.oneCell') = true := by rw [hL]; exact all_oneCell_toArray (bcells_oneC key)
    have hzL : ZH.size = L.toArray.size := by rw [hzhs, List.size_toArray, hLl]
    unfold arr at hnx hen
    rw [← hL] at hnx hen hbuild
    rw [hLX] at hbuild
    have HNW := Lib.hid hnw
    have HOWN1 := Lib.hid hown1
    have HKW1 := Lib.hid hkw1
    have HIT1 := Lib.hid hit1
    have HLT1 := Lib.hid hlt1
    have SZK := Lib.hid szk
    have HONE := Lib.hid hone
    have HZL := Lib.hid hzL
    have HXL := Lib.hid X.len
    have HX1 := Lib.hid X.one
    have HBUILD := Lib.hid hbuild
    have HXM := Lib.hid (show (X.k, Value.int .u64 (X.n : Int)) ∈ l by rw [hX]; exact hmem)
    have HXK := Lib.hid (show xs.map (·.k) ++ [X.k] = done ++ [key] by rw [hxs, hX])
    have HOF := Lib.hid hof
    have HDL := Lib.hid hdl
    have HSZ1 := Lib.hid (show r < w2.heap.size by rw [hsz1]; exact hr)
    clear hnw hown1 hkw1 hit1 hlt1 szk hone hzL hbuild hmem hxs hof hdl hL hLX hX hLl hk1 hsz1 hit hown hkw hr hrun hnd hkh hnlt hn
    go_upto_region 7 with (refine wpList_store_row rfl 39 (.tmp 6) (.tmp 25) rfl w2.heap.size L.toArray rfl rfl 39 ZH (heap_alloc_new w2 _) SZK.out HZL.out HONE.out ?_)
    obtain ⟨h9, hk9⟩ := HNW.out L.toArray
    generalize (w2.alloc (.cells ZH 39)).setRow w2.heap.size L.toArray = W5 at h9 hk9 ⊢
    have hit5 := HIT1.out.kept hk9 (fun h => h) (fun h => h)
    have hlf5 := HIT1.out.left_kept hk9 (fun h => h) (fun h => h)
    have hown5 := own_kept HOWN1.out hk9 (fun _ _ h => h)
    have hkw5 := HKW1.out.trans (hk9.mono (fun _ _ h => h.elim))
    have hr5 : r < W5.heap.size := Nat.lt_of_lt_of_le HSZ1.out hk9.size
    generalize w2.heap.size = G5 at h9 ⊢
    have H9 := Lib.hid h9
    have HOWN5 := Lib.hid hown5
    have HR5 := Lib.hid hr5
    have HBS := Lib.hid (show r + 1 ≤ (W5.alloc (.cells X.enc.toArray 94)).heap.size by show r + 1 ≤ (W5.heap.push _).size; rw [Array.size_push]; omega)
    have HZ33 := Lib.hid (show (Value.agg (HV.enc ⟨Z32, 0, z32_is⟩).toArray).cells.size = 33 by kernel_rfl)
    have HML2 := Lib.hid (show xs.length + 1 ≤ maxLen by unfold maxLen; have := HDL.out; omega)
    have HBY := Lib.hid (show (xs.length + 1) * 40 ≤ 140737488355328 by have := HDL.out; omega)
    have hend : ∀ g6 cap6 w6, w6.ownsRow (r + 1) 94 33 (.slice (some ⟨g6, 0, none⟩) (xs.length + 1) cap6) (xs.length + 1) (xs.flatMap HV.enc ++ X.enc) → (W5.alloc (.cells X.enc.toArray 94)).grownBy w6 (Value.slice oa on oc).ownBlock →
        (∃ done zs, Gath w m r l done zs (.slice (some ⟨g6, 0, none⟩) (xs.length + 1) cap6) w6) ∧ w6.rangeLeft m r < wr.rangeLeft m r := fun g6 cap6 w6 ho6 hg6 => by
      have hob : ∀ k, (Value.slice oa on oc).ownBlock = some k → r + 1 ≤ k := fun k hk => by
        rcases hown5.2 with ⟨e2, _⟩ | ⟨gs, cap, cur, e2, hbase, _⟩
        · rw [e2] at hk; simp [Value.ownBlock] at hk
        · rw [e2] at hk
          simp [Value.ownBlock] at hk
          omega
      have hk6 : Kept (fun k => (Value.slice oa on oc).ownBlock = some k) W5 w6 := ((Kept.refl _ W5).alloc _).grown hg6 (fun k e => .inl e)
      have hmr : m < r := HML.out
      refine ⟨⟨_, xs ++ [X], hit5.kept hk6 (fun e => by have := hob m e; omega) (fun e => by have := hob r e; omega), by rw [List.map_append, List.map_singleton]; exact HXK.out, fun x hx => ?_, ⟨_, _, _, rfl⟩, ?_, hkw5.step hk6 (fun k e => .inl (by have h1 := hob k e; have h2 := HR.out; show w.heap.size ≤ k; omega)), Nat.lt_of_lt_of_le hr5 hk6.size⟩, ?_⟩
      · rcases List.mem_append.1 hx with e | e
        · exact HOF.out x e
        · rw [List.mem_singleton.1 e]; exact HXM.out
      · rw [List.length_append, List.flatMap_append]
        simpa using ho6
      · rw [hit5.left_kept hk6 (fun e => by have := hob m e; omega) (fun e => by have := hob r e; omega), hlf5]
        exact HLT1.out
    have HEND := Lib.hid hend
    clear h9 hk9 hit5 hlf5 hown5 hkw5 hr5 hend hen hnx
    go_wp2_with (first
      | (refine wpList_load_row rfl 39 (.tmp 6) rfl G5 rfl 39 L.toArray (0, 0) _ H9.out Tryd.underlying39 rfl SZK.out ?_)
      | (refine wpList_build_run rfl 94 #[(0, .tmp 28), (1, .tmp 29)] rfl #[(0, .agg L.toArray), (1, .int .u64 (n : Int))] (by kernel_rfl) (.agg X.enc.toArray) (HBUILD.out _) ?_)
      | (refine wpList_build1 rfl 63 94 (.tmp 30) rfl isum _ Tryd.underlying63 his his0 X.enc (by rw [his1, HXL.out]) (by rw [HXL.out]; kernel_rfl) (by rw [HXL.out]; decide) (by rw [HXL.out]; decide) rfl ?_)
      | (at_builtin; refine wpList_append_lies _ rfl (.tmp 27) (.tmp 31) 63 rfl (r + 1) 94 isum _ 33 40 Tryd.underlying63 his his0 his1 his2 HZ33.out (by decide) _ xs.length _ rfl (HOWN5.out.alloc _) ⟨W5.heap.size, 0, none⟩ 1 1 X.enc rfl HXL.out (World.news_of_block (cs := X.enc.toArray) (heap_alloc_new W5 _)) HX1.out (by decide) HML2.out HBY.out HBS.out _ rfl ?_; intro g6 cap6 w6 hown6 hgr6 hat6 hlt6))
    have hfin := HEND.out g6 cap6 w6 hown6 hgr6
    have HFIN := Lib.hid hfin
    clear hfin hown6 hgr6 hat6 hlt6
    go_wp2
    go_roundw
    case rel =>
      obtain ⟨dn, ys, e⟩ := HFIN.out.1
      exact ⟨dn, ys, e⟩
    case measure => exact HFIN.out.2
end Go.Proofs.YtcekammjpghjnaaDoor

