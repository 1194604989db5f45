/- slices.SortFunc at digests: its bodies are the library's (the plain text that the kit's laying makes). -/
import Derived.Test.YtknfbccbdiidjaaGreatDoorWs
import Derived.Test.YtknfbccbdiidjaaGreatDoorRTree1
import Derived.Test.YtknfbccbdiidjaaGreatDoorRMem
import Derived.Shelf.SlSortCmp.WholeK
namespace Go.Proofs.YtknfbccbdiidjaaGreatDoor
set_option linter.unusedVariables false
set_option linter.unusedSimpArgs false
open Go.Shelf

def sortHash_ren : Go.Shelf.Ren := ⟨fun | 6 => 60 | 15 => 90 | 14 => 89 | 28 => 118 | 29 => 119 | 20 => 110 | 21 => 111 | 22 => 112 | 23 => 113 | 24 => 114 | 25 => 115 | 26 => 116 | 27 => 117 | 46 => 128 | 47 => 129 | 48 => 130 | 49 => 131 | 50 => 132 | 57 => 137 | n => n, fun | 22 => 124 | 24 => 27 | 25 => 126 | 3 => 3 | 39 => 142 | 0 => 0 | 53 => 52 | 55 => 28 | 4 => 4 | 46 => 209 | 45 => 208 | 50 => 196 | 5 => 5 | 9 => 9 | 66 => 222 | 70 => 226 | 76 => 231 | 77 => 232 | n => n, fun | n => n⟩
set_option maxRecDepth 100000 in
theorem sortHash : Go.Proofs.SlLaysF0.n6 Tryz.prog sortHash_ren := {
 mixed := by kernel_rfl,
 f6 := ⟨Tryz.f60.name, by decide, Tryz.func60.trans (congrArg some (by kernel_rfl))⟩,
 f14 := ⟨Tryz.f89.name, by decide, Tryz.func89.trans (congrArg some (by kernel_rfl))⟩,
 f15 := Tryz.func90.trans (congrArg some (by kernel_rfl)),
 f20 := ⟨Tryz.f110.name, by decide, Tryz.func110.trans (congrArg some (by kernel_rfl))⟩,
 f21 := ⟨Tryz.f111.name, by decide, Tryz.func111.trans (congrArg some (by kernel_rfl))⟩,
 f22 := ⟨Tryz.f112.name, by decide, Tryz.func112.trans (congrArg some (by kernel_rfl))⟩,
 f23 := ⟨Tryz.f113.name, by decide, Tryz.func113.trans (congrArg some (by kernel_rfl))⟩,
 f24 := ⟨Tryz.f114.name, by decide, Tryz.func114.trans (congrArg some (by kernel_rfl))⟩,
 f25 := ⟨Tryz.f115.name, by decide, Tryz.func115.trans (congrArg some (by kernel_rfl))⟩,
 f26 := ⟨Tryz.f116.name, by decide, Tryz.func116.trans (congrArg some (by kernel_rfl))⟩,
 f27 := ⟨Tryz.f117.name, by decide, Tryz.func117.trans (congrArg some (by kernel_rfl))⟩,
 f28 := Tryz.func118.trans (congrArg some (by kernel_rfl)),
 f29 := Tryz.func119.trans (congrArg some (by kernel_rfl)),
 f46 := ⟨Tryz.f128.name, by decide, Tryz.func128.trans (congrArg some (by kernel_rfl))⟩,
 f47 := Tryz.func129.trans (congrArg some (by kernel_rfl)),
 f48 := Tryz.func130.trans (congrArg some (by kernel_rfl)),
 f49 := ⟨Tryz.f131.name, by decide, Tryz.func131.trans (congrArg some (by kernel_rfl))⟩,
 f50 := ⟨Tryz.f132.name, by decide, Tryz.func132.trans (congrArg some (by kernel_rfl))⟩,
 f57 := ⟨Tryz.f137.name, by decide, Tryz.func137.trans (congrArg some (by kernel_rfl))⟩,
 t0 := Tryz.underlying0,
 a0 := Tryz.isAgg0,
 z0 := Tryz.sizeOf0,
 v0 := Tryz.zeroValue0,
 t3 := Tryz.underlying3,
 a3 := Tryz.isAgg3,
 z3 := Tryz.sizeOf3,
 v3 := Tryz.zeroValue3,
 t4 := Tryz.underlying4,
 a4 := Tryz.isAgg4,
 z4 := Tryz.sizeOf4,
 v4 := Tryz.zeroValue4,
 t5 := Tryz.underlying5,
 a5 := Tryz.isAgg5,
 z5 := Tryz.sizeOf5,
 v5 := Tryz.zeroValue5,
 t9 := Tryz.underlying9,
 a9 := Tryz.isAgg9,
 z9 := Tryz.sizeOf9,
 v9 := Tryz.zeroValue9,
 t22 := Tryz.underlying124,
 a22 := Tryz.isAgg124,
 z22 := Tryz.sizeOf124,
 v22 := Tryz.zeroValue124,
 t25 := Tryz.underlying126,
 a25 := Tryz.isAgg126,
 z25 := Tryz.sizeOf126,
 v25 := Tryz.zeroValue126,
 t39 := Tryz.underlying142,
 a39 := Tryz.isAgg142,
 z39 := Tryz.sizeOf142,
 v39 := Tryz.zeroValue142,
 t45 := Tryz.underlying208,
 a45 := Tryz.isAgg208,
 z45 := Tryz.sizeOf208,
 v45 := Tryz.zeroValue208,
 t46 := Tryz.underlying209,
 a46 := Tryz.isAgg209,
 z46 := Tryz.sizeOf209,
 v46 := Tryz.zeroValue209,
 t50 := Tryz.underlying196,
 a50 := Tryz.isAgg196,
 z50 := Tryz.sizeOf196,
 v50 := Tryz.zeroValue196,
 t53 := Tryz.underlying52,
 a53 := Tryz.isAgg52,
 z53 := Tryz.sizeOf52,
 v53 := Tryz.zeroValue52,
 t55 := Tryz.underlying28,
 a55 := Tryz.isAgg28,
 z55 := Tryz.sizeOf28,
 v55 := Tryz.zeroValue28,
 t66 := Tryz.underlying222,
 a66 := Tryz.isAgg222,
 z66 := Tryz.sizeOf222,
 v66 := Tryz.zeroValue222,
 t70 := Tryz.underlying226,
 a70 := Tryz.isAgg226,
 z70 := Tryz.sizeOf226,
 v70 := Tryz.zeroValue226,
 t76 := Tryz.underlying231,
 a76 := Tryz.isAgg231,
 z76 := Tryz.sizeOf231,
 v76 := Tryz.zeroValue231,
 t77 := Tryz.underlying232,
 a77 := Tryz.isAgg232,
 z77 := Tryz.sizeOf232,
 v77 := Tryz.zeroValue232 }

end Go.Proofs.YtknfbccbdiidjaaGreatDoor

/- The keys of a tree: the element, its order, the library's sort at a row of them. -/
namespace Go.Proofs.YtknfbccbdiidjaaGreatDoor
set_option linter.unusedVariables false
set_option linter.unusedSimpArgs false
open Go.ChangeShapes Go.WideShapes Go.ChangeAt Go.RowKit Go.Maps

structure HK where
 k : List Nat
 h : IsHash k
instance : Inhabited HK := ⟨⟨List.replicate 32 0, List.length_replicate, fun k hk => by rw [List.eq_of_mem_replicate hk]; decide⟩⟩
def HK.enc (x : HK) : List Value := bcells x.k
theorem HK.len (x : HK) : x.enc.length = 32 := by simp [HK.enc, bcells_length, x.h.1]
theorem HK.one (x : HK) : ∀ v ∈ x.enc, v.oneCell' = true := by
 exact bcells_oneC x.k
def HK.cmp (x y : HK) : Int := lexC x.k y.k
theorem HK.swo : Sort.SWO (ltOf HK.cmp) where
 irrefl x := by unfold ltOf HK.cmp; rw [lexC_refl]; rfl
 trans x y z h1 h2 := by
  unfold ltOf HK.cmp at *
  simp only [decide_eq_true_eq] at *
  exact lexC_trans _ _ _ h1 h2
 ntrans x y z h1 h2 := by
  unfold ltOf HK.cmp at *
  simp only [decide_eq_false_iff_not] at *
  intro h3
  have s1 := lexC_swap x.k y.k
  have s2 := lexC_swap y.k z.k
  have s3 := lexC_swap x.k z.k
  by_cases e1 : lexC x.k y.k = 0
  · rw [lexC_zero _ _ e1] at h3; exact h2 h3
  · have p1 : lexC y.k x.k < 0 := by omega
    exact h2 (lexC_trans _ _ _ p1 h3)

set_option maxHeartbeats 1000000 in
/-- cmp, in whatever world: two blocks are laid. -/
theorem cmpK_is (x y : HK) (W : World) : Calls Tryz.prog 104 #[.agg x.enc.toArray, .agg y.enc.toArray] W fun e w' => e = .returned (.int .i64 (HK.cmp x y)) ∧ ∃ q os', w' = Sort.grow (W.drewN q) os' := by
 have hb1 := Has.new W 27 x.enc.toArray
 have hb2 := Has.new (W.alloc (.cells x.enc.toArray 27)) 27 y.enc.toArray
 have hsz : (W.alloc (.cells x.enc.toArray 27)).heap.size = W.heap.size + 1 := by simp
 rw [hsz] at hb2
 have hb1' := hb1.alloc (.cells y.enc.toArray 27)
 have cx : ∀ z : HK, ∀ i, i < 32 → z.enc.toArray[i]? = some (.int .u8 ((z.k.getD i 0 : Nat) : Int)) := fun z i hi => by
  rw [List.getElem?_toArray, HK.enc]
  exact bcells_get _ _ (by rw [z.h.1]; exact hi)
 have hgrow : ∀ n, ∃ q os', ((W.alloc (.cells x.enc.toArray 27)).alloc (.cells y.enc.toArray 27)).drewN n = Sort.grow (W.drewN q) os' := fun n => ⟨n, #[.cells x.enc.toArray 27] ++ #[.cells y.enc.toArray 27], by
  rw [Sort.alloc_eq_grow, Sort.alloc_eq_grow, Sort.grow_grow]; rfl⟩
 have hcmp : ∀ W', (∀ i, i < 32 → W'.cell? ⟨W.heap.size, 0 + i, none⟩ = some (.int .u8 ((x.k.getD i 0 : Nat) : Int))) → (∀ i, i < 32 → W'.cell? ⟨W.heap.size + 1, 0 + i, none⟩ = some (.int .u8 ((y.k.getD i 0 : Nat) : Int))) →
   Calls Tryz.prog 31 #[.slice (some ⟨W.heap.size, 0, none⟩) 32 32, .slice (some ⟨W.heap.size + 1, 0, none⟩) 32 32] W' fun e w' => e = .returned (.int .i64 (HK.cmp x y)) ∧ w' = W' := fun W' h1 h2 =>
  (bytesCompare_is W' W.heap.size 0 32 (W.heap.size + 1) 0 32 32 32 x.k y.k x.h.1 y.h.1 h1 h2 x.h.2 y.h.2).mono fun e w' he => ⟨he.1, he.2.symm⟩
 have hc1 : ∀ n, ∀ i, i < 32 → (((W.alloc (.cells x.enc.toArray 27)).alloc (.cells y.enc.toArray 27)).drewN n).cell? ⟨W.heap.size, 0 + i, none⟩ = some (.int .u8 ((x.k.getD i 0 : Nat) : Int)) := fun n i hi => by rw [Nat.zero_add]; exact (hb1'.drewN n).cell_is (cx x i hi)
 have hc2 : ∀ n, ∀ i, i < 32 → (((W.alloc (.cells x.enc.toArray 27)).alloc (.cells y.enc.toArray 27)).drewN n).cell? ⟨W.heap.size + 1, 0 + i, none⟩ = some (.int .u8 ((y.k.getD i 0 : Nat) : Int)) := fun n i hi => by rw [Nat.zero_add]; exact (hb2.drewN n).cell_is (cx y i hi)
 have HCMP := Lib.hid (fun n => hcmp _ (hc1 n) (hc2 n))
 have HGROW := Lib.hid hgrow
 obtain ⟨A, hA⟩ : ∃ A, A = x.enc.toArray := ⟨_, rfl⟩
 obtain ⟨B, hB⟩ : ∃ B, B = y.enc.toArray := ⟨_, rfl⟩
 rw [← hA, ← hB] at HCMP HGROW ⊢
 obtain ⟨r, hr⟩ : ∃ r, r = HK.cmp x y := ⟨_, rfl⟩
 rw [← hr] at HCMP ⊢
 clear hb1 hb2 hsz hb1' cx hgrow hcmp hc1 hc2 hA hB hr
 go_enter Tryz.func104, Tryz.ntmps104
 go_upto_region 1 with (fail)
 go_quiet ((go_at_call 31; exact Calls.quiet_of_same (HCMP.out _)))
 go_wp2
 go_ret
 exact ⟨rfl, HGROW.out _⟩
def RisingK (ys : List HK) : Prop := ys.Pairwise fun a b => lexC a.k b.k < 0
theorem enters_cmpK : ∀ args w, (callFunc 104 args).run Tryz.prog w = .ok (.enter 104 args) w := enters_of Tryz.func104 (by kernel_rfl) rfl
theorem sort_keys (w : World) (base g n cap : Nat) (cur : Array Value) (xs : List HK) (hn : xs.length = n) (hbase : base ≤ g) (hb : Has w g 27 cur) (h1 : n ≤ cap) (h2 : cap ≤ maxLen) (h3 : cur.size = cap * 32)
   (ht : cur.toList.take (n * 32) = xs.flatMap HK.enc) (hd : (xs.map (·.k)).Nodup) (hs : n ≤ 1000000) :
   Calls Tryz.prog 60 #[.slice (some ⟨g, 0, none⟩) n cap, .func (.func 104) #[] #[]] w fun e w' =>
    e = .returned (.tuple #[]) ∧ ∃ ys : List HK, ys.Perm xs ∧ RisingK ys ∧ w'.ownsRow base 27 32 (.slice (some ⟨g, 0, none⟩) n cap) n (ys.flatMap HK.enc) ∧ Kept (· = g) w w' := by
 have hH := holdsK_of HK.enc 32 HK.len (by decide) (xs := xs) hb (by rw [hn]; exact ht)
 have hcon := AnyQ.slices_SortFunc (P := Tryz.prog) sortHash 32 Tryz.isAgg27 Tryz.sizeOf27 HK.enc HK.len HK.one HK.cmp HK.swo 104 #[] g 0 cap xs.toArray w enters_cmpK (fun m os dk _ x y => cmpK_is x y _) hH hb.lt (by simp; omega)
 change Calls Tryz.prog 60 _ _ _ at hcon
 have hsz : xs.toArray.size = n := by simp [hn]
 rw [hsz] at hcon
 refine hcon.mono fun e w' ⟨he, d', m, os, hp, hsd, hw⟩ => ?_
 have e1 : d'.size = n := hp.1.trans hsz
 have hperm : d'.toList.Perm xs := by
   have h := hp.2.2
   have a1 : d'.extract 0 n = d' := Array.extract_eq_self_of_le (by omega)
   have a2 : xs.toArray.extract 0 n = xs.toArray := Array.extract_eq_self_of_le (by omega)
   rw [a1, a2] at h
   simpa using h
 refine ⟨he, d'.toList, hperm, ?_, ?_, ?_⟩
 · have hd' : (d'.toList.map (·.k)).Nodup := ((hperm.map (·.k)).nodup_iff).2 hd
   unfold RisingK
   rw [List.pairwise_iff_getElem]
   intro i j hi hj hij
   have hi' : i < d'.size := by simpa using hi
   have hj' : j < d'.size := by simpa using hj
   have h := hsd i j (Nat.zero_le _) hij (by omega)
   rw [getElem!_pos d' j hj', getElem!_pos d' i hi'] at h
   unfold ltOf HK.cmp at h
   simp only [decide_eq_false_iff_not] at h
   have hne : (d'.toList[i]).k ≠ (d'.toList[j]).k := fun e => by
    have hp2 : d'.toList.Pairwise (fun a b => a.k ≠ b.k) := by
     have := hd'
     unfold List.Nodup at this
     rw [List.pairwise_map] at this
     exact this
    exact (List.pairwise_iff_getElem.1 hp2) i j hi hj hij e
   have hz : lexC (d'.toList[i]).k (d'.toList[j]).k ≠ 0 := fun e => hne (lexC_zero _ _ e)
   have hsw := lexC_swap (d'.toList[i]).k (d'.toList[j]).k
   have h' : ¬ lexC (d'.toList[j]).k (d'.toList[i]).k < 0 := by simpa using h
   omega
 · rw [hw]
   have := own_sortK HK.enc 32 HK.len (by decide) (m := m) (os := os) (ys := d'.toList) base hbase hb h1 h2 h3 (by simpa using hp.1.trans hsz)
   simpa using this
 · rw [hw]
   exact kept_sortK HK.enc 32 d'
end Go.Proofs.YtknfbccbdiidjaaGreatDoor

