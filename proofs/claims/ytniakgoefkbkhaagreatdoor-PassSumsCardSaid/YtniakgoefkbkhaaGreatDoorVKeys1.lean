/- slices.SortFunc at digests: its bodies are the library's (the plain text that the kit's laying makes). -/
import Derived.Test.YtniakgoefkbkhaaGreatDoorWs
import Derived.Test.YtniakgoefkbkhaaGreatDoorVSortK
import Derived.Test.YtniakgoefkbkhaaGreatDoorVTree1
import Derived.Test.YtniakgoefkbkhaaGreatDoorVMem
import Derived.Shelf.SlSortCmp.WholeK
namespace Go.Proofs.YtniakgoefkbkhaaGreatDoor
set_option linter.unusedVariables false
set_option linter.unusedSimpArgs false
open Go.Shelf

def sortHash_ren : Go.Shelf.Ren := ⟨fun | 6 => 78 | 15 => 93 | 14 => 92 | 28 => 111 | 29 => 112 | 20 => 103 | 21 => 104 | 22 => 105 | 23 => 106 | 24 => 107 | 25 => 108 | 26 => 109 | 27 => 110 | 46 => 117 | 47 => 118 | 48 => 119 | 49 => 120 | 50 => 121 | 57 => 130 | n => n, fun | 22 => 131 | 24 => 25 | 25 => 179 | 3 => 3 | 39 => 155 | 0 => 0 | 53 => 68 | 55 => 37 | 4 => 4 | 46 => 204 | 45 => 203 | 50 => 172 | 5 => 5 | 9 => 9 | 66 => 214 | 70 => 218 | 76 => 227 | 77 => 228 | n => n, fun | n => n⟩
set_option maxRecDepth 100000 in
theorem sortHash : Go.Proofs.SlLaysF0.n6 Tryz.prog sortHash_ren := {
 mixed := by kernel_rfl,
 f6 := ⟨Tryz.f78.name, by decide, Tryz.func78.trans (congrArg some (by kernel_rfl))⟩,
 f14 := ⟨Tryz.f92.name, by decide, Tryz.func92.trans (congrArg some (by kernel_rfl))⟩,
 f15 := Tryz.func93.trans (congrArg some (by kernel_rfl)),
 f20 := ⟨Tryz.f103.name, by decide, Tryz.func103.trans (congrArg some (by kernel_rfl))⟩,
 f21 := ⟨Tryz.f104.name, by decide, Tryz.func104.trans (congrArg some (by kernel_rfl))⟩,
 f22 := ⟨Tryz.f105.name, by decide, Tryz.func105.trans (congrArg some (by kernel_rfl))⟩,
 f23 := ⟨Tryz.f106.name, by decide, Tryz.func106.trans (congrArg some (by kernel_rfl))⟩,
 f24 := ⟨Tryz.f107.name, by decide, Tryz.func107.trans (congrArg some (by kernel_rfl))⟩,
 f25 := ⟨Tryz.f108.name, by decide, Tryz.func108.trans (congrArg some (by kernel_rfl))⟩,
 f26 := ⟨Tryz.f109.name, by decide, Tryz.func109.trans (congrArg some (by kernel_rfl))⟩,
 f27 := ⟨Tryz.f110.name, by decide, Tryz.func110.trans (congrArg some (by kernel_rfl))⟩,
 f28 := Tryz.func111.trans (congrArg some (by kernel_rfl)),
 f29 := Tryz.func112.trans (congrArg some (by kernel_rfl)),
 f46 := ⟨Tryz.f117.name, by decide, Tryz.func117.trans (congrArg some (by kernel_rfl))⟩,
 f47 := Tryz.func118.trans (congrArg some (by kernel_rfl)),
 f48 := Tryz.func119.trans (congrArg some (by kernel_rfl)),
 f49 := ⟨Tryz.f120.name, by decide, Tryz.func120.trans (congrArg some (by kernel_rfl))⟩,
 f50 := ⟨Tryz.f121.name, by decide, Tryz.func121.trans (congrArg some (by kernel_rfl))⟩,
 f57 := ⟨Tryz.f130.name, by decide, Tryz.func130.trans (congrArg some (by kernel_rfl))⟩,
 t0 := Tryz.underlying0,
 a0 := Tryz.isAgg0,
 z0 := Tryz.sizeOf0,
 v0 := Tryz.zeroValue0,
 t3 := Tryz.underlying3,
 a3 := Tryz.isAgg3,
 z3 := Tryz.sizeOf3,
 v3 := Tryz.zeroValue3,
 t4 := Tryz.underlying4,
 a4 := Tryz.isAgg4,
 z4 := Tryz.sizeOf4,
 v4 := Tryz.zeroValue4,
 t5 := Tryz.underlying5,
 a5 := Tryz.isAgg5,
 z5 := Tryz.sizeOf5,
 v5 := Tryz.zeroValue5,
 t9 := Tryz.underlying9,
 a9 := Tryz.isAgg9,
 z9 := Tryz.sizeOf9,
 v9 := Tryz.zeroValue9,
 t22 := Tryz.underlying131,
 a22 := Tryz.isAgg131,
 z22 := Tryz.sizeOf131,
 v22 := Tryz.zeroValue131,
 t25 := Tryz.underlying179,
 a25 := Tryz.isAgg179,
 z25 := Tryz.sizeOf179,
 v25 := Tryz.zeroValue179,
 t39 := Tryz.underlying155,
 a39 := Tryz.isAgg155,
 z39 := Tryz.sizeOf155,
 v39 := Tryz.zeroValue155,
 t45 := Tryz.underlying203,
 a45 := Tryz.isAgg203,
 z45 := Tryz.sizeOf203,
 v45 := Tryz.zeroValue203,
 t46 := Tryz.underlying204,
 a46 := Tryz.isAgg204,
 z46 := Tryz.sizeOf204,
 v46 := Tryz.zeroValue204,
 t50 := Tryz.underlying172,
 a50 := Tryz.isAgg172,
 z50 := Tryz.sizeOf172,
 v50 := Tryz.zeroValue172,
 t53 := Tryz.underlying68,
 a53 := Tryz.isAgg68,
 z53 := Tryz.sizeOf68,
 v53 := Tryz.zeroValue68,
 t55 := Tryz.underlying37,
 a55 := Tryz.isAgg37,
 z55 := Tryz.sizeOf37,
 v55 := Tryz.zeroValue37,
 t66 := Tryz.underlying214,
 a66 := Tryz.isAgg214,
 z66 := Tryz.sizeOf214,
 v66 := Tryz.zeroValue214,
 t70 := Tryz.underlying218,
 a70 := Tryz.isAgg218,
 z70 := Tryz.sizeOf218,
 v70 := Tryz.zeroValue218,
 t76 := Tryz.underlying227,
 a76 := Tryz.isAgg227,
 z76 := Tryz.sizeOf227,
 v76 := Tryz.zeroValue227,
 t77 := Tryz.underlying228,
 a77 := Tryz.isAgg228,
 z77 := Tryz.sizeOf228,
 v77 := Tryz.zeroValue228 }

end Go.Proofs.YtniakgoefkbkhaaGreatDoor

/- The keys of a tree: the element, its order, the library's sort at a row of them. -/
namespace Go.Proofs.YtniakgoefkbkhaaGreatDoor
set_option linter.unusedVariables false
set_option linter.unusedSimpArgs false
open Go.ChangeShapes Go.WideShapes Go.ChangeAt Go.RowKit Go.Maps

structure HK where
 k : List Nat
 h : IsHash k
instance : Inhabited HK := ⟨⟨List.replicate 32 0, List.length_replicate, fun k hk => by rw [List.eq_of_mem_replicate hk]; decide⟩⟩
def HK.enc (x : HK) : List Value := bcells x.k
theorem HK.len (x : HK) : x.enc.length = 32 := by simp [HK.enc, bcells_length, x.h.1]
theorem HK.one (x : HK) : ∀ v ∈ x.enc, v.oneCell' = true := by
 exact bcells_oneC x.k
def HK.cmp (x y : HK) : Int := lexC x.k y.k
theorem HK.swo : Sort.SWO (ltOf HK.cmp) where
 irrefl x := by unfold ltOf HK.cmp; rw [lexC_refl]; rfl
 trans x y z h1 h2 := by
  unfold ltOf HK.cmp at *
  simp only [decide_eq_true_eq] at *
  exact lexC_trans _ _ _ h1 h2
 ntrans x y z h1 h2 := by
  unfold ltOf HK.cmp at *
  simp only [decide_eq_false_iff_not] at *
  intro h3
  have s1 := lexC_swap x.k y.k
  have s2 := lexC_swap y.k z.k
  have s3 := lexC_swap x.k z.k
  by_cases e1 : lexC x.k y.k = 0
  · rw [lexC_zero _ _ e1] at h3; exact h2 h3
  · have p1 : lexC y.k x.k < 0 := by omega
    exact h2 (lexC_trans _ _ _ p1 h3)

set_option maxHeartbeats 1000000 in
/-- cmp, in whatever world: two blocks are laid. -/
theorem cmpK_is (x y : HK) (W : World) : Calls Tryz.prog 79 #[.agg x.enc.toArray, .agg y.enc.toArray] W fun e w' => e = .returned (.int .i64 (HK.cmp x y)) ∧ ∃ q os', w' = Sort.grow (W.drewN q) os' := by
 have hb1 := Has.new W 25 x.enc.toArray
 have hb2 := Has.new (W.alloc (.cells x.enc.toArray 25)) 25 y.enc.toArray
 have hsz : (W.alloc (.cells x.enc.toArray 25)).heap.size = W.heap.size + 1 := by simp
 rw [hsz] at hb2
 have hb1' := hb1.alloc (.cells y.enc.toArray 25)
 have cx : ∀ z : HK, ∀ i, i < 32 → z.enc.toArray[i]? = some (.int .u8 ((z.k.getD i 0 : Nat) : Int)) := fun z i hi => by
  rw [List.getElem?_toArray, HK.enc]
  exact bcells_get _ _ (by rw [z.h.1]; exact hi)
 have hgrow : ∀ n, ∃ q os', ((W.alloc (.cells x.enc.toArray 25)).alloc (.cells y.enc.toArray 25)).drewN n = Sort.grow (W.drewN q) os' := fun n => ⟨n, #[.cells x.enc.toArray 25] ++ #[.cells y.enc.toArray 25], by
  rw [Sort.alloc_eq_grow, Sort.alloc_eq_grow, Sort.grow_grow]; rfl⟩
 have hcmp : ∀ W', (∀ i, i < 32 → W'.cell? ⟨W.heap.size, 0 + i, none⟩ = some (.int .u8 ((x.k.getD i 0 : Nat) : Int))) → (∀ i, i < 32 → W'.cell? ⟨W.heap.size + 1, 0 + i, none⟩ = some (.int .u8 ((y.k.getD i 0 : Nat) : Int))) →
   Calls Tryz.prog 80 #[.slice (some ⟨W.heap.size, 0, none⟩) 32 32, .slice (some ⟨W.heap.size + 1, 0, none⟩) 32 32] W' fun e w' => e = .returned (.int .i64 (HK.cmp x y)) ∧ w' = W' := fun W' h1 h2 =>
  (bytesCompare_is W' W.heap.size 0 32 (W.heap.size + 1) 0 32 32 32 x.k y.k x.h.1 y.h.1 h1 h2 x.h.2 y.h.2).mono fun e w' he => ⟨he.1, he.2.symm⟩
 have hc1 : ∀ n, ∀ i, i < 32 → (((W.alloc (.cells x.enc.toArray 25)).alloc (.cells y.enc.toArray 25)).drewN n).cell? ⟨W.heap.size, 0 + i, none⟩ = some (.int .u8 ((x.k.getD i 0 : Nat) : Int)) := fun n i hi => by rw [Nat.zero_add]; exact (hb1'.drewN n).cell_is (cx x i hi)
 have hc2 : ∀ n, ∀ i, i < 32 → (((W.alloc (.cells x.enc.toArray 25)).alloc (.cells y.enc.toArray 25)).drewN n).cell? ⟨W.heap.size + 1, 0 + i, none⟩ = some (.int .u8 ((y.k.getD i 0 : Nat) : Int)) := fun n i hi => by rw [Nat.zero_add]; exact (hb2.drewN n).cell_is (cx y i hi)
 have HCMP := Lib.hid (fun n => hcmp _ (hc1 n) (hc2 n))
 have HGROW := Lib.hid hgrow
 obtain ⟨A, hA⟩ : ∃ A, A = x.enc.toArray := ⟨_, rfl⟩
 obtain ⟨B, hB⟩ : ∃ B, B = y.enc.toArray := ⟨_, rfl⟩
 rw [← hA, ← hB] at HCMP HGROW ⊢
 obtain ⟨r, hr⟩ : ∃ r, r = HK.cmp x y := ⟨_, rfl⟩
 rw [← hr] at HCMP ⊢
 clear hb1 hb2 hsz hb1' cx hgrow hcmp hc1 hc2 hA hB hr
 go_enter Tryz.func79, Tryz.ntmps79
 go_upto_region 1 with (fail)
 go_quiet ((go_at_call 80; exact Calls.quiet_of_same (HCMP.out _)))
 go_wp2
 go_ret
 exact ⟨rfl, HGROW.out _⟩
def RisingK (ys : List HK) : Prop := ys.Pairwise fun a b => lexC a.k b.k < 0
theorem enters_cmpK : ∀ args w, (callFunc 79 args).run Tryz.prog w = .ok (.enter 79 args) w := enters_of Tryz.func79 (by kernel_rfl) rfl
theorem sort_keys (w : World) (base g n cap : Nat) (cur : Array Value) (xs : List HK) (hn : xs.length = n) (hbase : base ≤ g) (hb : Has w g 25 cur) (h1 : n ≤ cap) (h2 : cap ≤ maxLen) (h3 : cur.size = cap * 32)
   (ht : cur.toList.take (n * 32) = xs.flatMap HK.enc) (hd : (xs.map (·.k)).Nodup) (hs : n ≤ 1000000) :
   Calls Tryz.prog 78 #[.slice (some ⟨g, 0, none⟩) n cap, .func (.func 79) #[] #[]] w fun e w' =>
    e = .returned (.tuple #[]) ∧ ∃ ys : List HK, ys.Perm xs ∧ RisingK ys ∧ w'.ownsRow base 25 32 (.slice (some ⟨g, 0, none⟩) n cap) n (ys.flatMap HK.enc) ∧ Kept (· = g) w w' := by
 have hH := holdsK_of HK.enc 32 HK.len (by decide) (xs := xs) hb (by rw [hn]; exact ht)
 have hcon := AnyQ.slices_SortFunc (P := Tryz.prog) sortHash 32 Tryz.isAgg25 Tryz.sizeOf25 HK.enc HK.len HK.one HK.cmp HK.swo 79 #[] g 0 cap xs.toArray w enters_cmpK (fun m os dk _ x y => cmpK_is x y _) hH hb.lt (by simp; omega)
 change Calls Tryz.prog 78 _ _ _ at hcon
 have hsz : xs.toArray.size = n := by simp [hn]
 rw [hsz] at hcon
 refine hcon.mono fun e w' ⟨he, d', m, os, hp, hsd, hw⟩ => ?_
 have e1 : d'.size = n := hp.1.trans hsz
 have hperm : d'.toList.Perm xs := by
   have h := hp.2.2
   have a1 : d'.extract 0 n = d' := Array.extract_eq_self_of_le (by omega)
   have a2 : xs.toArray.extract 0 n = xs.toArray := Array.extract_eq_self_of_le (by omega)
   rw [a1, a2] at h
   simpa using h
 refine ⟨he, d'.toList, hperm, ?_, ?_, ?_⟩
 · have hd' : (d'.toList.map (·.k)).Nodup := ((hperm.map (·.k)).nodup_iff).2 hd
   unfold RisingK
   rw [List.pairwise_iff_getElem]
   intro i j hi hj hij
   have hi' : i < d'.size := by simpa using hi
   have hj' : j < d'.size := by simpa using hj
   have h := hsd i j (Nat.zero_le _) hij (by omega)
   rw [getElem!_pos d' j hj', getElem!_pos d' i hi'] at h
   unfold ltOf HK.cmp at h
   simp only [decide_eq_false_iff_not] at h
   have hne : (d'.toList[i]).k ≠ (d'.toList[j]).k := fun e => by
    have hp2 : d'.toList.Pairwise (fun a b => a.k ≠ b.k) := by
     have := hd'
     unfold List.Nodup at this
     rw [List.pairwise_map] at this
     exact this
    exact (List.pairwise_iff_getElem.1 hp2) i j hi hj hij e
   have hz : lexC (d'.toList[i]).k (d'.toList[j]).k ≠ 0 := fun e => hne (lexC_zero _ _ e)
   have hsw := lexC_swap (d'.toList[i]).k (d'.toList[j]).k
   have h' : ¬ lexC (d'.toList[j]).k (d'.toList[i]).k < 0 := by simpa using h
   omega
 · rw [hw]
   have := own_sortK HK.enc 32 HK.len (by decide) (m := m) (os := os) (ys := d'.toList) base hbase hb h1 h2 h3 (by simpa using hp.1.trans hsz)
   simpa using this
 · rw [hw]
   exact kept_sortK HK.enc 32 d'
end Go.Proofs.YtniakgoefkbkhaaGreatDoor

