/- slices.SortFunc at digests: its bodies are the library's (the plain text that the kit's laying makes). -/
import Derived.Test.YtniakgoefkbkhaaDoorWs
import Derived.Test.YtniakgoefkbkhaaDoorVSortK
import Derived.Test.YtniakgoefkbkhaaDoorVTree1
import Derived.Test.YtniakgoefkbkhaaDoorVMem
import Derived.Shelf.SlSortCmp.WholeK
namespace Go.Proofs.YtniakgoefkbkhaaDoor
set_option linter.unusedVariables false
set_option linter.unusedSimpArgs false
open Go.Shelf

def sortHash_ren : Go.Shelf.Ren := ⟨fun | 6 => 112 | 15 => 80 | 14 => 124 | 28 => 102 | 29 => 103 | 20 => 130 | 21 => 131 | 22 => 132 | 23 => 133 | 24 => 134 | 25 => 135 | 26 => 136 | 27 => 137 | 46 => 142 | 47 => 118 | 48 => 119 | 49 => 143 | 50 => 144 | 57 => 153 | n => n, fun | 22 => 40 | 24 => 39 | 25 => 223 | 3 => 3 | 39 => 169 | 0 => 0 | 53 => 32 | 55 => 22 | 4 => 4 | 46 => 203 | 45 => 202 | 50 => 207 | 5 => 5 | 9 => 9 | 66 => 226 | 70 => 230 | 76 => 239 | 77 => 240 | n => n, fun | n => n⟩
set_option maxRecDepth 100000 in
theorem sortHash : Go.Proofs.SlLaysF0.n6 Tryd.prog sortHash_ren := {
 mixed := by kernel_rfl,
 f6 := ⟨Tryd.f112.name, by decide, Tryd.func112.trans (congrArg some (by kernel_rfl))⟩,
 f14 := ⟨Tryd.f124.name, by decide, Tryd.func124.trans (congrArg some (by kernel_rfl))⟩,
 f15 := Tryd.func80.trans (congrArg some (by kernel_rfl)),
 f20 := ⟨Tryd.f130.name, by decide, Tryd.func130.trans (congrArg some (by kernel_rfl))⟩,
 f21 := ⟨Tryd.f131.name, by decide, Tryd.func131.trans (congrArg some (by kernel_rfl))⟩,
 f22 := ⟨Tryd.f132.name, by decide, Tryd.func132.trans (congrArg some (by kernel_rfl))⟩,
 f23 := ⟨Tryd.f133.name, by decide, Tryd.func133.trans (congrArg some (by kernel_rfl))⟩,
 f24 := ⟨Tryd.f134.name, by decide, Tryd.func134.trans (congrArg some (by kernel_rfl))⟩,
 f25 := ⟨Tryd.f135.name, by decide, Tryd.func135.trans (congrArg some (by kernel_rfl))⟩,
 f26 := ⟨Tryd.f136.name, by decide, Tryd.func136.trans (congrArg some (by kernel_rfl))⟩,
 f27 := ⟨Tryd.f137.name, by decide, Tryd.func137.trans (congrArg some (by kernel_rfl))⟩,
 f28 := Tryd.func102.trans (congrArg some (by kernel_rfl)),
 f29 := Tryd.func103.trans (congrArg some (by kernel_rfl)),
 f46 := ⟨Tryd.f142.name, by decide, Tryd.func142.trans (congrArg some (by kernel_rfl))⟩,
 f47 := Tryd.func118.trans (congrArg some (by kernel_rfl)),
 f48 := Tryd.func119.trans (congrArg some (by kernel_rfl)),
 f49 := ⟨Tryd.f143.name, by decide, Tryd.func143.trans (congrArg some (by kernel_rfl))⟩,
 f50 := ⟨Tryd.f144.name, by decide, Tryd.func144.trans (congrArg some (by kernel_rfl))⟩,
 f57 := ⟨Tryd.f153.name, by decide, Tryd.func153.trans (congrArg some (by kernel_rfl))⟩,
 t0 := Tryd.underlying0,
 a0 := Tryd.isAgg0,
 z0 := Tryd.sizeOf0,
 v0 := Tryd.zeroValue0,
 t3 := Tryd.underlying3,
 a3 := Tryd.isAgg3,
 z3 := Tryd.sizeOf3,
 v3 := Tryd.zeroValue3,
 t4 := Tryd.underlying4,
 a4 := Tryd.isAgg4,
 z4 := Tryd.sizeOf4,
 v4 := Tryd.zeroValue4,
 t5 := Tryd.underlying5,
 a5 := Tryd.isAgg5,
 z5 := Tryd.sizeOf5,
 v5 := Tryd.zeroValue5,
 t9 := Tryd.underlying9,
 a9 := Tryd.isAgg9,
 z9 := Tryd.sizeOf9,
 v9 := Tryd.zeroValue9,
 t22 := Tryd.underlying40,
 a22 := Tryd.isAgg40,
 z22 := Tryd.sizeOf40,
 v22 := Tryd.zeroValue40,
 t25 := Tryd.underlying223,
 a25 := Tryd.isAgg223,
 z25 := Tryd.sizeOf223,
 v25 := Tryd.zeroValue223,
 t39 := Tryd.underlying169,
 a39 := Tryd.isAgg169,
 z39 := Tryd.sizeOf169,
 v39 := Tryd.zeroValue169,
 t45 := Tryd.underlying202,
 a45 := Tryd.isAgg202,
 z45 := Tryd.sizeOf202,
 v45 := Tryd.zeroValue202,
 t46 := Tryd.underlying203,
 a46 := Tryd.isAgg203,
 z46 := Tryd.sizeOf203,
 v46 := Tryd.zeroValue203,
 t50 := Tryd.underlying207,
 a50 := Tryd.isAgg207,
 z50 := Tryd.sizeOf207,
 v50 := Tryd.zeroValue207,
 t53 := Tryd.underlying32,
 a53 := Tryd.isAgg32,
 z53 := Tryd.sizeOf32,
 v53 := Tryd.zeroValue32,
 t55 := Tryd.underlying22,
 a55 := Tryd.isAgg22,
 z55 := Tryd.sizeOf22,
 v55 := Tryd.zeroValue22,
 t66 := Tryd.underlying226,
 a66 := Tryd.isAgg226,
 z66 := Tryd.sizeOf226,
 v66 := Tryd.zeroValue226,
 t70 := Tryd.underlying230,
 a70 := Tryd.isAgg230,
 z70 := Tryd.sizeOf230,
 v70 := Tryd.zeroValue230,
 t76 := Tryd.underlying239,
 a76 := Tryd.isAgg239,
 z76 := Tryd.sizeOf239,
 v76 := Tryd.zeroValue239,
 t77 := Tryd.underlying240,
 a77 := Tryd.isAgg240,
 z77 := Tryd.sizeOf240,
 v77 := Tryd.zeroValue240 }

end Go.Proofs.YtniakgoefkbkhaaDoor

/- The keys of a tree: the element, its order, the library's sort at a row of them. -/
namespace Go.Proofs.YtniakgoefkbkhaaDoor
set_option linter.unusedVariables false
set_option linter.unusedSimpArgs false
open Go.ChangeShapes Go.WideShapes Go.ChangeAt Go.RowKit Go.Maps

structure HK where
 k : List Nat
 h : IsHash k
instance : Inhabited HK := ⟨⟨List.replicate 32 0, List.length_replicate, fun k hk => by rw [List.eq_of_mem_replicate hk]; decide⟩⟩
def HK.enc (x : HK) : List Value := bcells x.k
theorem HK.len (x : HK) : x.enc.length = 32 := by simp [HK.enc, bcells_length, x.h.1]
theorem HK.one (x : HK) : ∀ v ∈ x.enc, v.oneCell' = true := by
 exact bcells_oneC x.k
def HK.cmp (x y : HK) : Int := lexC x.k y.k
theorem HK.swo : Sort.SWO (ltOf HK.cmp) where
 irrefl x := by unfold ltOf HK.cmp; rw [lexC_refl]; rfl
 trans x y z h1 h2 := by
  unfold ltOf HK.cmp at *
  simp only [decide_eq_true_eq] at *
  exact lexC_trans _ _ _ h1 h2
 ntrans x y z h1 h2 := by
  unfold ltOf HK.cmp at *
  simp only [decide_eq_false_iff_not] at *
  intro h3
  have s1 := lexC_swap x.k y.k
  have s2 := lexC_swap y.k z.k
  have s3 := lexC_swap x.k z.k
  by_cases e1 : lexC x.k y.k = 0
  · rw [lexC_zero _ _ e1] at h3; exact h2 h3
  · have p1 : lexC y.k x.k < 0 := by omega
    exact h2 (lexC_trans _ _ _ p1 h3)

set_option maxHeartbeats 1000000 in
/-- cmp, in whatever world: two blocks are laid. -/
theorem cmpK_is (x y : HK) (W : World) : Calls Tryd.prog 113 #[.agg x.enc.toArray, .agg y.enc.toArray] W fun e w' => e = .returned (.int .i64 (HK.cmp x y)) ∧ ∃ q os', w' = Sort.grow (W.drewN q) os' := by
 have hb1 := Has.new W 39 x.enc.toArray
 have hb2 := Has.new (W.alloc (.cells x.enc.toArray 39)) 39 y.enc.toArray
 have hsz : (W.alloc (.cells x.enc.toArray 39)).heap.size = W.heap.size + 1 := by simp
 rw [hsz] at hb2
 have hb1' := hb1.alloc (.cells y.enc.toArray 39)
 have cx : ∀ z : HK, ∀ i, i < 32 → z.enc.toArray[i]? = some (.int .u8 ((z.k.getD i 0 : Nat) : Int)) := fun z i hi => by
  rw [List.getElem?_toArray, HK.enc]
  exact bcells_get _ _ (by rw [z.h.1]; exact hi)
 have hgrow : ∀ n, ∃ q os', ((W.alloc (.cells x.enc.toArray 39)).alloc (.cells y.enc.toArray 39)).drewN n = Sort.grow (W.drewN q) os' := fun n => ⟨n, #[.cells x.enc.toArray 39] ++ #[.cells y.enc.toArray 39], by
  rw [Sort.alloc_eq_grow, Sort.alloc_eq_grow, Sort.grow_grow]; rfl⟩
 have hcmp : ∀ W', (∀ i, i < 32 → W'.cell? ⟨W.heap.size, 0 + i, none⟩ = some (.int .u8 ((x.k.getD i 0 : Nat) : Int))) → (∀ i, i < 32 → W'.cell? ⟨W.heap.size + 1, 0 + i, none⟩ = some (.int .u8 ((y.k.getD i 0 : Nat) : Int))) →
   Calls Tryd.prog 49 #[.slice (some ⟨W.heap.size, 0, none⟩) 32 32, .slice (some ⟨W.heap.size + 1, 0, none⟩) 32 32] W' fun e w' => e = .returned (.int .i64 (HK.cmp x y)) ∧ w' = W' := fun W' h1 h2 =>
  (bytesCompare_is W' W.heap.size 0 32 (W.heap.size + 1) 0 32 32 32 x.k y.k x.h.1 y.h.1 h1 h2 x.h.2 y.h.2).mono fun e w' he => ⟨he.1, he.2.symm⟩
 have hc1 : ∀ n, ∀ i, i < 32 → (((W.alloc (.cells x.enc.toArray 39)).alloc (.cells y.enc.toArray 39)).drewN n).cell? ⟨W.heap.size, 0 + i, none⟩ = some (.int .u8 ((x.k.getD i 0 : Nat) : Int)) := fun n i hi => by rw [Nat.zero_add]; exact (hb1'.drewN n).cell_is (cx x i hi)
 have hc2 : ∀ n, ∀ i, i < 32 → (((W.alloc (.cells x.enc.toArray 39)).alloc (.cells y.enc.toArray 39)).drewN n).cell? ⟨W.heap.size + 1, 0 + i, none⟩ = some (.int .u8 ((y.k.getD i 0 : Nat) : Int)) := fun n i hi => by rw [Nat.zero_add]; exact (hb2.drewN n).cell_is (cx y i hi)
 have HCMP := Lib.hid (fun n => hcmp _ (hc1 n) (hc2 n))
 have HGROW := Lib.hid hgrow
 obtain ⟨A, hA⟩ : ∃ A, A = x.enc.toArray := ⟨_, rfl⟩
 obtain ⟨B, hB⟩ : ∃ B, B = y.enc.toArray := ⟨_, rfl⟩
 rw [← hA, ← hB] at HCMP HGROW ⊢
 obtain ⟨r, hr⟩ : ∃ r, r = HK.cmp x y := ⟨_, rfl⟩
 rw [← hr] at HCMP ⊢
 clear hb1 hb2 hsz hb1' cx hgrow hcmp hc1 hc2 hA hB hr
 go_enter Tryd.func113, Tryd.ntmps113
 go_upto_region 1 with (fail)
 go_quiet ((go_at_call 49; exact Calls.quiet_of_same (HCMP.out _)))
 go_wp2
 go_ret
 exact ⟨rfl, HGROW.out _⟩
def RisingK (ys : List HK) : Prop := ys.Pairwise fun a b => lexC a.k b.k < 0
theorem enters_cmpK : ∀ args w, (callFunc 113 args).run Tryd.prog w = .ok (.enter 113 args) w := enters_of Tryd.func113 (by kernel_rfl) rfl
theorem sort_keys (w : World) (base g n cap : Nat) (cur : Array Value) (xs : List HK) (hn : xs.length = n) (hbase : base ≤ g) (hb : Has w g 39 cur) (h1 : n ≤ cap) (h2 : cap ≤ maxLen) (h3 : cur.size = cap * 32)
   (ht : cur.toList.take (n * 32) = xs.flatMap HK.enc) (hd : (xs.map (·.k)).Nodup) (hs : n ≤ 1000000) :
   Calls Tryd.prog 112 #[.slice (some ⟨g, 0, none⟩) n cap, .func (.func 113) #[] #[]] w fun e w' =>
    e = .returned (.tuple #[]) ∧ ∃ ys : List HK, ys.Perm xs ∧ RisingK ys ∧ w'.ownsRow base 39 32 (.slice (some ⟨g, 0, none⟩) n cap) n (ys.flatMap HK.enc) ∧ Kept (· = g) w w' := by
 have hH := holdsK_of HK.enc 32 HK.len (by decide) (xs := xs) hb (by rw [hn]; exact ht)
 have hcon := AnyQ.slices_SortFunc (P := Tryd.prog) sortHash 32 Tryd.isAgg39 Tryd.sizeOf39 HK.enc HK.len HK.one HK.cmp HK.swo 113 #[] g 0 cap xs.toArray w enters_cmpK (fun m os dk _ x y => cmpK_is x y _) hH hb.lt (by simp; omega)
 change Calls Tryd.prog 112 _ _ _ at hcon
 have hsz : xs.toArray.size = n := by simp [hn]
 rw [hsz] at hcon
 refine hcon.mono fun e w' ⟨he, d', m, os, hp, hsd, hw⟩ => ?_
 have e1 : d'.size = n := hp.1.trans hsz
 have hperm : d'.toList.Perm xs := by
   have h := hp.2.2
   have a1 : d'.extract 0 n = d' := Array.extract_eq_self_of_le (by omega)
   have a2 : xs.toArray.extract 0 n = xs.toArray := Array.extract_eq_self_of_le (by omega)
   rw [a1, a2] at h
   simpa using h
 refine ⟨he, d'.toList, hperm, ?_, ?_, ?_⟩
 · have hd' : (d'.toList.map (·.k)).Nodup := ((hperm.map (·.k)).nodup_iff).2 hd
   unfold RisingK
   rw [List.pairwise_iff_getElem]
   intro i j hi hj hij
   have hi' : i < d'.size := by simpa using hi
   have hj' : j < d'.size := by simpa using hj
   have h := hsd i j (Nat.zero_le _) hij (by omega)
   rw [getElem!_pos d' j hj', getElem!_pos d' i hi'] at h
   unfold ltOf HK.cmp at h
   simp only [decide_eq_false_iff_not] at h
   have hne : (d'.toList[i]).k ≠ (d'.toList[j]).k := fun e => by
    have hp2 : d'.toList.Pairwise (fun a b => a.k ≠ b.k) := by
     have := hd'
     unfold List.Nodup at this
     rw [List.pairwise_map] at this
     exact this
    exact (List.pairwise_iff_getElem.1 hp2) i j hi hj hij e
   have hz : lexC (d'.toList[i]).k (d'.toList[j]).k ≠ 0 := fun e => hne (lexC_zero _ _ e)
   have hsw := lexC_swap (d'.toList[i]).k (d'.toList[j]).k
   have h' : ¬ lexC (d'.toList[j]).k (d'.toList[i]).k < 0 := by simpa using h
   omega
 · rw [hw]
   have := own_sortK HK.enc 32 HK.len (by decide) (m := m) (os := os) (ys := d'.toList) base hbase hb h1 h2 h3 (by simpa using hp.1.trans hsz)
   simpa using this
 · rw [hw]
   exact kept_sortK HK.enc 32 d'
end Go.Proofs.YtniakgoefkbkhaaDoor

