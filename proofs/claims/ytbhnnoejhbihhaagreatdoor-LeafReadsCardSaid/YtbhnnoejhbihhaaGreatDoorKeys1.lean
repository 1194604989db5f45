/- slices.SortFunc at digests: its bodies are the library's (the plain text that the kit's laying makes). -/
import Derived.Test.YtbhnnoejhbihhaaGreatDoorSortK
import Derived.Shelf.SlSortCmp.WholeK
import Derived.Test.YtbhnnoejhbihhaaGreatDoorTree1
import Derived.Test.YtbhnnoejhbihhaaGreatDoorMem
namespace Go.Proofs.YtbhnnoejhbihhaaGreatDoor
set_option linter.unusedVariables false
set_option linter.unusedSimpArgs false
open Go.Shelf

def sortHash_ren : Go.Shelf.Ren := ⟨fun | 6 => 91 | 15 => 121 | 14 => 120 | 28 => 143 | 29 => 144 | 20 => 135 | 21 => 136 | 22 => 137 | 23 => 138 | 24 => 139 | 25 => 140 | 26 => 141 | 27 => 142 | 46 => 152 | 47 => 153 | 48 => 154 | 49 => 155 | 50 => 156 | 57 => 161 | n => n, fun | 22 => 177 | 24 => 26 | 25 => 179 | 3 => 3 | 39 => 189 | 0 => 0 | 53 => 51 | 55 => 27 | 4 => 4 | 46 => 248 | 45 => 247 | 50 => 242 | 5 => 5 | 9 => 9 | 66 => 260 | 70 => 264 | 76 => 269 | 77 => 270 | n => n, fun | n => n⟩
set_option maxRecDepth 100000 in
theorem sortHash : Go.Proofs.SlLaysF0.n6 Tryz.prog sortHash_ren := {
  mixed := by kernel_rfl,
  f6 := ⟨Tryz.f91.name, by decide, Tryz.func91.trans (congrArg some (by kernel_rfl))⟩,
  f14 := ⟨Tryz.f120.name, by decide, Tryz.func120.trans (congrArg some (by kernel_rfl))⟩,
  f15 := Tryz.func121.trans (congrArg some (by kernel_rfl)),
  f20 := ⟨Tryz.f135.name, by decide, Tryz.func135.trans (congrArg some (by kernel_rfl))⟩,
  f21 := ⟨Tryz.f136.name, by decide, Tryz.func136.trans (congrArg some (by kernel_rfl))⟩,
  f22 := ⟨Tryz.f137.name, by decide, Tryz.func137.trans (congrArg some (by kernel_rfl))⟩,
  f23 := ⟨Tryz.f138.name, by decide, Tryz.func138.trans (congrArg some (by kernel_rfl))⟩,
  f24 := ⟨Tryz.f139.name, by decide, Tryz.func139.trans (congrArg some (by kernel_rfl))⟩,
  f25 := ⟨Tryz.f140.name, by decide, Tryz.func140.trans (congrArg some (by kernel_rfl))⟩,
  f26 := ⟨Tryz.f141.name, by decide, Tryz.func141.trans (congrArg some (by kernel_rfl))⟩,
  f27 := ⟨Tryz.f142.name, by decide, Tryz.func142.trans (congrArg some (by kernel_rfl))⟩,
  f28 := Tryz.func143.trans (congrArg some (by kernel_rfl)),
  f29 := Tryz.func144.trans (congrArg some (by kernel_rfl)),
  f46 := ⟨Tryz.f152.name, by decide, Tryz.func152.trans (congrArg some (by kernel_rfl))⟩,
  f47 := Tryz.func153.trans (congrArg some (by kernel_rfl)),
  f48 := Tryz.func154.trans (congrArg some (by kernel_rfl)),
  f49 := ⟨Tryz.f155.name, by decide, Tryz.func155.trans (congrArg some (by kernel_rfl))⟩,
  f50 := ⟨Tryz.f156.name, by decide, Tryz.func156.trans (congrArg some (by kernel_rfl))⟩,
  f57 := ⟨Tryz.f161.name, by decide, Tryz.func161.trans (congrArg some (by kernel_rfl))⟩,
  t0 := Tryz.underlying0,
  a0 := Tryz.isAgg0,
  z0 := Tryz.sizeOf0,
  v0 := Tryz.zeroValue0,
  t3 := Tryz.underlying3,
  a3 := Tryz.isAgg3,
  z3 := Tryz.sizeOf3,
  v3 := Tryz.zeroValue3,
  t4 := Tryz.underlying4,
  a4 := Tryz.isAgg4,
  z4 := Tryz.sizeOf4,
  v4 := Tryz.zeroValue4,
  t5 := Tryz.underlying5,
  a5 := Tryz.isAgg5,
  z5 := Tryz.sizeOf5,
  v5 := Tryz.zeroValue5,
  t9 := Tryz.underlying9,
  a9 := Tryz.isAgg9,
  z9 := Tryz.sizeOf9,
  v9 := Tryz.zeroValue9,
  t22 := Tryz.underlying177,
  a22 := Tryz.isAgg177,
  z22 := Tryz.sizeOf177,
  v22 := Tryz.zeroValue177,
  t25 := Tryz.underlying179,
  a25 := Tryz.isAgg179,
  z25 := Tryz.sizeOf179,
  v25 := Tryz.zeroValue179,
  t39 := Tryz.underlying189,
  a39 := Tryz.isAgg189,
  z39 := Tryz.sizeOf189,
  v39 := Tryz.zeroValue189,
  t45 := Tryz.underlying247,
  a45 := Tryz.isAgg247,
  z45 := Tryz.sizeOf247,
  v45 := Tryz.zeroValue247,
  t46 := Tryz.underlying248,
  a46 := Tryz.isAgg248,
  z46 := Tryz.sizeOf248,
  v46 := Tryz.zeroValue248,
  t50 := Tryz.underlying242,
  a50 := Tryz.isAgg242,
  z50 := Tryz.sizeOf242,
  v50 := Tryz.zeroValue242,
  t53 := Tryz.underlying51,
  a53 := Tryz.isAgg51,
  z53 := Tryz.sizeOf51,
  v53 := Tryz.zeroValue51,
  t55 := Tryz.underlying27,
  a55 := Tryz.isAgg27,
  z55 := Tryz.sizeOf27,
  v55 := Tryz.zeroValue27,
  t66 := Tryz.underlying260,
  a66 := Tryz.isAgg260,
  z66 := Tryz.sizeOf260,
  v66 := Tryz.zeroValue260,
  t70 := Tryz.underlying264,
  a70 := Tryz.isAgg264,
  z70 := Tryz.sizeOf264,
  v70 := Tryz.zeroValue264,
  t76 := Tryz.underlying269,
  a76 := Tryz.isAgg269,
  z76 := Tryz.sizeOf269,
  v76 := Tryz.zeroValue269,
  t77 := Tryz.underlying270,
  a77 := Tryz.isAgg270,
  z77 := Tryz.sizeOf270,
  v77 := Tryz.zeroValue270 }

end Go.Proofs.YtbhnnoejhbihhaaGreatDoor

/- The keys of a tree: the element, its order, the library's sort at a row of them. -/
namespace Go.Proofs.YtbhnnoejhbihhaaGreatDoor
set_option linter.unusedVariables false
set_option linter.unusedSimpArgs false
open Go.ChangeShapes Go.WideShapes Go.ChangeAt Go.RowKit Go.Maps

/-- a key. -/
structure HK where
  k : List Nat
  h : IsHash k
instance : Inhabited HK := ⟨⟨List.replicate 32 0, List.length_replicate, fun k hk => by rw [List.eq_of_mem_replicate hk]; decide⟩⟩
def HK.enc (x : HK) : List Value := bcells x.k
theorem HK.len (x : HK) : x.enc.length = 32 := by simp [HK.enc, bcells_length, x.h.1]
theorem HK.one (x : HK) : ∀ v ∈ x.enc, v.oneCell' = true := by
  exact bcells_oneC x.k
def HK.cmp (x y : HK) : Int := lexC x.k y.k
theorem HK.swo : Sort.SWO (ltOf HK.cmp) where
  irrefl x := by unfold ltOf HK.cmp; rw [lexC_refl]; rfl
  trans x y z h1 h2 := by
    unfold ltOf HK.cmp at *
    simp only [decide_eq_true_eq] at *
    exact lexC_trans _ _ _ h1 h2
  ntrans x y z h1 h2 := by
    unfold ltOf HK.cmp at *
    simp only [decide_eq_false_iff_not] at *
    intro h3
    have s1 := lexC_swap x.k y.k
    have s2 := lexC_swap y.k z.k
    have s3 := lexC_swap x.k z.k
    by_cases e1 : lexC x.k y.k = 0
    · rw [lexC_zero _ _ e1] at h3; exact h2 h3
    · have p1 : lexC y.k x.k < 0 := by omega
      exact h2 (lexC_trans _ _ _ p1 h3)

set_option maxHeartbeats 1000000 in
/-- cmp, in whatever world: two blocks are laid. -/
theorem cmpK_is (x y : HK) (W : World) : Calls Tryz.prog 133 #[.agg x.enc.toArray, .agg y.enc.toArray] W fun e w' => e = .returned (.int .i64 (HK.cmp x y)) ∧ ∃ q os', w' = Sort.grow (W.drewN q) os' := by
  have hb1 := Has.new W 26 x.enc.toArray
  have hb2 := Has.new (W.alloc (.cells x.enc.toArray 26)) 26 y.enc.toArray
  have hsz : (W.alloc (.cells x.enc.toArray 26)).heap.size = W.heap.size + 1 := by simp
  rw [hsz] at hb2
  have hb1' := hb1.alloc (.cells y.enc.toArray 26)
  have cx : ∀ z : HK, ∀ i, i < 32 → z.enc.toArray[i]? = some (.int .u8 ((z.k.getD i 0 : Nat) : Int)) := fun z i hi => by
    rw [List.getElem?_toArray, HK.enc]
    exact bcells_get _ _ (by rw [z.h.1]; exact hi)
  have hgrow : ∀ n, ∃ q os', ((W.alloc (.cells x.enc.toArray 26)).alloc (.cells y.enc.toArray 26)).drewN n = Sort.grow (W.drewN q) os' := fun n => ⟨n, #[.cells x.enc.toArray 26] ++ #[.cells y.enc.toArray 26], by
    rw [Sort.alloc_eq_grow, Sort.alloc_eq_grow, Sort.grow_grow]; rfl⟩
  have hcmp : ∀ W', (∀ i, i < 32 → W'.cell? ⟨W.heap.size, 0 + i, none⟩ = some (.int .u8 ((x.k.getD i 0 : Nat) : Int))) → (∀ i, i < 32 → W'.cell? ⟨W.heap.size + 1, 0 + i, none⟩ = some (.int .u8 ((y.k.getD i 0 : Nat) : Int))) →
      Calls Tryz.prog 51 #[.slice (some ⟨W.heap.size, 0, none⟩) 32 32, .slice (some ⟨W.heap.size + 1, 0, none⟩) 32 32] W' fun e w' => e = .returned (.int .i64 (HK.cmp x y)) ∧ w' = W' := fun W' h1 h2 =>
    (bytesCompare_is W' W.heap.size 0 32 (W.heap.size + 1) 0 32 32 32 x.k y.k x.h.1 y.h.1 h1 h2 x.h.2 y.h.2).mono fun e w' he => ⟨he.1, he.2.symm⟩
  have hc1 : ∀ n, ∀ i, i < 32 → (((W.alloc (.cells x.enc.toArray 26)).alloc (.cells y.enc.toArray 26)).drewN n).cell? ⟨W.heap.size, 0 + i, none⟩ = some (.int .u8 ((x.k.getD i 0 : Nat) : Int)) := fun n i hi => by rw [Nat.zero_add]; exact (hb1'.drewN n).cell_is (cx x i hi)
  have hc2 : ∀ n, ∀ i, i < 32 → (((W.alloc (.cells x.enc.toArray 26)).alloc (.cells y.enc.toArray 26)).drewN n).cell? ⟨W.heap.size + 1, 0 + i, none⟩ = some (.int .u8 ((y.k.getD i 0 : Nat) : Int)) := fun n i hi => by rw [Nat.zero_add]; exact (hb2.drewN n).cell_is (cx y i hi)
  have HCMP := Lib.hid (fun n => hcmp _ (hc1 n) (hc2 n))
  have HGROW := Lib.hid hgrow
  obtain ⟨A, hA⟩ : ∃ A, A = x.enc.toArray := ⟨_, rfl⟩
  obtain ⟨B, hB⟩ : ∃ B, B = y.enc.toArray := ⟨_, rfl⟩
  rw [← hA, ← hB] at HCMP HGROW ⊢
  obtain ⟨r, hr⟩ : ∃ r, r = HK.cmp x y := ⟨_, rfl⟩
  rw [← hr] at HCMP ⊢
  clear hb1 hb2 hsz hb1' cx hgrow hcmp hc1 hc2 hA hB hr
  go_enter Tryz.func133, Tryz.ntmps133
  go_upto_region 1 with (fail)
  go_quiet ((go_at_call 51; exact Calls.quiet_of_same (HCMP.out _)))
  go_wp2
  go_ret
  exact ⟨rfl, HGROW.out _⟩
/-- rising, no key twice. -/
def RisingK (ys : List HK) : Prop := ys.Pairwise fun a b => lexC a.k b.k < 0
theorem enters_cmpK : ∀ args w, (callFunc 133 args).run Tryz.prog w = .ok (.enter 133 args) w := enters_of Tryz.func133 (by kernel_rfl) rfl
/-- the library's sort at a row of keys whose keys are all different. -/
theorem sort_keys (w : World) (base g n cap : Nat) (cur : Array Value) (xs : List HK) (hn : xs.length = n) (hbase : base ≤ g) (hb : Has w g 26 cur) (h1 : n ≤ cap) (h2 : cap ≤ maxLen) (h3 : cur.size = cap * 32)
    (ht : cur.toList.take (n * 32) = xs.flatMap HK.enc) (hd : (xs.map (·.k)).Nodup) (hs : n ≤ 1000000) :
    Calls Tryz.prog 91 #[.slice (some ⟨g, 0, none⟩) n cap, .func (.func 133) #[] #[]] w fun e w' =>
      e = .returned (.tuple #[]) ∧ ∃ ys : List HK, ys.Perm xs ∧ RisingK ys ∧ w'.ownsRow base 26 32 (.slice (some ⟨g, 0, none⟩) n cap) n (ys.flatMap HK.enc) ∧ Kept (· = g) w w' := by
  have hH := holdsK_of HK.enc 32 HK.len (by decide) (xs := xs) hb (by rw [hn]; exact ht)
  have hcon := AnyQ.slices_SortFunc (P := Tryz.prog) sortHash 32 Tryz.isAgg26 Tryz.sizeOf26 HK.enc HK.len HK.one HK.cmp HK.swo 133 #[] g 0 cap xs.toArray w enters_cmpK (fun m os dk _ x y => cmpK_is x y _) hH hb.lt (by simp; omega)
  change Calls Tryz.prog 91 _ _ _ at hcon
  have hsz : xs.toArray.size = n := by simp [hn]
  rw [hsz] at hcon
  refine hcon.mono fun e w' ⟨he, d', m, os, hp, hsd, hw⟩ => ?_
  have e1 : d'.size = n := hp.1.trans hsz
  have hperm : d'.toList.Perm xs := by
    have h := hp.2.2
    have a1 : d'.extract 0 n = d' := Array.extract_eq_self_of_le (by omega)
    have a2 : xs.toArray.extract 0 n = xs.toArray := Array.extract_eq_self_of_le (by omega)
    rw [a1, a2] at h
    simpa using h
  refine ⟨he, d'.toList, hperm, ?_, ?_, ?_⟩
  · have hd' : (d'.toList.map (·.k)).Nodup := ((hperm.map (·.k)).nodup_iff).2 hd
    unfold RisingK
    rw [List.pairwise_iff_getElem]
    intro i j hi hj hij
    have hi' : i < d'.size := by simpa using hi
    have hj' : j < d'.size := by simpa using hj
    have h := hsd i j (Nat.zero_le _) hij (by omega)
    rw [getElem!_pos d' j hj', getElem!_pos d' i hi'] at h
    unfold ltOf HK.cmp at h
    simp only [decide_eq_false_iff_not] at h
    have hne : (d'.toList[i]).k ≠ (d'.toList[j]).k := fun e => by
      have hp2 : d'.toList.Pairwise (fun a b => a.k ≠ b.k) := by
        have := hd'
        unfold List.Nodup at this
        rw [List.pairwise_map] at this
        exact this
      exact (List.pairwise_iff_getElem.1 hp2) i j hi hj hij e
    have hz : lexC (d'.toList[i]).k (d'.toList[j]).k ≠ 0 := fun e => hne (lexC_zero _ _ e)
    have hsw := lexC_swap (d'.toList[i]).k (d'.toList[j]).k
    have h' : ¬ lexC (d'.toList[j]).k (d'.toList[i]).k < 0 := by simpa using h
    omega
  · rw [hw]
    have := own_sortK HK.enc 32 HK.len (by decide) (m := m) (os := os) (ys := d'.toList) base hbase hb h1 h2 h3 (by simpa using hp.1.trans hsz)
    simpa using this
  · rw [hw]
    exact kept_sortK HK.enc 32 d'
end Go.Proofs.YtbhnnoejhbihhaaGreatDoor
