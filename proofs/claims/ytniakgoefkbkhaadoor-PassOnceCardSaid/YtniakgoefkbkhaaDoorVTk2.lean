/- The walks of token's Allow and Allowed. -/
import Derived.Test.YtniakgoefkbkhaaDoorWs
import Derived.Test.YtniakgoefkbkhaaDoorVFr0
namespace Go.Proofs.YtniakgoefkbkhaaDoor
set_option linter.unusedVariables false
set_option linter.unusedSimpArgs false
open Go.ChangeShapes Go.WideShapes Go.ChangeAt Go.RowKit Go.Maps

def entC (ow wh : List Nat) : List Value := bcells ow ++ bcells wh
def entV (ow wh : List Nat) : Value := .agg (entC ow wh).toArray
def entL (gs : List Gave) : List Ent := gs.map fun x => (x.1, entV x.2.1 x.2.2)
theorem look_entL (gs : List Gave) (t : List Nat) : look (entL gs) t = (findG gs t).map fun p => entV p.1 p.2 := by
 induction gs with
 | nil => rfl
 | cons g gs ih =>
  show (if g.1 = t then some (entV g.2.1 g.2.2) else look (entL gs) t) = _
  rw [ih]
  show _ = Option.map _ (if g.1 = t then some g.2 else findG gs t)
  split <;> rfl
theorem findG_none {gs : List Gave} {t : List Nat} (h : findG gs t = none) : ∀ p ∈ entL gs, p.1 ≠ t := by
 induction gs with
 | nil => intro p hp; cases hp
 | cons g gs ih =>
  unfold findG at h
  split at h
  · cases h
  · rename_i hg
    intro p hp
    rcases List.mem_cons.1 hp with rfl | hp
    · exact hg
    · exact ih h p hp
theorem findG_mem {gs : List Gave} {t : List Nat} {p : List Nat × List Nat} (h : findG gs t = some p) : ∃ x ∈ gs, x.2 = p := by
 induction gs with
 | nil => cases h
 | cons g gs ih =>
  unfold findG at h
  split at h
  · injection h with h
    exact ⟨g, List.mem_cons_self, h⟩
  · obtain ⟨x, hx, e⟩ := ih h
    exact ⟨x, List.mem_cons_of_mem _ hx, e⟩
theorem entC_len {a b : List Nat} (ha : IsHash a) (hb : IsHash b) : (entC a b).length = 64 := by rw [entC, List.length_append, bcells_length, bcells_length, ha.1, hb.1]
theorem entC_one (a b : List Nat) : (entC a b).toArray.all (·.oneCell') = true := by
 have h1 := all_oneCell_toArray (bcells_one a)
 have h2 := all_oneCell_toArray (bcells_one b)
 rw [Array.all_eq_true'] at *
 intro x hx
 simp only [entC, List.mem_toArray, List.mem_append] at hx
 rcases hx with hx | hx
 · exact h1 x (by simpa using hx)
 · exact h2 x (by simpa using hx)
theorem ent_fst {a b : List Nat} (ha : IsHash a) : ((entC a b).drop 0).take 32 = bcells a := by
 rw [List.drop_zero, entC, List.take_append_of_le_length (by rw [bcells_length, ha.1]; exact Nat.le_refl _)]
 exact List.take_of_length_le (by rw [bcells_length, ha.1]; exact Nat.le_refl _)
theorem ent_snd {a b : List Nat} (ha : IsHash a) (hb : IsHash b) : ((entC a b).drop 32).take 32 = bcells b := by
 rw [entC, List.drop_append_of_le_length (by rw [bcells_length, ha.1]; exact Nat.le_refl _), List.drop_of_length_le (by rw [bcells_length, ha.1]; exact Nat.le_refl _), List.nil_append]
 exact List.take_of_length_le (by rw [bcells_length, hb.1]; exact Nat.le_refl _)
theorem ent_fields : ∃ f0 f1, (Tryd.prog.fieldsOf 143).toList = [f0, f1] ∧ (f0.name ≠ "_" ∧ f0.type = 39 ∧ f0.offset = 0) ∧ (f1.name ≠ "_" ∧ f1.type = 39 ∧ f1.offset = 32) := by
 unfold Program.fieldsOf
 rw [Tryd.underlying143]
 exact ⟨_, _, rfl, ⟨by decide, rfl, rfl⟩, ⟨by decide, rfl, rfl⟩⟩
theorem ent_struct : Tryd.prog.underlying 143 = some (.struct (Tryd.prog.fieldsOf 143)) := by
 unfold Program.fieldsOf
 rw [Tryd.underlying143]
theorem ent_eq {a b c d : List Nat} (ha : IsHash a) (hb : IsHash b) (hc : IsHash c) (hd : IsHash d) (w : World) : (Op.equalIn 10000 143 (.agg (entC a b).toArray) (.agg (entC c d).toArray)).run Tryd.prog w = .ok (decide (a = c ∧ b = d)) w := by
 obtain ⟨f0, f1, hf, ⟨n0, t0, o0⟩, ⟨n1, t1, o1⟩⟩ := ent_fields
 rw [run_equalIn_struct w 9999 143 _ _ ent_struct (by kernel_rfl), hf,
   eqF_any n0 (le_hash t0 (off := f0.offset) (by rw [o0]; exact ent_fst ha) w) (le_hash t0 (off := f0.offset) (by rw [o0]; exact ent_fst hc) w) (le_heq t0 9997 ha hc w),
   eqF_any n1 (le_hash t1 (off := f1.offset) (by rw [o1]; exact ent_snd ha hb) w) (le_hash t1 (off := f1.offset) (by rw [o1]; exact ent_snd hc hd) w) (le_heq t1 9997 hb hd w), eqF_nil]
 by_cases h1 : a = c
 · by_cases h2 : b = d
   · simp [h1, h2]
   · simp [h1, h2]
 · simp [h1]
theorem build_ent (a b : List Nat) (ha : a.length = 32) (hb : b.length = 32) (w : World) : (Instr.build 143 #[(0, .agg (bcells a).toArray), (1, .agg (bcells b).toArray)]).run Tryd.prog w = .ok (.agg (entC a b).toArray) w := by
 obtain ⟨d0, d1, d2, d3, d4, d5, d6, d7, d8, d9, d10, d11, d12, d13, d14, d15, d16, d17, d18, d19, d20, d21, d22, d23, d24, d25, d26, d27, d28, d29, d30, d31, rfl⟩ := thirty_two a ha
 obtain ⟨e0, e1, e2, e3, e4, e5, e6, e7, e8, e9, e10, e11, e12, e13, e14, e15, e16, e17, e18, e19, e20, e21, e22, e23, e24, e25, e26, e27, e28, e29, e30, e31, rfl⟩ := thirty_two b hb
 exact run_build w 143 _ _ (by kernel_rfl)
def Z32' : List Nat := List.replicate 32 0
theorem Z32_hash : IsHash Z32' := ⟨rfl, fun k hk => by rw [List.eq_of_mem_replicate hk]; decide⟩
theorem zero_ent : ∃ Z : Array Value, (∀ w, (zeroValue 143).run Tryd.prog w = .ok (.agg Z) w) ∧ Z = (entC Z32' Z32').toArray := ⟨(entC Z32' Z32').toArray, fun w => by kernel_rfl, rfl⟩
structure OfficeAt (w : World) (g mb : Nat) (gs : List Gave) (n : Int) : Prop where
 at_ : OffAt w g mb (entL gs) n
 ok : ∀ x ∈ gs, IsHash x.2.1 ∧ IsHash x.2.2
 low : 2 + 1 ≤ mb
theorem OfficeAt.below {w w' : World} {g mb : Nat} {gs : List Gave} {n : Int} (h : OfficeAt w g mb gs n) (hb : Below w.heap.size w w') : OfficeAt w' g mb gs n := ⟨h.at_.below hb, h.ok, h.low⟩
theorem OfficeAt.ne {w : World} {g mb : Nat} {gs : List Gave} {n : Int} (h : OfficeAt w g mb gs n) : g ≠ mb := by
 intro e
 subst e
 obtain ⟨es, clock, hb, _⟩ := h.at_.map
 have := h.at_.row
 unfold Has at this
 rw [hb] at this
 cases this
theorem has_ne_map {w : World} {b mb : Nat} {t : TypeId} {cs : Array Value} {l : List Ent} (h : Has w b t cs) (hm : MapIs w mb l) : b ≠ mb := by
 intro e
 subst e
 obtain ⟨es, clock, hb, _⟩ := hm
 unfold Has at h
 rw [hb] at h
 cases h
theorem MapIs.low {w : World} {mb : Nat} {l : List Ent} (h : MapIs w mb l) : mb < w.heap.size := h.lt
theorem hash_bytesW {w v : World} {B : Nat} {s : List Nat} (hs : IsHash s) (h : Has w B 39 (bcells s).toArray) (hv : Below w.heap.size w v) (g : Nat) (hg : w.heap.size ≤ g) : Bytes v g (.slice (some ⟨B, 0, none⟩) 32 32) s :=
 hash_bytes hs (h.below hv h.lt) g (by have := h.lt; omega)
theorem boxes_allow (w : World) (LS LW : List Value) (Z : Array Value) : ∃ W1, W1 = (((((w.alloc (.cells LS.toArray 39))).alloc (.cells LW.toArray 39))).alloc (.cells Z 39)) ∧
   Has W1 (w.heap.size) 39 LS.toArray ∧ Has W1 (w.heap.size + 1) 39 LW.toArray ∧ Has W1 (w.heap.size + 1 + 1) 39 Z ∧ Below w.heap.size w W1 := by
 refine ⟨_, rfl, ?_, ?_, ?_, ?_⟩
 · have := Has.new w 39 LS.toArray
   exact ((this).alloc _).alloc _
 · have := Has.new (w.alloc (.cells LS.toArray 39)) 39 LW.toArray
   exact ((by simpa using this : Has _ (w.heap.size + 1) _ _)).alloc _
 · have := Has.new (((w.alloc (.cells LS.toArray 39))).alloc (.cells LW.toArray 39)) 39 Z
   exact (by simpa using this : Has _ (w.heap.size + 1 + 1) _ _)
 · exact (((Below.refl _ _).alloc (Nat.le_refl _) _).alloc (by simp) _).alloc (by simp; omega) _

theorem boxes_allowed (w : World) (LS LW LT : List Value) : ∃ W1, W1 = (((((w.alloc (.cells LS.toArray 39))).alloc (.cells LW.toArray 39))).alloc (.cells LT.toArray 39)) ∧
   Has W1 (w.heap.size) 39 LS.toArray ∧ Has W1 (w.heap.size + 1) 39 LW.toArray ∧ Has W1 (w.heap.size + 1 + 1) 39 LT.toArray ∧ Below w.heap.size w W1 := by
 refine ⟨_, rfl, ?_, ?_, ?_, ?_⟩
 · have := Has.new w 39 LS.toArray
   exact ((this).alloc _).alloc _
 · have := Has.new (w.alloc (.cells LS.toArray 39)) 39 LW.toArray
   exact ((by simpa using this : Has _ (w.heap.size + 1) _ _)).alloc _
 · have := Has.new (((w.alloc (.cells LS.toArray 39))).alloc (.cells LW.toArray 39)) 39 LT.toArray
   exact (by simpa using this : Has _ (w.heap.size + 1 + 1) _ _)
 · exact (((Below.refl _ _).alloc (Nat.le_refl _) _).alloc (by simp) _).alloc (by simp; omega) _
theorem partsN_two {w w3 : World} {g pg : Nat} {v0 v1 : Value} {p0 p1 : List Nat} (h : Has w pg 111 #[v0, v1]) (h0 : Bytes w g v0 p0) (h1 : Bytes w g v1 p1) (hne : pg ≠ g) : PartsN w g (.slice (some ⟨pg, 0, none⟩) 2 2) [p0, p1] :=
 ⟨_, _, rfl, fun _ => ⟨pg, 0, rfl, hne, fun i hi => by
  match i, hi with
  | 0, _ => exact ⟨v0, h.cell_is rfl, h0⟩
  | 1, _ => exact ⟨v1, h.cell_is rfl, h1⟩⟩⟩
set_option maxRecDepth 100000 in
set_option maxHeartbeats 4000000 in
theorem tkAllow_is (K s0 : List Wd) (w : World) (hT : Tabs K s0 w) (g mb : Nat) (gs : List Gave) (n : Int) (ho : OfficeAt w g mb gs n) (hn0 : 0 ≤ n) (hn1 : n < 1000000) (s wh : List Nat) (hs : IsHash s) (hwh : IsHash wh) :
  Calls Tryd.prog 29 #[.pointer (some ⟨g, 0, none⟩), arr s, arr wh] w fun e w' => e = .returned (arr (tokenK K s0 s wh)) ∧ (∃ m, OfficeAt w' g mb (allowG K s0 gs s wh) m ∧ n ≤ m ∧ m ≤ n + 1) ∧ Kept (fun k => k = g ∨ k = mb) w w' := by
 obtain ⟨zk, hzk, hzs, hzn⟩ := zero_hashT
 obtain ⟨LS, hLS⟩ : ∃ L, L = bcells s := ⟨_, rfl⟩
 obtain ⟨LW, hLW⟩ : ∃ L, L = bcells wh := ⟨_, rfl⟩
 obtain ⟨D, hD⟩ : ∃ D, D = tokenK K s0 s wh := ⟨_, rfl⟩
 have hph : IsHash D := by rw [hD]; exact tagD_hash K s0 hT.len _ _
 obtain ⟨LD, hLD⟩ : ∃ L, L = bcells D := ⟨_, rfl⟩
 unfold arr
 rw [← hLS, ← hLW, ← hD, ← hLD]
 have hlow := hT.low
 have HT := Lib.hid hT
 have HO := Lib.hid ho
 have HLS := Lib.hid hLS
 have HLW := Lib.hid hLW
 have HD := Lib.hid hD
 have HLD := Lib.hid hLD
 have HPH := Lib.hid hph
 have HS := Lib.hid hs
 have HWH := Lib.hid hwh
 have hll : LD.length = 32 := by rw [hLD, bcells_length, hph.1]
 have SZ := Lib.hid (show (Tryd.prog.info? 39).map (·.size) = some LD.toArray.size by rw [List.size_toArray, hll]; kernel_rfl)
 have SZL := Lib.hid (show (Tryd.prog.info? 39).map (·.size) = some LD.length by rw [hll]; kernel_rfl)
 have SZS := Lib.hid (show (Tryd.prog.info? 39).map (·.size) = some LS.length by rw [hLS, bcells_length, hs.1]; kernel_rfl)
 have SZW := Lib.hid (show (Tryd.prog.info? 39).map (·.size) = some LW.length by rw [hLW, bcells_length, hwh.1]; kernel_rfl)
 have SZ2 := Lib.hid (show zk.size = LD.length by rw [hzs, hll])
 have ONE := Lib.hid (show LD.toArray.all (·.oneCell') = true by rw [hLD]; exact all_oneCell_toArray (bcells_one D))
 have hoff := ho.at_.row
 have hgl : g < w.heap.size := hoff.lt
 have hml : mb < w.heap.size := ho.at_.map.lt
 clear hT ho hLS hLW hD hLD hph hzs hs hwh hll
 go_enter Tryd.func29, Tryd.ntmps29
 go_upto_region 3 with (fail)
 obtain ⟨W1, hW1, h1, h2, h3, hb1⟩ := boxes_allow w LS LW zk
 rw [← hW1]
 clear hW1
 obtain ⟨B, hB⟩ : ∃ b, b = w.heap.size := ⟨_, rfl⟩
 rw [← hB] at h1 h2 h3 hb1 hlow hgl hml ⊢
 have HBQ := Lib.hid hB
 clear hB
 have H1 := Lib.hid h1
 have H2 := Lib.hid h2
 have H3 := Lib.hid h3
 have HB1 := Lib.hid hb1
 have HTB := Lib.hid (show ∀ v : World, Below W1.heap.size W1 v → Tabs K s0 v from fun v hv => by
  have hl2 := hlow
  have hb2 := HB1.out
  rw [HBQ.out] at hl2 hb2
  exact HT.out.below (hb2.trans (hv.mono hb2.size)) hl2)
 have HO1 := Lib.hid (show OfficeAt W1 g mb gs n by have := HB1.out; rw [HBQ.out] at this; exact HO.out.below this)
 have HBY := Lib.hid (show ∀ (v : World) (k : Nat), Below W1.heap.size W1 v → W1.heap.size ≤ k → Bytes v k (.slice (some ⟨B, 0, none⟩) 32 32) s ∧ Bytes v k (.slice (some ⟨B + 1, 0, none⟩) 32 32) wh from fun v k hv hk => ⟨hash_bytesW HS.out (by rw [← HLS.out]; exact H1.out) hv k hk, hash_bytesW HWH.out (by rw [← HLW.out]; exact H2.out) hv k hk⟩)
 have HDQ := Lib.hid (show tagD K s0 tokS [s, wh].flatten = D by rw [HD.out]; unfold tokenK; simp)
 have HLN := Lib.hid (show [s, wh].flatten.length ≤ 100000000 by simp [HS.out.1, HWH.out.1])
 clear h1 h2 h3 hb1 hoff
 go_cut [7] from 8 (fun tv wx => ∃ G7, tv = .pointer (some ⟨G7, 0, none⟩) ∧ Has wx G7 39 LD.toArray ∧ Below W1.heap.size W1 wx)
 case first =>
  have hS0 : Below W1.heap.size W1 W1.drew := (Below.refl _ _).drew
  refine wp_region_noPanic ?_
  refine wp_region_held_drew (S := (fun v => Below W1.heap.size W1 v)) (by kernel_rfl) hS0 (fun hH0 => ?_)
  apply tk 1 (v := _) rfl (Or.inl ⟨by kernel_rfl, ?hv⟩) hH0 ?_
  case hv => intro w' hS; go_simp; try exact rfl
  simp only [Act.put, qa]
  apply tk 2 (v := _) rfl (Or.inl ⟨by kernel_rfl, ?hv⟩) hH0 ?_
  case hv => intro w' hS; go_simp; try exact rfl
  simp only [Act.put, qa]
  refine wpAnyH_ready (rs := [0, 3, 5]) (by kernel_rfl) (by simp) ?_
  refine AllReadyH.cons rfl (fun KK hKK => ?_) (AllReadyH.cons rfl (fun KK hKK => ?_) (AllReadyH.cons rfl (fun KK hKK => ?_) AllReadyH.nil))
  · go_simp
    refine (newTag_is tokS _).mono ?_
    rintro _ x0 ⟨rfl, hx0⟩
    have hnx0 : Below W1.drew.heap.size W1.drew x0 := by rw [hx0]; exact (Below.refl _ _).alloc (Nat.le_refl _) _
    have hg : Has x0 W1.drew.heap.size 188 (tag0 tokS).toArray := by rw [hx0]; exact Has.new _ _ _
    have hgb : W1.heap.size ≤ W1.drew.heap.size := hH0.size
    obtain ⟨G, hG⟩ : ∃ g, g = W1.drew.heap.size := ⟨_, rfl⟩
    first | rw [← hG] | (have hq : W1.heap.size = G := hG.symm; rw [hq]; clear hq)
    rw [← hG] at hg
    rw [← hG] at hgb
    clear hG
    have hsx0 : Below W1.heap.size W1 x0 := hH0.trans (hnx0.mono hH0.size)
    try replace hz := hz.below hnx0 hz.lt
    try replace hp := hp.below hnx0 hp.lt
    clear hx0
    refine Shut.out hKK _ _ hsx0 (fun hH1 => ?_)
    clear hKK KK
    try simp only [Act.put, qa]
    refine wpAnyH_ready (rs := [3, 5]) (by kernel_rfl) (by simp) ?_
    refine AllReadyH.cons rfl (fun KK hKK => ?_) (AllReadyH.cons rfl (fun KK hKK => ?_) AllReadyH.nil)
    · refine step_buildN rfl 159 111 2 _ rfl _ 1 24 Tryd.underlying159 info_slice [.tmp 14, .tmp 15] rfl [.slice (some ⟨B, 0, none⟩) 32 32, .slice (some ⟨B + 1, 0, none⟩) 32 32] rfl (by simp [Value.cells]) rfl rfl (by decide) (by decide) (by decide) ?_
      obtain ⟨x3, hx3⟩ : ∃ y, y = x0.alloc (.cells #[.slice (some ⟨B, 0, none⟩) 32 32, .slice (some ⟨B + 1, 0, none⟩) 32 32] 111) := ⟨_, rfl⟩
      first | rw [← hx3] | (change KK _ (x0.alloc (.cells #[.slice (some ⟨B, 0, none⟩) 32 32, .slice (some ⟨B + 1, 0, none⟩) 32 32] 111)); rw [← hx3])
      have hnx3 : Below x0.heap.size x0 x3 := by rw [hx3]; exact (Below.refl _ _).alloc (Nat.le_refl _) _
      have hp : Has x3 x0.heap.size 111 #[.slice (some ⟨B, 0, none⟩) 32 32, .slice (some ⟨B + 1, 0, none⟩) 32 32] := by rw [hx3]; exact Has.new _ _ _
      have hpb : W1.heap.size ≤ x0.heap.size := hH1.size
      obtain ⟨R, hR⟩ : ∃ g, g = x0.heap.size := ⟨_, rfl⟩
      first | rw [← hR] | (have hq : W1.heap.size = R := hR.symm; rw [hq]; clear hq)
      rw [← hR] at hp
      rw [← hR] at hpb
      clear hR
      have hsx3 : Below W1.heap.size W1 x3 := hH1.trans (hnx3.mono hH1.size)
      try replace hz := hz.below hnx3 hz.lt
      try replace hg := hg.below hnx3 hg.lt
      clear hx3
      refine Shut.out hKK _ _ hsx3 (fun hH2 => ?_)
      clear hKK KK
      try simp only [Act.put, qa]
      refine wpAnyH_ready (rs := [4, 5]) (by kernel_rfl) (by simp) ?_
      refine AllReadyH.cons rfl (fun KK hKK => ?_) (AllReadyH.cons rfl (fun KK hKK => ?_) AllReadyH.nil)
      · go_simp
        have hp2 := hp.ne hg (by decide)
        have hby := HBY.out _ G hH2 hgb
        have hsum := tagSum_is K s0 _ (HTB.out _ hH2) G tokS (by decide) (Nat.le_trans (HTB.out W1 (Below.refl _ _)).low hgb) hg _ [s, wh] (partsN_two (w3 := x3) hp hby.1 hby.2 hp2) HLN.out (by simp)
        rw [HDQ.out] at hsum
        unfold arr at hsum
        rw [← HLD.out] at hsum
        refine hsum.mono ?_
        rintro _ xa ⟨rfl, hka⟩
        have hsxa : Below W1.heap.size W1 xa := hH2.trans (hka.below hH2.size (fun j e => by have e' : j = G := e; omega))
        try replace hz := hz.kept hka (by exact hz.ne hg (by decide))
        clear hsum hby hka
        refine Shut.out hKK _ _ hsxa (fun hH3 => ?_)
        clear hKK KK
        try simp only [Act.put, qa]
        refine wpAnyH_ready (rs := [5]) (by kernel_rfl) (by simp) ?_
        refine AllReadyH.cons rfl (fun KK hKK => ?_) AllReadyH.nil
        go_simp
        obtain ⟨xz, hxz⟩ : ∃ y, y = xa.alloc (.cells zk 39) := ⟨_, rfl⟩
        first | rw [← hxz] | (change KK _ (xa.alloc (.cells zk 39)); rw [← hxz])
        have hnxz : Below xa.heap.size xa xz := by rw [hxz]; exact (Below.refl _ _).alloc (Nat.le_refl _) _
        have hz : Has xz xa.heap.size 39 zk := by rw [hxz]; exact Has.new _ _ _
        have hzb : W1.heap.size ≤ xa.heap.size := hH3.size
        obtain ⟨G7, hG7⟩ : ∃ g, g = xa.heap.size := ⟨_, rfl⟩
        first | rw [← hG7] | (have hq : W1.heap.size = G7 := hG7.symm; rw [hq]; clear hq)
        rw [← hG7] at hz
        rw [← hG7] at hzb
        clear hG7
        have hsxz : Below W1.heap.size W1 xz := hH3.trans (hnxz.mono hH3.size)
        try replace hg := hg.below hnxz hg.lt
        try replace hp := hp.below hnxz hp.lt
        clear hxz
        refine Shut.out hKK _ _ hsxz (fun hH4 => ?_)
        clear hKK KK
        try simp only [Act.put, qa]
        refine wpAnyH_ready (rs := [6]) (by kernel_rfl) (by simp) ?_
        refine AllReadyH.cons rfl (fun KK hKK => ?_) AllReadyH.nil
        refine step_store_mid rfl 39 (.tmp 7) (.tmp 17) rfl G7 0 LD.toArray rfl rfl (hz.there 0 _ (by rw [List.size_toArray, SZ2.out]; exact Nat.le_of_eq (Nat.zero_add _))) SZ.out ONE.out ?_
        have hset := set_box hH4 hz hzb hH4.size SZ2.out
        obtain ⟨xb, hxb⟩ : ∃ y, y = xz.setCells G7 0 LD := ⟨_, rfl⟩
        rw [← hxb] at hset
        change KK _ (xz.setCells G7 0 LD)
        rw [← hxb]
        have hsxb : Below W1.heap.size W1 xb := hset.1
        clear hxb
        refine Shut.out hKK _ _ hsxb (fun hH5 => ?_)
        clear hKK KK
        try simp only [Act.put, qa]
        refine wpAnyH_done (by kernel_rfl) ?_ _
        refine NoPanic.normal ?_
        have HF := Lib.hid hset.2.1
        have HBF := Lib.hid hset.1
        clear hset hsxb
        go_wp2_with fail
        go_meet
        case rel => exact ⟨_, rfl, HF.out, HBF.out⟩
      · go_simp
        obtain ⟨xz, hxz⟩ : ∃ y, y = x3.alloc (.cells zk 39) := ⟨_, rfl⟩
        first | rw [← hxz] | (change KK _ (x3.alloc (.cells zk 39)); rw [← hxz])
        have hnxz : Below x3.heap.size x3 xz := by rw [hxz]; exact (Below.refl _ _).alloc (Nat.le_refl _) _
        have hz : Has xz x3.heap.size 39 zk := by rw [hxz]; exact Has.new _ _ _
        have hzb : W1.heap.size ≤ x3.heap.size := hH2.size
        obtain ⟨G7, hG7⟩ : ∃ g, g = x3.heap.size := ⟨_, rfl⟩
        first | rw [← hG7] | (have hq : W1.heap.size = G7 := hG7.symm; rw [hq]; clear hq)
        rw [← hG7] at hz
        rw [← hG7] at hzb
        clear hG7
        have hsxz : Below W1.heap.size W1 xz := hH2.trans (hnxz.mono hH2.size)
        try replace hg := hg.below hnxz hg.lt
        try replace hp := hp.below hnxz hp.lt
        clear hxz
        refine Shut.out hKK _ _ hsxz (fun hH3 => ?_)
        clear hKK KK
        try simp only [Act.put, qa]
        refine wpAnyH_ready (rs := [4]) (by kernel_rfl) (by simp) ?_
        refine AllReadyH.cons rfl (fun KK hKK => ?_) AllReadyH.nil
        go_simp
        have hp2 := hp.ne hg (by decide)
        have hby := HBY.out _ G hH3 hgb
        have hsum := tagSum_is K s0 _ (HTB.out _ hH3) G tokS (by decide) (Nat.le_trans (HTB.out W1 (Below.refl _ _)).low hgb) hg _ [s, wh] (partsN_two (w3 := xz) hp hby.1 hby.2 hp2) HLN.out (by simp)
        rw [HDQ.out] at hsum
        unfold arr at hsum
        rw [← HLD.out] at hsum
        refine hsum.mono ?_
        rintro _ xa ⟨rfl, hka⟩
        have hsxa : Below W1.heap.size W1 xa := hH3.trans (hka.below hH3.size (fun j e => by have e' : j = G := e; omega))
        try replace hz := hz.kept hka (by exact hz.ne hg (by decide))
        clear hsum hby hka
        refine Shut.out hKK _ _ hsxa (fun hH4 => ?_)
        clear hKK KK
        try simp only [Act.put, qa]
        refine wpAnyH_ready (rs := [6]) (by kernel_rfl) (by simp) ?_
        refine AllReadyH.cons rfl (fun KK hKK => ?_) AllReadyH.nil
        refine step_store_mid rfl 39 (.tmp 7) (.tmp 17) rfl G7 0 LD.toArray rfl rfl (hz.there 0 _ (by rw [List.size_toArray, SZ2.out]; exact Nat.le_of_eq (Nat.zero_add _))) SZ.out ONE.out ?_
        have hset := set_box hH4 hz hzb hH4.size SZ2.out
        obtain ⟨xb, hxb⟩ : ∃ y, y = xa.setCells G7 0 LD := ⟨_, rfl⟩
        rw [← hxb] at hset
        change KK _ (xa.setCells G7 0 LD)
        rw [← hxb]
        have hsxb : Below W1.heap.size W1 xb := hset.1
        clear hxb
        refine Shut.out hKK _ _ hsxb (fun hH5 => ?_)
        clear hKK KK
        try simp only [Act.put, qa]
        refine wpAnyH_done (by kernel_rfl) ?_ _
        refine NoPanic.normal ?_
        have HF := Lib.hid hset.2.1
        have HBF := Lib.hid hset.1
        clear hset hsxb
        go_wp2_with fail
        go_meet
        case rel => exact ⟨_, rfl, HF.out, HBF.out⟩
    · go_simp
      obtain ⟨xz, hxz⟩ : ∃ y, y = x0.alloc (.cells zk 39) := ⟨_, rfl⟩
      first | rw [← hxz] | (change KK _ (x0.alloc (.cells zk 39)); rw [← hxz])
      have hnxz : Below x0.heap.size x0 xz := by rw [hxz]; exact (Below.refl _ _).alloc (Nat.le_refl _) _
      have hz : Has xz x0.heap.size 39 zk := by rw [hxz]; exact Has.new _ _ _
      have hzb : W1.heap.size ≤ x0.heap.size := hH1.size
      obtain ⟨G7, hG7⟩ : ∃ g, g = x0.heap.size := ⟨_, rfl⟩
      first | rw [← hG7] | (have hq : W1.heap.size = G7 := hG7.symm; rw [hq]; clear hq)
      rw [← hG7] at hz
      rw [← hG7] at hzb
      clear hG7
      have hsxz : Below W1.heap.size W1 xz := hH1.trans (hnxz.mono hH1.size)
      try replace hg := hg.below hnxz hg.lt
      try replace hp := hp.below hnxz hp.lt
      clear hxz
      refine Shut.out hKK _ _ hsxz (fun hH2 => ?_)
      clear hKK KK
      try simp only [Act.put, qa]
      refine wpAnyH_ready (rs := [3]) (by kernel_rfl) (by simp) ?_
      refine AllReadyH.cons rfl (fun KK hKK => ?_) AllReadyH.nil
      refine step_buildN rfl 159 111 2 _ rfl _ 1 24 Tryd.underlying159 info_slice [.tmp 14, .tmp 15] rfl [.slice (some ⟨B, 0, none⟩) 32 32, .slice (some ⟨B + 1, 0, none⟩) 32 32] rfl (by simp [Value.cells]) rfl rfl (by decide) (by decide) (by decide) ?_
      obtain ⟨x3, hx3⟩ : ∃ y, y = xz.alloc (.cells #[.slice (some ⟨B, 0, none⟩) 32 32, .slice (some ⟨B + 1, 0, none⟩) 32 32] 111) := ⟨_, rfl⟩
      first | rw [← hx3] | (change KK _ (xz.alloc (.cells #[.slice (some ⟨B, 0, none⟩) 32 32, .slice (some ⟨B + 1, 0, none⟩) 32 32] 111)); rw [← hx3])
      have hnx3 : Below xz.heap.size xz x3 := by rw [hx3]; exact (Below.refl _ _).alloc (Nat.le_refl _) _
      have hp : Has x3 xz.heap.size 111 #[.slice (some ⟨B, 0, none⟩) 32 32, .slice (some ⟨B + 1, 0, none⟩) 32 32] := by rw [hx3]; exact Has.new _ _ _
      have hpb : W1.heap.size ≤ xz.heap.size := hH2.size
      obtain ⟨R, hR⟩ : ∃ g, g = xz.heap.size := ⟨_, rfl⟩
      first | rw [← hR] | (have hq : W1.heap.size = R := hR.symm; rw [hq]; clear hq)
      rw [← hR] at hp
      rw [← hR] at hpb
      clear hR
      have hsx3 : Below W1.heap.size W1 x3 := hH2.trans (hnx3.mono hH2.size)
      try replace hz := hz.below hnx3 hz.lt
      try replace hg := hg.below hnx3 hg.lt
      clear hx3
      refine Shut.out hKK _ _ hsx3 (fun hH3 => ?_)
      clear hKK KK
      try simp only [Act.put, qa]
      refine wpAnyH_ready (rs := [4]) (by kernel_rfl) (by simp) ?_
      refine AllReadyH.cons rfl (fun KK hKK => ?_) AllReadyH.nil
      go_simp
      have hp2 := hp.ne hg (by decide)
      have hby := HBY.out _ G hH3 hgb
      have hsum := tagSum_is K s0 _ (HTB.out _ hH3) G tokS (by decide) (Nat.le_trans (HTB.out W1 (Below.refl _ _)).low hgb) hg _ [s, wh] (partsN_two (w3 := x3) hp hby.1 hby.2 hp2) HLN.out (by simp)
      rw [HDQ.out] at hsum
      unfold arr at hsum
      rw [← HLD.out] at hsum
      refine hsum.mono ?_
      rintro _ xa ⟨rfl, hka⟩
      have hsxa : Below W1.heap.size W1 xa := hH3.trans (hka.below hH3.size (fun j e => by have e' : j = G := e; omega))
      try replace hz := hz.kept hka (by exact hz.ne hg (by decide))
      clear hsum hby hka
      refine Shut.out hKK _ _ hsxa (fun hH4 => ?_)
      clear hKK KK
      try simp only [Act.put, qa]
      refine wpAnyH_ready (rs := [6]) (by kernel_rfl) (by simp) ?_
      refine AllReadyH.cons rfl (fun KK hKK => ?_) AllReadyH.nil
      refine step_store_mid rfl 39 (.tmp 7) (.tmp 17) rfl G7 0 LD.toArray rfl rfl (hz.there 0 _ (by rw [List.size_toArray, SZ2.out]; exact Nat.le_of_eq (Nat.zero_add _))) SZ.out ONE.out ?_
      have hset := set_box hH4 hz hzb hH4.size SZ2.out
      obtain ⟨xb, hxb⟩ : ∃ y, y = xa.setCells G7 0 LD := ⟨_, rfl⟩
      rw [← hxb] at hset
      change KK _ (xa.setCells G7 0 LD)
      rw [← hxb]
      have hsxb : Below W1.heap.size W1 xb := hset.1
      clear hxb
      refine Shut.out hKK _ _ hsxb (fun hH5 => ?_)
      clear hKK KK
      try simp only [Act.put, qa]
      refine wpAnyH_done (by kernel_rfl) ?_ _
      refine NoPanic.normal ?_
      have HF := Lib.hid hset.2.1
      have HBF := Lib.hid hset.1
      clear hset hsxb
      go_wp2_with fail
      go_meet
      case rel => exact ⟨_, rfl, HF.out, HBF.out⟩
  · refine step_buildN rfl 159 111 2 _ rfl _ 1 24 Tryd.underlying159 info_slice [.tmp 14, .tmp 15] rfl [.slice (some ⟨B, 0, none⟩) 32 32, .slice (some ⟨B + 1, 0, none⟩) 32 32] rfl (by simp [Value.cells]) rfl rfl (by decide) (by decide) (by decide) ?_
    obtain ⟨x3, hx3⟩ : ∃ y, y = W1.drew.alloc (.cells #[.slice (some ⟨B, 0, none⟩) 32 32, .slice (some ⟨B + 1, 0, none⟩) 32 32] 111) := ⟨_, rfl⟩
    first | rw [← hx3] | (change KK _ (W1.drew.alloc (.cells #[.slice (some ⟨B, 0, none⟩) 32 32, .slice (some ⟨B + 1, 0, none⟩) 32 32] 111)); rw [← hx3])
    have hnx3 : Below W1.drew.heap.size W1.drew x3 := by rw [hx3]; exact (Below.refl _ _).alloc (Nat.le_refl _) _
    have hp : Has x3 W1.drew.heap.size 111 #[.slice (some ⟨B, 0, none⟩) 32 32, .slice (some ⟨B + 1, 0, none⟩) 32 32] := by rw [hx3]; exact Has.new _ _ _
    have hpb : W1.heap.size ≤ W1.drew.heap.size := hH0.size
    obtain ⟨R, hR⟩ : ∃ g, g = W1.drew.heap.size := ⟨_, rfl⟩
    first | rw [← hR] | (have hq : W1.heap.size = R := hR.symm; rw [hq]; clear hq)
    rw [← hR] at hp
    rw [← hR] at hpb
    clear hR
    have hsx3 : Below W1.heap.size W1 x3 := hH0.trans (hnx3.mono hH0.size)
    try replace hz := hz.below hnx3 hz.lt
    try replace hg := hg.below hnx3 hg.lt
    clear hx3
    refine Shut.out hKK _ _ hsx3 (fun hH1 => ?_)
    clear hKK KK
    try simp only [Act.put, qa]
    refine wpAnyH_ready (rs := [0, 5]) (by kernel_rfl) (by simp) ?_
    refine AllReadyH.cons rfl (fun KK hKK => ?_) (AllReadyH.cons rfl (fun KK hKK => ?_) AllReadyH.nil)
    · go_simp
      refine (newTag_is tokS _).mono ?_
      rintro _ x0 ⟨rfl, hx0⟩
      have hnx0 : Below x3.heap.size x3 x0 := by rw [hx0]; exact (Below.refl _ _).alloc (Nat.le_refl _) _
      have hg : Has x0 x3.heap.size 188 (tag0 tokS).toArray := by rw [hx0]; exact Has.new _ _ _
      have hgb : W1.heap.size ≤ x3.heap.size := hH1.size
      obtain ⟨G, hG⟩ : ∃ g, g = x3.heap.size := ⟨_, rfl⟩
      first | rw [← hG] | (have hq : W1.heap.size = G := hG.symm; rw [hq]; clear hq)
      rw [← hG] at hg
      rw [← hG] at hgb
      clear hG
      have hsx0 : Below W1.heap.size W1 x0 := hH1.trans (hnx0.mono hH1.size)
      try replace hz := hz.below hnx0 hz.lt
      try replace hp := hp.below hnx0 hp.lt
      clear hx0
      refine Shut.out hKK _ _ hsx0 (fun hH2 => ?_)
      clear hKK KK
      try simp only [Act.put, qa]
      refine wpAnyH_ready (rs := [4, 5]) (by kernel_rfl) (by simp) ?_
      refine AllReadyH.cons rfl (fun KK hKK => ?_) (AllReadyH.cons rfl (fun KK hKK => ?_) AllReadyH.nil)
      · go_simp
        have hp2 := hp.ne hg (by decide)
        have hby := HBY.out _ G hH2 hgb
        have hsum := tagSum_is K s0 _ (HTB.out _ hH2) G tokS (by decide) (Nat.le_trans (HTB.out W1 (Below.refl _ _)).low hgb) hg _ [s, wh] (partsN_two (w3 := x0) hp hby.1 hby.2 hp2) HLN.out (by simp)
        rw [HDQ.out] at hsum
        unfold arr at hsum
        rw [← HLD.out] at hsum
        refine hsum.mono ?_
        rintro _ xa ⟨rfl, hka⟩
        have hsxa : Below W1.heap.size W1 xa := hH2.trans (hka.below hH2.size (fun j e => by have e' : j = G := e; omega))
        try replace hz := hz.kept hka (by exact hz.ne hg (by decide))
        clear hsum hby hka
        refine Shut.out hKK _ _ hsxa (fun hH3 => ?_)
        clear hKK KK
        try simp only [Act.put, qa]
        refine wpAnyH_ready (rs := [5]) (by kernel_rfl) (by simp) ?_
        refine AllReadyH.cons rfl (fun KK hKK => ?_) AllReadyH.nil
        go_simp
        obtain ⟨xz, hxz⟩ : ∃ y, y = xa.alloc (.cells zk 39) := ⟨_, rfl⟩
        first | rw [← hxz] | (change KK _ (xa.alloc (.cells zk 39)); rw [← hxz])
        have hnxz : Below xa.heap.size xa xz := by rw [hxz]; exact (Below.refl _ _).alloc (Nat.le_refl _) _
        have hz : Has xz xa.heap.size 39 zk := by rw [hxz]; exact Has.new _ _ _
        have hzb : W1.heap.size ≤ xa.heap.size := hH3.size
        obtain ⟨G7, hG7⟩ : ∃ g, g = xa.heap.size := ⟨_, rfl⟩
        first | rw [← hG7] | (have hq : W1.heap.size = G7 := hG7.symm; rw [hq]; clear hq)
        rw [← hG7] at hz
        rw [← hG7] at hzb
        clear hG7
        have hsxz : Below W1.heap.size W1 xz := hH3.trans (hnxz.mono hH3.size)
        try replace hg := hg.below hnxz hg.lt
        try replace hp := hp.below hnxz hp.lt
        clear hxz
        refine Shut.out hKK _ _ hsxz (fun hH4 => ?_)
        clear hKK KK
        try simp only [Act.put, qa]
        refine wpAnyH_ready (rs := [6]) (by kernel_rfl) (by simp) ?_
        refine AllReadyH.cons rfl (fun KK hKK => ?_) AllReadyH.nil
        refine step_store_mid rfl 39 (.tmp 7) (.tmp 17) rfl G7 0 LD.toArray rfl rfl (hz.there 0 _ (by rw [List.size_toArray, SZ2.out]; exact Nat.le_of_eq (Nat.zero_add _))) SZ.out ONE.out ?_
        have hset := set_box hH4 hz hzb hH4.size SZ2.out
        obtain ⟨xb, hxb⟩ : ∃ y, y = xz.setCells G7 0 LD := ⟨_, rfl⟩
        rw [← hxb] at hset
        change KK _ (xz.setCells G7 0 LD)
        rw [← hxb]
        have hsxb : Below W1.heap.size W1 xb := hset.1
        clear hxb
        refine Shut.out hKK _ _ hsxb (fun hH5 => ?_)
        clear hKK KK
        try simp only [Act.put, qa]
        refine wpAnyH_done (by kernel_rfl) ?_ _
        refine NoPanic.normal ?_
        have HF := Lib.hid hset.2.1
        have HBF := Lib.hid hset.1
        clear hset hsxb
        go_wp2_with fail
        go_meet
        case rel => exact ⟨_, rfl, HF.out, HBF.out⟩
      · go_simp
        obtain ⟨xz, hxz⟩ : ∃ y, y = x0.alloc (.cells zk 39) := ⟨_, rfl⟩
        first | rw [← hxz] | (change KK _ (x0.alloc (.cells zk 39)); rw [← hxz])
        have hnxz : Below x0.heap.size x0 xz := by rw [hxz]; exact (Below.refl _ _).alloc (Nat.le_refl _) _
        have hz : Has xz x0.heap.size 39 zk := by rw [hxz]; exact Has.new _ _ _
        have hzb : W1.heap.size ≤ x0.heap.size := hH2.size
        obtain ⟨G7, hG7⟩ : ∃ g, g = x0.heap.size := ⟨_, rfl⟩
        first | rw [← hG7] | (have hq : W1.heap.size = G7 := hG7.symm; rw [hq]; clear hq)
        rw [← hG7] at hz
        rw [← hG7] at hzb
        clear hG7
        have hsxz : Below W1.heap.size W1 xz := hH2.trans (hnxz.mono hH2.size)
        try replace hg := hg.below hnxz hg.lt
        try replace hp := hp.below hnxz hp.lt
        clear hxz
        refine Shut.out hKK _ _ hsxz (fun hH3 => ?_)
        clear hKK KK
        try simp only [Act.put, qa]
        refine wpAnyH_ready (rs := [4]) (by kernel_rfl) (by simp) ?_
        refine AllReadyH.cons rfl (fun KK hKK => ?_) AllReadyH.nil
        go_simp
        have hp2 := hp.ne hg (by decide)
        have hby := HBY.out _ G hH3 hgb
        have hsum := tagSum_is K s0 _ (HTB.out _ hH3) G tokS (by decide) (Nat.le_trans (HTB.out W1 (Below.refl _ _)).low hgb) hg _ [s, wh] (partsN_two (w3 := xz) hp hby.1 hby.2 hp2) HLN.out (by simp)
        rw [HDQ.out] at hsum
        unfold arr at hsum
        rw [← HLD.out] at hsum
        refine hsum.mono ?_
        rintro _ xa ⟨rfl, hka⟩
        have hsxa : Below W1.heap.size W1 xa := hH3.trans (hka.below hH3.size (fun j e => by have e' : j = G := e; omega))
        try replace hz := hz.kept hka (by exact hz.ne hg (by decide))
        clear hsum hby hka
        refine Shut.out hKK _ _ hsxa (fun hH4 => ?_)
        clear hKK KK
        try simp only [Act.put, qa]
        refine wpAnyH_ready (rs := [6]) (by kernel_rfl) (by simp) ?_
        refine AllReadyH.cons rfl (fun KK hKK => ?_) AllReadyH.nil
        refine step_store_mid rfl 39 (.tmp 7) (.tmp 17) rfl G7 0 LD.toArray rfl rfl (hz.there 0 _ (by rw [List.size_toArray, SZ2.out]; exact Nat.le_of_eq (Nat.zero_add _))) SZ.out ONE.out ?_
        have hset := set_box hH4 hz hzb hH4.size SZ2.out
        obtain ⟨xb, hxb⟩ : ∃ y, y = xa.setCells G7 0 LD := ⟨_, rfl⟩
        rw [← hxb] at hset
        change KK _ (xa.setCells G7 0 LD)
        rw [← hxb]
        have hsxb : Below W1.heap.size W1 xb := hset.1
        clear hxb
        refine Shut.out hKK _ _ hsxb (fun hH5 => ?_)
        clear hKK KK
        try simp only [Act.put, qa]
        refine wpAnyH_done (by kernel_rfl) ?_ _
        refine NoPanic.normal ?_
        have HF := Lib.hid hset.2.1
        have HBF := Lib.hid hset.1
        clear hset hsxb
        go_wp2_with fail
        go_meet
        case rel => exact ⟨_, rfl, HF.out, HBF.out⟩
    · go_simp
      obtain ⟨xz, hxz⟩ : ∃ y, y = x3.alloc (.cells zk 39) := ⟨_, rfl⟩
      first | rw [← hxz] | (change KK _ (x3.alloc (.cells zk 39)); rw [← hxz])
      have hnxz : Below x3.heap.size x3 xz := by rw [hxz]; exact (Below.refl _ _).alloc (Nat.le_refl _) _
      have hz : Has xz x3.heap.size 39 zk := by rw [hxz]; exact Has.new _ _ _
      have hzb : W1.heap.size ≤ x3.heap.size := hH1.size
      obtain ⟨G7, hG7⟩ : ∃ g, g = x3.heap.size := ⟨_, rfl⟩
      first | rw [← hG7] | (have hq : W1.heap.size = G7 := hG7.symm; rw [hq]; clear hq)
      rw [← hG7] at hz
      rw [← hG7] at hzb
      clear hG7
      have hsxz : Below W1.heap.size W1 xz := hH1.trans (hnxz.mono hH1.size)
      try replace hg := hg.below hnxz hg.lt
      try replace hp := hp.below hnxz hp.lt
      clear hxz
      refine Shut.out hKK _ _ hsxz (fun hH2 => ?_)
      clear hKK KK
      try simp only [Act.put, qa]
      refine wpAnyH_ready (rs := [0]) (by kernel_rfl) (by simp) ?_
      refine AllReadyH.cons rfl (fun KK hKK => ?_) AllReadyH.nil
      go_simp
      refine (newTag_is tokS _).mono ?_
      rintro _ x0 ⟨rfl, hx0⟩
      have hnx0 : Below xz.heap.size xz x0 := by rw [hx0]; exact (Below.refl _ _).alloc (Nat.le_refl _) _
      have hg : Has x0 xz.heap.size 188 (tag0 tokS).toArray := by rw [hx0]; exact Has.new _ _ _
      have hgb : W1.heap.size ≤ xz.heap.size := hH2.size
      obtain ⟨G, hG⟩ : ∃ g, g = xz.heap.size := ⟨_, rfl⟩
      first | rw [← hG] | (have hq : W1.heap.size = G := hG.symm; rw [hq]; clear hq)
      rw [← hG] at hg
      rw [← hG] at hgb
      clear hG
      have hsx0 : Below W1.heap.size W1 x0 := hH2.trans (hnx0.mono hH2.size)
      try replace hz := hz.below hnx0 hz.lt
      try replace hp := hp.below hnx0 hp.lt
      clear hx0
      refine Shut.out hKK _ _ hsx0 (fun hH3 => ?_)
      clear hKK KK
      try simp only [Act.put, qa]
      refine wpAnyH_ready (rs := [4]) (by kernel_rfl) (by simp) ?_
      refine AllReadyH.cons rfl (fun KK hKK => ?_) AllReadyH.nil
      go_simp
      have hp2 := hp.ne hg (by decide)
      have hby := HBY.out _ G hH3 hgb
      have hsum := tagSum_is K s0 _ (HTB.out _ hH3) G tokS (by decide) (Nat.le_trans (HTB.out W1 (Below.refl _ _)).low hgb) hg _ [s, wh] (partsN_two (w3 := x0) hp hby.1 hby.2 hp2) HLN.out (by simp)
      rw [HDQ.out] at hsum
      unfold arr at hsum
      rw [← HLD.out] at hsum
      refine hsum.mono ?_
      rintro _ xa ⟨rfl, hka⟩
      have hsxa : Below W1.heap.size W1 xa := hH3.trans (hka.below hH3.size (fun j e => by have e' : j = G := e; omega))
      try replace hz := hz.kept hka (by exact hz.ne hg (by decide))
      clear hsum hby hka
      refine Shut.out hKK _ _ hsxa (fun hH4 => ?_)
      clear hKK KK
      try simp only [Act.put, qa]
      refine wpAnyH_ready (rs := [6]) (by kernel_rfl) (by simp) ?_
      refine AllReadyH.cons rfl (fun KK hKK => ?_) AllReadyH.nil
      refine step_store_mid rfl 39 (.tmp 7) (.tmp 17) rfl G7 0 LD.toArray rfl rfl (hz.there 0 _ (by rw [List.size_toArray, SZ2.out]; exact Nat.le_of_eq (Nat.zero_add _))) SZ.out ONE.out ?_
      have hset := set_box hH4 hz hzb hH4.size SZ2.out
      obtain ⟨xb, hxb⟩ : ∃ y, y = xa.setCells G7 0 LD := ⟨_, rfl⟩
      rw [← hxb] at hset
      change KK _ (xa.setCells G7 0 LD)
      rw [← hxb]
      have hsxb : Below W1.heap.size W1 xb := hset.1
      clear hxb
      refine Shut.out hKK _ _ hsxb (fun hH5 => ?_)
      clear hKK KK
      try simp only [Act.put, qa]
      refine wpAnyH_done (by kernel_rfl) ?_ _
      refine NoPanic.normal ?_
      have HF := Lib.hid hset.2.1
      have HBF := Lib.hid hset.1
      clear hset hsxb
      go_wp2_with fail
      go_meet
      case rel => exact ⟨_, rfl, HF.out, HBF.out⟩
  · go_simp
    obtain ⟨xz, hxz⟩ : ∃ y, y = W1.drew.alloc (.cells zk 39) := ⟨_, rfl⟩
    first | rw [← hxz] | (change KK _ (W1.drew.alloc (.cells zk 39)); rw [← hxz])
    have hnxz : Below W1.drew.heap.size W1.drew xz := by rw [hxz]; exact (Below.refl _ _).alloc (Nat.le_refl _) _
    have hz : Has xz W1.drew.heap.size 39 zk := by rw [hxz]; exact Has.new _ _ _
    have hzb : W1.heap.size ≤ W1.drew.heap.size := hH0.size
    obtain ⟨G7, hG7⟩ : ∃ g, g = W1.drew.heap.size := ⟨_, rfl⟩
    first | rw [← hG7] | (have hq : W1.heap.size = G7 := hG7.symm; rw [hq]; clear hq)
    rw [← hG7] at hz
    rw [← hG7] at hzb
    clear hG7
    have hsxz : Below W1.heap.size W1 xz := hH0.trans (hnxz.mono hH0.size)
    try replace hg := hg.below hnxz hg.lt
    try replace hp := hp.below hnxz hp.lt
    clear hxz
    refine Shut.out hKK _ _ hsxz (fun hH1 => ?_)
    clear hKK KK
    try simp only [Act.put, qa]
    refine wpAnyH_ready (rs := [0, 3]) (by kernel_rfl) (by simp) ?_
    refine AllReadyH.cons rfl (fun KK hKK => ?_) (AllReadyH.cons rfl (fun KK hKK => ?_) AllReadyH.nil)
    · go_simp
      refine (newTag_is tokS _).mono ?_
      rintro _ x0 ⟨rfl, hx0⟩
      have hnx0 : Below xz.heap.size xz x0 := by rw [hx0]; exact (Below.refl _ _).alloc (Nat.le_refl _) _
      have hg : Has x0 xz.heap.size 188 (tag0 tokS).toArray := by rw [hx0]; exact Has.new _ _ _
      have hgb : W1.heap.size ≤ xz.heap.size := hH1.size
      obtain ⟨G, hG⟩ : ∃ g, g = xz.heap.size := ⟨_, rfl⟩
      first | rw [← hG] | (have hq : W1.heap.size = G := hG.symm; rw [hq]; clear hq)
      rw [← hG] at hg
      rw [← hG] at hgb
      clear hG
      have hsx0 : Below W1.heap.size W1 x0 := hH1.trans (hnx0.mono hH1.size)
      try replace hz := hz.below hnx0 hz.lt
      try replace hp := hp.below hnx0 hp.lt
      clear hx0
      refine Shut.out hKK _ _ hsx0 (fun hH2 => ?_)
      clear hKK KK
      try simp only [Act.put, qa]
      refine wpAnyH_ready (rs := [3]) (by kernel_rfl) (by simp) ?_
      refine AllReadyH.cons rfl (fun KK hKK => ?_) AllReadyH.nil
      refine step_buildN rfl 159 111 2 _ rfl _ 1 24 Tryd.underlying159 info_slice [.tmp 14, .tmp 15] rfl [.slice (some ⟨B, 0, none⟩) 32 32, .slice (some ⟨B + 1, 0, none⟩) 32 32] rfl (by simp [Value.cells]) rfl rfl (by decide) (by decide) (by decide) ?_
      obtain ⟨x3, hx3⟩ : ∃ y, y = x0.alloc (.cells #[.slice (some ⟨B, 0, none⟩) 32 32, .slice (some ⟨B + 1, 0, none⟩) 32 32] 111) := ⟨_, rfl⟩
      first | rw [← hx3] | (change KK _ (x0.alloc (.cells #[.slice (some ⟨B, 0, none⟩) 32 32, .slice (some ⟨B + 1, 0, none⟩) 32 32] 111)); rw [← hx3])
      have hnx3 : Below x0.heap.size x0 x3 := by rw [hx3]; exact (Below.refl _ _).alloc (Nat.le_refl _) _
      have hp : Has x3 x0.heap.size 111 #[.slice (some ⟨B, 0, none⟩) 32 32, .slice (some ⟨B + 1, 0, none⟩) 32 32] := by rw [hx3]; exact Has.new _ _ _
      have hpb : W1.heap.size ≤ x0.heap.size := hH2.size
      obtain ⟨R, hR⟩ : ∃ g, g = x0.heap.size := ⟨_, rfl⟩
      first | rw [← hR] | (have hq : W1.heap.size = R := hR.symm; rw [hq]; clear hq)
      rw [← hR] at hp
      rw [← hR] at hpb
      clear hR
      have hsx3 : Below W1.heap.size W1 x3 := hH2.trans (hnx3.mono hH2.size)
      try replace hz := hz.below hnx3 hz.lt
      try replace hg := hg.below hnx3 hg.lt
      clear hx3
      refine Shut.out hKK _ _ hsx3 (fun hH3 => ?_)
      clear hKK KK
      try simp only [Act.put, qa]
      refine wpAnyH_ready (rs := [4]) (by kernel_rfl) (by simp) ?_
      refine AllReadyH.cons rfl (fun KK hKK => ?_) AllReadyH.nil
      go_simp
      have hp2 := hp.ne hg (by decide)
      have hby := HBY.out _ G hH3 hgb
      have hsum := tagSum_is K s0 _ (HTB.out _ hH3) G tokS (by decide) (Nat.le_trans (HTB.out W1 (Below.refl _ _)).low hgb) hg _ [s, wh] (partsN_two (w3 := x3) hp hby.1 hby.2 hp2) HLN.out (by simp)
      rw [HDQ.out] at hsum
      unfold arr at hsum
      rw [← HLD.out] at hsum
      refine hsum.mono ?_
      rintro _ xa ⟨rfl, hka⟩
      have hsxa : Below W1.heap.size W1 xa := hH3.trans (hka.below hH3.size (fun j e => by have e' : j = G := e; omega))
      try replace hz := hz.kept hka (by exact hz.ne hg (by decide))
      clear hsum hby hka
      refine Shut.out hKK _ _ hsxa (fun hH4 => ?_)
      clear hKK KK
      try simp only [Act.put, qa]
      refine wpAnyH_ready (rs := [6]) (by kernel_rfl) (by simp) ?_
      refine AllReadyH.cons rfl (fun KK hKK => ?_) AllReadyH.nil
      refine step_store_mid rfl 39 (.tmp 7) (.tmp 17) rfl G7 0 LD.toArray rfl rfl (hz.there 0 _ (by rw [List.size_toArray, SZ2.out]; exact Nat.le_of_eq (Nat.zero_add _))) SZ.out ONE.out ?_
      have hset := set_box hH4 hz hzb hH4.size SZ2.out
      obtain ⟨xb, hxb⟩ : ∃ y, y = xa.setCells G7 0 LD := ⟨_, rfl⟩
      rw [← hxb] at hset
      change KK _ (xa.setCells G7 0 LD)
      rw [← hxb]
      have hsxb : Below W1.heap.size W1 xb := hset.1
      clear hxb
      refine Shut.out hKK _ _ hsxb (fun hH5 => ?_)
      clear hKK KK
      try simp only [Act.put, qa]
      refine wpAnyH_done (by kernel_rfl) ?_ _
      refine NoPanic.normal ?_
      have HF := Lib.hid hset.2.1
      have HBF := Lib.hid hset.1
      clear hset hsxb
      go_wp2_with fail
      go_meet
      case rel => exact ⟨_, rfl, HF.out, HBF.out⟩
    · refine step_buildN rfl 159 111 2 _ rfl _ 1 24 Tryd.underlying159 info_slice [.tmp 14, .tmp 15] rfl [.slice (some ⟨B, 0, none⟩) 32 32, .slice (some ⟨B + 1, 0, none⟩) 32 32] rfl (by simp [Value.cells]) rfl rfl (by decide) (by decide) (by decide) ?_
      obtain ⟨x3, hx3⟩ : ∃ y, y = xz.alloc (.cells #[.slice (some ⟨B, 0, none⟩) 32 32, .slice (some ⟨B + 1, 0, none⟩) 32 32] 111) := ⟨_, rfl⟩
      first | rw [← hx3] | (change KK _ (xz.alloc (.cells #[.slice (some ⟨B, 0, none⟩) 32 32, .slice (some ⟨B + 1, 0, none⟩) 32 32] 111)); rw [← hx3])
      have hnx3 : Below xz.heap.size xz x3 := by rw [hx3]; exact (Below.refl _ _).alloc (Nat.le_refl _) _
      have hp : Has x3 xz.heap.size 111 #[.slice (some ⟨B, 0, none⟩) 32 32, .slice (some ⟨B + 1, 0, none⟩) 32 32] := by rw [hx3]; exact Has.new _ _ _
      have hpb : W1.heap.size ≤ xz.heap.size := hH1.size
      obtain ⟨R, hR⟩ : ∃ g, g = xz.heap.size := ⟨_, rfl⟩
      first | rw [← hR] | (have hq : W1.heap.size = R := hR.symm; rw [hq]; clear hq)
      rw [← hR] at hp
      rw [← hR] at hpb
      clear hR
      have hsx3 : Below W1.heap.size W1 x3 := hH1.trans (hnx3.mono hH1.size)
      try replace hz := hz.below hnx3 hz.lt
      try replace hg := hg.below hnx3 hg.lt
      clear hx3
      refine Shut.out hKK _ _ hsx3 (fun hH2 => ?_)
      clear hKK KK
      try simp only [Act.put, qa]
      refine wpAnyH_ready (rs := [0]) (by kernel_rfl) (by simp) ?_
      refine AllReadyH.cons rfl (fun KK hKK => ?_) AllReadyH.nil
      go_simp
      refine (newTag_is tokS _).mono ?_
      rintro _ x0 ⟨rfl, hx0⟩
      have hnx0 : Below x3.heap.size x3 x0 := by rw [hx0]; exact (Below.refl _ _).alloc (Nat.le_refl _) _
      have hg : Has x0 x3.heap.size 188 (tag0 tokS).toArray := by rw [hx0]; exact Has.new _ _ _
      have hgb : W1.heap.size ≤ x3.heap.size := hH2.size
      obtain ⟨G, hG⟩ : ∃ g, g = x3.heap.size := ⟨_, rfl⟩
      first | rw [← hG] | (have hq : W1.heap.size = G := hG.symm; rw [hq]; clear hq)
      rw [← hG] at hg
      rw [← hG] at hgb
      clear hG
      have hsx0 : Below W1.heap.size W1 x0 := hH2.trans (hnx0.mono hH2.size)
      try replace hz := hz.below hnx0 hz.lt
      try replace hp := hp.below hnx0 hp.lt
      clear hx0
      refine Shut.out hKK _ _ hsx0 (fun hH3 => ?_)
      clear hKK KK
      try simp only [Act.put, qa]
      refine wpAnyH_ready (rs := [4]) (by kernel_rfl) (by simp) ?_
      refine AllReadyH.cons rfl (fun KK hKK => ?_) AllReadyH.nil
      go_simp
      have hp2 := hp.ne hg (by decide)
      have hby := HBY.out _ G hH3 hgb
      have hsum := tagSum_is K s0 _ (HTB.out _ hH3) G tokS (by decide) (Nat.le_trans (HTB.out W1 (Below.refl _ _)).low hgb) hg _ [s, wh] (partsN_two (w3 := x0) hp hby.1 hby.2 hp2) HLN.out (by simp)
      rw [HDQ.out] at hsum
      unfold arr at hsum
      rw [← HLD.out] at hsum
      refine hsum.mono ?_
      rintro _ xa ⟨rfl, hka⟩
      have hsxa : Below W1.heap.size W1 xa := hH3.trans (hka.below hH3.size (fun j e => by have e' : j = G := e; omega))
      try replace hz := hz.kept hka (by exact hz.ne hg (by decide))
      clear hsum hby hka
      refine Shut.out hKK _ _ hsxa (fun hH4 => ?_)
      clear hKK KK
      try simp only [Act.put, qa]
      refine wpAnyH_ready (rs := [6]) (by kernel_rfl) (by simp) ?_
      refine AllReadyH.cons rfl (fun KK hKK => ?_) AllReadyH.nil
      refine step_store_mid rfl 39 (.tmp 7) (.tmp 17) rfl G7 0 LD.toArray rfl rfl (hz.there 0 _ (by rw [List.size_toArray, SZ2.out]; exact Nat.le_of_eq (Nat.zero_add _))) SZ.out ONE.out ?_
      have hset := set_box hH4 hz hzb hH4.size SZ2.out
      obtain ⟨xb, hxb⟩ : ∃ y, y = xa.setCells G7 0 LD := ⟨_, rfl⟩
      rw [← hxb] at hset
      change KK _ (xa.setCells G7 0 LD)
      rw [← hxb]
      have hsxb : Below W1.heap.size W1 xb := hset.1
      clear hxb
      refine Shut.out hKK _ _ hsxb (fun hH5 => ?_)
      clear hKK KK
      try simp only [Act.put, qa]
      refine wpAnyH_done (by kernel_rfl) ?_ _
      refine NoPanic.normal ?_
      have HF := Lib.hid hset.2.1
      have HBF := Lib.hid hset.1
      clear hset hsxb
      go_wp2_with fail
      go_meet
      case rel => exact ⟨_, rfl, HF.out, HBF.out⟩
 case rest =>
 obtain ⟨W2, hW2⟩ : ∃ y, y = wc := ⟨_, rfl⟩
 subst hW2
 obtain ⟨G7, rfl, h7, hb2⟩ := hcut
 have H7 := Lib.hid h7
 have HB2 := Lib.hid hb2
 have HO2 := Lib.hid (HO1.out.below hb2)
 obtain ⟨ZE, hze, hZE⟩ := zero_ent
 obtain ⟨VC, kn, hVC, hVL, hV1, hkn⟩ : ∃ (VC : List Value) (kn : Bool), (look (entL gs) D).getD (.agg ZE) = .agg VC.toArray ∧ VC.length = 64 ∧ VC.toArray.all (·.oneCell') = true ∧ kn = (findG gs D).isSome := by
  rw [look_entL]
  cases hf : findG gs D with
  | none => exact ⟨entC Z32' Z32', _, by rw [hZE]; rfl, entC_len Z32_hash Z32_hash, entC_one _ _, rfl⟩
  | some p =>
    obtain ⟨x, hx, rfl⟩ := findG_mem hf
    have := HO2.out.ok x hx
    exact ⟨entC x.2.1 x.2.2, _, rfl, entC_len this.1 this.2, entC_one _ _, rfl⟩
 have hsome : (look (entL gs) D).isSome = kn := by rw [look_entL, Option.isSome_map, hkn]
 have HF4 := Lib.hid (show ∀ v, Below W2.heap.size W2 v → v.cell? ⟨g, 0, none⟩ = some (.map (some mb)) ∧ (Instr.lookup 126 (.map (some mb)) (.agg LD.toArray) true).run Tryd.prog v = .ok (.tuple #[.agg VC.toArray, .bool kn]) v from fun v hv => by
  have ho := HO2.out.below hv
  refine ⟨ho.at_.row.cell_is rfl, ?_⟩
  have := lookup_ok_is Tryd.underlying126 hze ho.at_.map HPH.out
  rw [hVC, hsome, show arr D = .agg LD.toArray by rw [HLD.out]; rfl] at this
  exact this)
 have HR7 := Lib.hid (show ∀ v, Below W2.heap.size W2 v → v.rangeAt G7 0 LD from fun v hv => (H7.out.below hv H7.out.lt).row0)
 have HVL := Lib.hid (show ZE.size = VC.length by rw [hZE, List.size_toArray, entC_len Z32_hash Z32_hash, hVL])
 have SZV := Lib.hid (show (Tryd.prog.info? 143).map (·.size) = some VC.toArray.size by rw [List.size_toArray, hVL]; kernel_rfl)
 have HV1 := Lib.hid hV1
 have HKN := Lib.hid hkn
 have hzz := hze
 clear h7 hb2 hVC hVL hV1 hkn hsome hZE
 go_upto_region 4 with (fail)
 go_cut [8, 9] from 10 (fun _ kv wx => kv = .bool kn ∧ Below W2.heap.size W2 wx)
 case first =>
  have hS0 : Below W2.heap.size W2 W2.drew := (Below.refl _ _).drew
  refine wp_region_noPanic ?_
  refine wp_region_held_drew (S := (fun v => Below W2.heap.size W2 v)) (by kernel_rfl) hS0 (fun hH0 => ?_)
  apply tk 0 (v := _) rfl (Or.inl ⟨by kernel_rfl, ?hv⟩) hH0 ?_
  case hv => intro w' hS; obtain ⟨z0, z1⟩ := HF4.out w' hS; go_simp; try exact rfl
  simp only [Act.put, qa]
  apply tk 1 (v := _) rfl (Or.inl ⟨by kernel_rfl, ?hv⟩) hH0 ?_
  case hv => intro w' hS; obtain ⟨z0, z1⟩ := HF4.out w' hS; go_simp; try exact rfl
  simp only [Act.put, qa]
  apply tk 2 (v := _) rfl (Or.inl ⟨by kernel_rfl, ?hv⟩) hH0 ?_
  case hv => intro w' hS; obtain ⟨z0, z1⟩ := HF4.out w' hS; go_simp; try exact rfl
  simp only [Act.put, qa]
  apply tk 3 (v := _) rfl (Or.inl ⟨by kernel_rfl, ?hv⟩) hH0 ?_
  case hv => intro w' hS; obtain ⟨z0, z1⟩ := HF4.out w' hS; go_simp; try exact rfl
  simp only [Act.put, qa]
  refine tk 4 (v := (.agg LD.toArray)) rfl (yieldsIf_load_mid (by kernel_rfl) 39 (.tmp 7) rfl G7 0 rfl LD _ (fun w' h => HR7.out _ h) Tryd.underlying39 rfl SZL.out) hH0 ?_
  simp only [Act.put, qa]
  apply tk 5 (v := _) rfl (Or.inl ⟨by kernel_rfl, ?hv⟩) hH0 ?_
  case hv => intro w' hS; obtain ⟨z0, z1⟩ := HF4.out w' hS; go_simp; try exact rfl
  simp only [Act.put, qa]
  apply tk 6 (v := _) rfl (Or.inl ⟨by kernel_rfl, ?hv⟩) hH0 ?_
  case hv => intro w' hS; obtain ⟨z0, z1⟩ := HF4.out w' hS; go_simp; try exact rfl
  simp only [Act.put, qa]
  apply tk 7 (v := _) rfl (Or.inl ⟨by kernel_rfl, ?hv⟩) hH0 ?_
  case hv => intro w' hS; obtain ⟨z0, z1⟩ := HF4.out w' hS; go_simp; try exact rfl
  simp only [Act.put, qa]
  apply tk 8 (v := _) rfl (Or.inl ⟨by kernel_rfl, ?hv⟩) hH0 ?_
  case hv => intro w' hS; obtain ⟨z0, z1⟩ := HF4.out w' hS; go_simp; try exact rfl
  simp only [Act.put, qa]
  refine wpAnyH_ready (rs := [9]) (by kernel_rfl) (by simp) ?_
  refine AllReadyH.cons rfl (fun KK hKK => ?_) AllReadyH.nil
  go_simp
  obtain ⟨xz, hxz⟩ : ∃ y, y = W2.drew.alloc (.cells ZE 143) := ⟨_, rfl⟩
  first | rw [← hxz] | (change KK _ (W2.drew.alloc (.cells ZE 143)); rw [← hxz])
  have hnxz : Below W2.drew.heap.size W2.drew xz := by rw [hxz]; exact (Below.refl _ _).alloc (Nat.le_refl _) _
  have hz : Has xz W2.drew.heap.size 143 ZE := by rw [hxz]; exact Has.new _ _ _
  have hzb : W2.heap.size ≤ W2.drew.heap.size := hH0.size
  obtain ⟨G8, hG8⟩ : ∃ g, g = W2.drew.heap.size := ⟨_, rfl⟩
  first | rw [← hG8] | (have hG8q : W2.heap.size = G8 := hG8.symm; rw [hG8q]; clear hG8q)
  rw [← hG8] at hz hzb
  clear hG8
  have hsxz : Below W2.heap.size W2 xz := hH0.trans (hnxz.mono hH0.size)
  clear hxz
  refine Shut.out hKK _ _ hsxz (fun hH1 => ?_)
  clear hKK KK
  try simp only [Act.put, qa]
  refine wpAnyH_ready (rs := [10]) (by kernel_rfl) (by simp) ?_
  refine AllReadyH.cons rfl (fun KK hKK => ?_) AllReadyH.nil
  refine step_store_mid rfl 143 (.tmp 8) (.tmp 25) rfl G8 0 VC.toArray rfl rfl (hz.there 0 _ (by rw [List.size_toArray, HVL.out]; exact Nat.le_of_eq (Nat.zero_add _))) SZV.out HV1.out ?_
  have hset := set_box hH1 hz hzb hH1.size HVL.out
  obtain ⟨xb, hxb⟩ : ∃ y, y = xz.setCells G8 0 VC := ⟨_, rfl⟩
  rw [← hxb] at hset
  change KK _ (xz.setCells G8 0 VC)
  rw [← hxb]
  have hsxb := hset.1
  clear hxb
  refine Shut.out hKK _ _ hsxb (fun hH2 => ?_)
  clear hKK KK
  try simp only [Act.put, qa]
  apply tk 11 (v := _) rfl (Or.inl ⟨by kernel_rfl, ?hv⟩) hH2 ?_
  case hv => intro w' hS; obtain ⟨z0, z1⟩ := HF4.out w' hS; go_simp; try exact rfl
  simp only [Act.put, qa]
  refine wpAnyH_done (by kernel_rfl) ?_ _
  refine NoPanic.normal ?_
  have HBF := Lib.hid hset.1
  clear hset hsxb
  go_wp2_with fail
  go_meet
  case rel => exact ⟨rfl, HBF.out⟩
 case rest =>
 obtain ⟨W4, hW4⟩ : ∃ y, y = wc := ⟨_, rfl⟩
 subst hW4
 obtain ⟨rfl, hb4⟩ := hcut
 have HB4 := Lib.hid (HB2.out.trans (hb4.mono HB2.out.size))
 have H74 := Lib.hid (H7.out.below hb4 H7.out.lt)
 have HO4 := Lib.hid (HO2.out.below hb4)
 have H34 := Lib.hid (H3.out.below HB4.out H3.out.lt)
 have hkw : ∀ v, Below W4.heap.size W4 v → Kept (fun k => k = g ∨ k = mb) w v := fun v hv => by
  have h1 := HB1.out
  rw [HBQ.out] at h1
  exact (Kept.of_below h1).trans ((Kept.of_below HB4.out).trans (Kept.of_below hv))
 have HKW := Lib.hid hkw
 have hg3 : W1.heap.size ≤ W4.heap.size := HB4.out.size
 clear hb4 HF4 HR7 HVL SZV HV1 hkw
 cases kn with
 | true =>
  have hst : Has (W4.setRow (B + 2) LD.toArray) (B + 2) 39 LD.toArray ∧ Kept (fun k => k = B + 2) W4 (W4.setRow (B + 2) LD.toArray) := ⟨H34.out.setRow, kept_setRow W4 LD.toArray⟩
  have HST := Lib.hid hst
  have HZL := Lib.hid (show zk.size = LD.toArray.size by rw [List.size_toArray]; exact SZ2.out)
  clear hst
  go_wp2_with (first
    | (refine wpList_load_row rfl 39 (.tmp 7) rfl G7 rfl 39 LD.toArray (0, 0) _ H74.out Tryd.underlying39 rfl SZ.out ?_)
    | (refine wpList_store_row rfl 39 (.tmp 6) (.tmp 42) rfl (B + 2) LD.toArray rfl rfl 39 zk H34.out SZ.out HZL.out ONE.out ?_))
  refine bodyPost_ret (results_cell_row rfl _ _ (B + 2) 39 LD.toArray (0, 0) _ rfl HST.out.1 Tryd.underlying39 rfl SZ.out) rfl ?_
  have hall : allowG K s0 gs s wh = gs := by
    unfold allowG
    rw [← HD.out, if_pos (by rw [← HKN.out])]
  rw [hall]
  refine ⟨rfl, ⟨n, ⟨⟨HO4.out.at_.row.kept HST.out.2 (by show ¬ g = B + 2; omega), HO4.out.at_.map.kept HST.out.2 (by show ¬ mb = B + 2; omega)⟩, HO4.out.ok, HO4.out.low⟩, Int.le_refl _, by omega⟩, ?_⟩
  refine (HKW.out W4 (Below.refl _ _)).step HST.out.2 (fun k e => .inr (by have h2 := HBQ.out; have e' : k = B + 2 := e; omega))
 | false =>
  have hnone : findG gs D = none := by
    have := HKN.out
    cases h : findG gs D with
    | none => rfl
    | some p => rw [h] at this; cases this
  obtain ⟨OW, hOW⟩ : ∃ D', D' = ownerK K s0 s := ⟨_, rfl⟩
  have hoh : IsHash OW := by rw [hOW]; exact tagD_hash K s0 HT.out.len _ _
  obtain ⟨LO, hLO⟩ : ∃ L, L = bcells OW := ⟨_, rfl⟩
  obtain ⟨EC, hEC⟩ : ∃ L, L = entC OW wh := ⟨_, rfl⟩
  have HEN := Lib.hid (show ∀ v, (Instr.build 143 #[(0, .agg LO.toArray), (1, .agg LW.toArray)]).run Tryd.prog v = .ok (.agg EC.toArray) v from fun v => by rw [hLO, HLW.out, hEC]; exact build_ent OW wh hoh.1 HWH.out.1 v)
  have HTK := Lib.hid (show ∀ v, Kept (fun k => k = mb) W4 v → Tabs K s0 v from fun v hv => (HTB.out W4 HB4.out).kept hv (fun k e => by rw [e]; exact HO4.out.low))
  have hne7 : G7 ≠ mb := has_ne_map H74.out HO4.out.at_.map
  have hne0 : B ≠ mb := by omega
  have hneg : g ≠ mb := HO4.out.ne
  have HR6 := Lib.hid (show ∀ v, Kept (fun k => k = mb) W4 v → v.rangeAt G7 0 LD ∧ v.rangeAt B 0 LS ∧ v.rangeAt (B + 1) 0 LW from fun v hv => ⟨(H74.out.kept hv hne7).row0, ((H1.out.below HB4.out H1.out.lt).kept hv hne0).row0, ((H2.out.below HB4.out H2.out.lt).kept hv (by omega)).row0⟩)
  have HF6 := Lib.hid (show ∀ v, Kept (fun k => k = mb) W4 v → v.cell? ⟨g, 0, none⟩ = some (.map (some mb)) from fun v hv => (HO4.out.at_.row.kept hv hneg).cell_is rfl)
  have hmp : MapIs W4.drew mb (entL gs) := HO4.out.at_.map.drew
  have HOW := Lib.hid hOW
  have HLO := Lib.hid hLO
  have HEC := Lib.hid hEC
  have HNO := Lib.hid hnone
  have HAL := Lib.hid (show arr D = .agg LD.toArray by rw [HLD.out]; rfl)
  clear hOW hLO hEC hnone
  go_upto_region 6 with (fail)
  go_cut [] from 29 (fun wx => MapIs wx mb (entL (gs ++ [(D, OW, wh)])) ∧ Kept (fun k => k = mb) W4 wx)
  case first =>
    have hS0 : Kept (fun k => k = mb) W4 W4.drew := (Kept.refl _ _).drew
    refine wp_region_noPanic ?_
    refine wp_region_held_drew (S := (fun v => Kept (fun k => k = mb) W4 v)) (by kernel_rfl) hS0 (fun hH0 => ?_)
    apply tk 0 (v := _) rfl (Or.inl ⟨by kernel_rfl, ?hv⟩) hH0 ?_
    case hv => intro w' hS; have z0 := HF6.out w' hS; go_simp; try exact rfl
    simp only [Act.put, qa]
    apply tk 1 (v := _) rfl (Or.inl ⟨by kernel_rfl, ?hv⟩) hH0 ?_
    case hv => intro w' hS; have z0 := HF6.out w' hS; go_simp; try exact rfl
    simp only [Act.put, qa]
    apply tk 2 (v := _) rfl (Or.inl ⟨by kernel_rfl, ?hv⟩) hH0 ?_
    case hv => intro w' hS; have z0 := HF6.out w' hS; go_simp; try exact rfl
    simp only [Act.put, qa]
    apply tk 3 (v := _) rfl (Or.inl ⟨by kernel_rfl, ?hv⟩) hH0 ?_
    case hv => intro w' hS; have z0 := HF6.out w' hS; go_simp; try exact rfl
    simp only [Act.put, qa]
    refine tk 4 (v := (.agg LD.toArray)) rfl (yieldsIf_load_mid (by kernel_rfl) 39 (.tmp 7) rfl G7 0 rfl LD _ (fun w' h => (HR6.out _ h).1) Tryd.underlying39 rfl SZL.out) hH0 ?_
    simp only [Act.put, qa]
    refine tk 5 (v := (.agg LS.toArray)) rfl (yieldsIf_load_mid (by kernel_rfl) 39 (.tmp 4) rfl B 0 rfl LS _ (fun w' h => (HR6.out _ h).2.1) Tryd.underlying39 rfl SZS.out) hH0 ?_
    simp only [Act.put, qa]
    refine tk 7 (v := (.agg LW.toArray)) rfl (yieldsIf_load_mid (by kernel_rfl) 39 (.tmp 5) rfl (B + 1) 0 rfl LW _ (fun w' h => (HR6.out _ h).2.2) Tryd.underlying39 rfl SZW.out) hH0 ?_
    simp only [Act.put, qa]
    refine wpAnyH_ready (rs := [6]) (by kernel_rfl) (by simp) ?_
    refine AllReadyH.cons rfl (fun KK hKK => ?_) AllReadyH.nil
    go_simp
    have hcl := tkOwner_is K s0 _ (HTK.out _ hH0) s HS.out
    unfold arr at hcl
    rw [← HLS.out, ← HOW.out, ← HLO.out] at hcl
    refine hcl.mono ?_
    rintro _ x6 ⟨rfl, hx6⟩
    have hs6 : Kept (fun k => k = mb) W4 x6 := hH0.trans (Kept.of_below hx6)
    replace hmp := hmp.kept (Kept.of_below (S := fun _ => False) hx6) (fun h => h)
    obtain ⟨xm, hrun, hmm, hkm⟩ := update_is Tryd.underlying126 hmp HPH.out (.agg EC.toArray)
    rw [HAL.out] at hrun
    have hsm : Kept (fun k => k = mb) W4 xm := hs6.trans hkm
    clear hcl hx6 hmp
    refine Shut.out hKK _ _ hs6 (fun hH1 => ?_)
    clear hKK KK
    try simp only [Act.put, qa]
    refine tk 8 (v := (.agg EC.toArray)) rfl (yieldsIf_build (by kernel_rfl) 143 #[(0, .tmp 35), (1, .tmp 36)] rfl #[(0, .agg LO.toArray), (1, .agg LW.toArray)] (by kernel_rfl) _ (fun w' _ => HEN.out w')) hH1 ?_
    simp only [Act.put, qa]
    refine wpAnyH_ready (rs := [9]) (by kernel_rfl) (by simp) ?_
    refine AllReadyH.cons rfl (fun KK hKK => ?_) AllReadyH.nil
    go_simp
    refine Shut.out hKK _ _ hsm (fun hH2 => ?_)
    clear hKK KK
    try simp only [Act.put, qa]
    refine wpAnyH_done (by kernel_rfl) ?_ _
    refine NoPanic.normal ?_
    have HMM := Lib.hid hmm
    have HSM := Lib.hid hsm
    clear hmm hsm hrun hkm
    go_wp2_with fail
    go_meet
    case rel =>
      have hm := HMM.out
      rw [putL_none _ (findG_none HNO.out)] at hm
      refine ⟨?_, HSM.out⟩
      have e : entL (gs ++ [(D, OW, wh)]) = entL gs ++ [(D, .agg EC.toArray)] := by rw [HEC.out]; simp [entL, entV]
      rw [e]; exact hm
  case rest =>
  obtain ⟨W6, hW6⟩ : ∃ y, y = wc := ⟨_, rfl⟩
  subst hW6
  obtain ⟨hm6, hk6⟩ := hcut
  have hrow6 := HO4.out.at_.row.kept hk6 hneg
  have hc6 : W6.cell? ⟨g, 1, none⟩ = some (.int .i64 n) := hrow6.cell_is rfl
  have hz6 : W6.frozen? ⟨g, 1, none⟩ = false := hrow6.free 1
  have hadd := addI64_is ⟨g, 1, none⟩ n W6 hc6 hz6 hn0 hn1
  have hne7g : G7 ≠ g := H74.out.ne HO4.out.at_.row (by decide)
  obtain ⟨W7, hW7⟩ : ∃ y, y = W6.setCell ⟨g, 1, none⟩ (.int .i64 (n + 1)) := ⟨_, rfl⟩
  rw [← hW7] at hadd
  have hk7 : Kept (fun k => k = g) W6 W7 := by rw [hW7]; exact (Kept.refl (fun k => k = g) W6).set (p := ⟨g, 1, none⟩) (.inl rfl) _
  have hrow7 : Has W7 g 133 (offC mb (n + 1)).toArray := by rw [hW7]; exact hrow6.set 1 _
  have hm7 : MapIs W7 mb (entL (gs ++ [(D, OW, wh)])) := hm6.kept hk7 (by show ¬ mb = g; omega)
  have h77 : Has W7 G7 39 LD.toArray := (H74.out.kept hk6 hne7).kept hk7 hne7g
  have h37 : Has W7 (B + 2) 39 zk := (H34.out.kept hk6 (by show ¬ B + 2 = mb; omega)).kept hk7 (by show ¬ B + 2 = g; omega)
  have hst : Has (W7.setRow (B + 2) LD.toArray) (B + 2) 39 LD.toArray ∧ Kept (fun k => k = B + 2) W7 (W7.setRow (B + 2) LD.toArray) := ⟨h37.setRow, kept_setRow W7 LD.toArray⟩
  have hfin : OfficeAt (W7.setRow (B + 2) LD.toArray) g mb (gs ++ [(D, OW, wh)]) (n + 1) := ⟨⟨hrow7.kept hst.2 (by show ¬ g = B + 2; omega), hm7.kept hst.2 (by show ¬ mb = B + 2; omega)⟩, fun x hx => by
    rcases List.mem_append.1 hx with hx | hx
    · exact HO4.out.ok x hx
    · rw [List.mem_singleton.1 hx]; exact ⟨hoh, HWH.out⟩, HO4.out.low⟩
  have hkf : Kept (fun k => k = g ∨ k = mb) w (W7.setRow (B + 2) LD.toArray) := (((HKW.out W4 (Below.refl _ _)).step hk6 (fun k e => .inl (.inr e))).step hk7 (fun k e => .inl (.inl e))).step hst.2 (fun k e => .inr (by have h2 := HBQ.out; have e' : k = B + 2 := e; omega))
  have HST := Lib.hid hst
  have HFIN := Lib.hid hfin
  have HKF := Lib.hid hkf
  have H77 := Lib.hid h77
  have H37 := Lib.hid h37
  have HADD := Lib.hid hadd
  have HZL := Lib.hid (show zk.size = LD.toArray.size by rw [List.size_toArray]; exact SZ2.out)
  clear hst hfin hkf h77 h37 hadd hrow7 hm7 hk7 hW7 hz6 hm6 hk6 hrow6
  go_wp2_with fail
  refine HADD.out.mono ?_
  rintro _ x7 ⟨rfl, hx7⟩
  subst hx7
  clear hc6
  go_wp2_with (first
    | (refine wpList_load_row rfl 39 (.tmp 7) rfl G7 rfl 39 LD.toArray (0, 0) _ H77.out Tryd.underlying39 rfl SZ.out ?_)
    | (refine wpList_store_row rfl 39 (.tmp 6) (.tmp 42) rfl (B + 2) LD.toArray rfl rfl 39 zk H37.out SZ.out HZL.out ONE.out ?_))
  refine bodyPost_ret (results_cell_row rfl _ _ (B + 2) 39 LD.toArray (0, 0) _ rfl HST.out.1 Tryd.underlying39 rfl SZ.out) rfl ?_
  have hall : allowG K s0 gs s wh = gs ++ [(D, OW, wh)] := by
    unfold allowG
    rw [← HD.out, HNO.out, if_neg (by simp), HOW.out]
  rw [hall]
  exact ⟨rfl, ⟨n + 1, HFIN.out, by omega, Int.le_refl _⟩, HKF.out⟩
set_option maxRecDepth 100000 in
set_option maxHeartbeats 4000000 in
theorem tkAllowed_is (w : World) (g mb : Nat) (gs : List Gave) (n : Int) (ho : OfficeAt w g mb gs n) (ow wh t : List Nat) (how : IsHash ow) (hwh : IsHash wh) (ht : IsHash t) :
  Calls Tryd.prog 64 #[.pointer (some ⟨g, 0, none⟩), arr ow, arr wh, arr t] w fun e w' => e = .returned (.bool (allowedG gs ow wh t)) ∧ Below w.heap.size w w' := by
 obtain ⟨LS, hLS⟩ : ∃ L, L = bcells ow := ⟨_, rfl⟩
 obtain ⟨LW, hLW⟩ : ∃ L, L = bcells wh := ⟨_, rfl⟩
 obtain ⟨LD, hLD⟩ : ∃ L, L = bcells t := ⟨_, rfl⟩
 unfold arr
 rw [← hLS, ← hLW, ← hLD]
 have HO := Lib.hid ho
 have HLS := Lib.hid hLS
 have HLW := Lib.hid hLW
 have HLD := Lib.hid hLD
 have HPH := Lib.hid ht
 have HS := Lib.hid how
 have HWH := Lib.hid hwh
 have SZL := Lib.hid (show (Tryd.prog.info? 39).map (·.size) = some LD.length by rw [hLD, bcells_length, ht.1]; kernel_rfl)
 have SZS := Lib.hid (show (Tryd.prog.info? 39).map (·.size) = some LS.toArray.size by rw [List.size_toArray, hLS, bcells_length, how.1]; kernel_rfl)
 have SZW := Lib.hid (show (Tryd.prog.info? 39).map (·.size) = some LW.toArray.size by rw [List.size_toArray, hLW, bcells_length, hwh.1]; kernel_rfl)
 clear ho hLS hLW hLD how hwh ht
 go_enter Tryd.func64, Tryd.ntmps64
 go_upto_region 3 with (fail)
 obtain ⟨W1, hW1, h1, h2, h3, hb1⟩ := boxes_allowed w LS LW LD
 rw [← hW1]
 clear hW1
 have HO1 := Lib.hid (HO.out.below hb1)
 obtain ⟨B, hB⟩ : ∃ b, b = w.heap.size := ⟨_, rfl⟩
 rw [← hB] at h1 h2 h3 hb1 ⊢
 have H1 := Lib.hid h1
 have H2 := Lib.hid h2
 have H3 := Lib.hid h3
 have HB1 := Lib.hid hb1
 have HBQ := Lib.hid hB
 clear h1 h2 h3 hb1 hB
 obtain ⟨ZE, hze, hZE⟩ := zero_ent
 obtain ⟨VC, kn, pa, pb, hVC, hVL, hV1, hkn, hpa, hpb, hvc⟩ : ∃ (VC : List Value) (kn : Bool) (pa pb : List Nat), (look (entL gs) t).getD (.agg ZE) = .agg VC.toArray ∧ VC.length = 64 ∧ VC.toArray.all (·.oneCell') = true ∧ findG gs t = (if kn then some (pa, pb) else none) ∧ IsHash pa ∧ IsHash pb ∧ VC = entC pa pb := by
  rw [look_entL]
  cases hf : findG gs t with
  | none => exact ⟨entC Z32' Z32', false, Z32', Z32', by rw [hZE]; rfl, entC_len Z32_hash Z32_hash, entC_one _ _, rfl, Z32_hash, Z32_hash, rfl⟩
  | some p =>
   obtain ⟨x, hx, rfl⟩ := findG_mem hf
   have := HO1.out.ok x hx
   exact ⟨entC x.2.1 x.2.2, true, x.2.1, x.2.2, rfl, entC_len this.1 this.2, entC_one _ _, rfl, this.1, this.2, rfl⟩
 have hsome : (look (entL gs) t).isSome = kn := by rw [look_entL, Option.isSome_map, hkn]; cases kn <;> rfl
 have HF4 := Lib.hid (show ∀ v, Below W1.heap.size W1 v → v.cell? ⟨g, 0, none⟩ = some (.map (some mb)) ∧ (Instr.lookup 126 (.map (some mb)) (.agg LD.toArray) true).run Tryd.prog v = .ok (.tuple #[.agg VC.toArray, .bool kn]) v from fun v hv => by
  have ho := HO1.out.below hv
  refine ⟨ho.at_.row.cell_is rfl, ?_⟩
  have := lookup_ok_is Tryd.underlying126 hze ho.at_.map HPH.out
  rw [hVC, hsome, show arr t = .agg LD.toArray by rw [HLD.out]; rfl] at this
  exact this)
 have HR7 := Lib.hid (show ∀ v, Below W1.heap.size W1 v → v.rangeAt (B + 2) 0 LD from fun v hv => (H3.out.below hv H3.out.lt).row0)
 have HVL := Lib.hid (show ZE.size = VC.length by rw [hZE, List.size_toArray, entC_len Z32_hash Z32_hash, hVL])
 have SZV := Lib.hid (show (Tryd.prog.info? 143).map (·.size) = some VC.toArray.size by rw [List.size_toArray, hVL]; kernel_rfl)
 have HV1 := Lib.hid hV1
 have HKN := Lib.hid hkn
 have HPP := Lib.hid (And.intro hpa hpb)
 have HVC := Lib.hid hvc
 have hzz := hze
 clear hVC hVL hV1 hkn hsome hZE hpa hpb hvc
 go_cut [9, 10] from 11 (fun pv kv wx => ∃ G9, pv = .pointer (some ⟨G9, 0, none⟩) ∧ kv = .bool kn ∧ Has wx G9 143 VC.toArray ∧ Below W1.heap.size W1 wx)
 case first =>
  have hS0 : Below W1.heap.size W1 W1.drew := (Below.refl _ _).drew
  refine wp_region_noPanic ?_
  refine wp_region_held_drew (S := (fun v => Below W1.heap.size W1 v)) (by kernel_rfl) hS0 (fun hH0 => ?_)
  apply tk 0 (v := _) rfl (Or.inl ⟨by kernel_rfl, ?hv⟩) hH0 ?_
  case hv => intro w' hS; obtain ⟨z0, z1⟩ := HF4.out w' hS; go_simp; try exact rfl
  simp only [Act.put, qa]
  apply tk 1 (v := _) rfl (Or.inl ⟨by kernel_rfl, ?hv⟩) hH0 ?_
  case hv => intro w' hS; obtain ⟨z0, z1⟩ := HF4.out w' hS; go_simp; try exact rfl
  simp only [Act.put, qa]
  apply tk 2 (v := _) rfl (Or.inl ⟨by kernel_rfl, ?hv⟩) hH0 ?_
  case hv => intro w' hS; obtain ⟨z0, z1⟩ := HF4.out w' hS; go_simp; try exact rfl
  simp only [Act.put, qa]
  apply tk 3 (v := _) rfl (Or.inl ⟨by kernel_rfl, ?hv⟩) hH0 ?_
  case hv => intro w' hS; obtain ⟨z0, z1⟩ := HF4.out w' hS; go_simp; try exact rfl
  simp only [Act.put, qa]
  refine tk 4 (v := (.agg LD.toArray)) rfl (yieldsIf_load_mid (by kernel_rfl) 39 (.tmp 7) rfl (B + 2) 0 rfl LD _ (fun w' h => HR7.out _ h) Tryd.underlying39 rfl SZL.out) hH0 ?_
  simp only [Act.put, qa]
  apply tk 5 (v := _) rfl (Or.inl ⟨by kernel_rfl, ?hv⟩) hH0 ?_
  case hv => intro w' hS; obtain ⟨z0, z1⟩ := HF4.out w' hS; go_simp; try exact rfl
  simp only [Act.put, qa]
  apply tk 6 (v := _) rfl (Or.inl ⟨by kernel_rfl, ?hv⟩) hH0 ?_
  case hv => intro w' hS; obtain ⟨z0, z1⟩ := HF4.out w' hS; go_simp; try exact rfl
  simp only [Act.put, qa]
  apply tk 7 (v := _) rfl (Or.inl ⟨by kernel_rfl, ?hv⟩) hH0 ?_
  case hv => intro w' hS; obtain ⟨z0, z1⟩ := HF4.out w' hS; go_simp; try exact rfl
  simp only [Act.put, qa]
  apply tk 8 (v := _) rfl (Or.inl ⟨by kernel_rfl, ?hv⟩) hH0 ?_
  case hv => intro w' hS; obtain ⟨z0, z1⟩ := HF4.out w' hS; go_simp; try exact rfl
  simp only [Act.put, qa]
  refine wpAnyH_ready (rs := [9]) (by kernel_rfl) (by simp) ?_
  refine AllReadyH.cons rfl (fun KK hKK => ?_) AllReadyH.nil
  go_simp
  obtain ⟨xz, hxz⟩ : ∃ y, y = W1.drew.alloc (.cells ZE 143) := ⟨_, rfl⟩
  first | rw [← hxz] | (change KK _ (W1.drew.alloc (.cells ZE 143)); rw [← hxz])
  have hnxz : Below W1.drew.heap.size W1.drew xz := by rw [hxz]; exact (Below.refl _ _).alloc (Nat.le_refl _) _
  have hz : Has xz W1.drew.heap.size 143 ZE := by rw [hxz]; exact Has.new _ _ _
  have hzb : W1.heap.size ≤ W1.drew.heap.size := hH0.size
  obtain ⟨G8, hG8⟩ : ∃ g, g = W1.drew.heap.size := ⟨_, rfl⟩
  first | rw [← hG8] | (have hG8q : W1.heap.size = G8 := hG8.symm; rw [hG8q]; clear hG8q)
  rw [← hG8] at hz hzb
  clear hG8
  have hsxz : Below W1.heap.size W1 xz := hH0.trans (hnxz.mono hH0.size)
  clear hxz
  refine Shut.out hKK _ _ hsxz (fun hH1 => ?_)
  clear hKK KK
  try simp only [Act.put, qa]
  refine wpAnyH_ready (rs := [10]) (by kernel_rfl) (by simp) ?_
  refine AllReadyH.cons rfl (fun KK hKK => ?_) AllReadyH.nil
  refine step_store_mid rfl 143 (.tmp 9) (.tmp 20) rfl G8 0 VC.toArray rfl rfl (hz.there 0 _ (by rw [List.size_toArray, HVL.out]; exact Nat.le_of_eq (Nat.zero_add _))) SZV.out HV1.out ?_
  have hset := set_box hH1 hz hzb hH1.size HVL.out
  obtain ⟨xb, hxb⟩ : ∃ y, y = xz.setCells G8 0 VC := ⟨_, rfl⟩
  rw [← hxb] at hset
  change KK _ (xz.setCells G8 0 VC)
  rw [← hxb]
  have hsxb := hset.1
  clear hxb
  refine Shut.out hKK _ _ hsxb (fun hH2 => ?_)
  clear hKK KK
  try simp only [Act.put, qa]
  apply tk 11 (v := _) rfl (Or.inl ⟨by kernel_rfl, ?hv⟩) hH2 ?_
  case hv => intro w' hS; obtain ⟨z0, z1⟩ := HF4.out w' hS; go_simp; try exact rfl
  simp only [Act.put, qa]
  refine wpAnyH_done (by kernel_rfl) ?_ _
  refine NoPanic.normal ?_
  have HNF := Lib.hid hset.2.1
  have HBF := Lib.hid hset.1
  clear hset hsxb
  go_wp2_with fail
  go_meet
  case rel => exact ⟨_, rfl, rfl, HNF.out, HBF.out⟩
 case rest =>
 obtain ⟨W2, hW2⟩ : ∃ y, y = wc := ⟨_, rfl⟩
 subst hW2
 obtain ⟨G9, rfl, rfl, h9, hb2⟩ := hcut
 have H9 := Lib.hid h9
 have H12 := Lib.hid (H1.out.below hb2 H1.out.lt)
 have H22 := Lib.hid (H2.out.below hb2 H2.out.lt)
 have HFB := Lib.hid (show Below w.heap.size w W2 from by
  have h1 := HB1.out
  rw [HBQ.out] at h1
  exact h1.trans (hb2.mono h1.size))
 obtain ⟨EC, hEC⟩ : ∃ L, L = entC ow wh := ⟨_, rfl⟩
 have HEN := Lib.hid (show ∀ v, (Instr.build 143 #[(0, .agg LS.toArray), (1, .agg LW.toArray)]).run Tryd.prog v = .ok (.agg EC.toArray) v from fun v => by rw [HLS.out, HLW.out, hEC]; exact build_ent ow wh HS.out.1 HWH.out.1 v)
 have heq : ∀ v, (Op.equalIn 10000 143 (.agg VC.toArray) (.agg EC.toArray)).run Tryd.prog v = .ok (decide (pa = ow ∧ pb = wh)) v := fun v => by rw [HVC.out, hEC]; exact ent_eq HPP.out.1 HPP.out.2 HS.out HWH.out v
 clear h9 hb2 hEC
 cases kn with
 | false =>
  have hres : allowedG gs ow wh t = false := by
   unfold allowedG
   rw [HKN.out]
   simp
  have HRES := Lib.hid hres
  clear heq hres
  go_wp2_with fail
  go_ret
  exact ⟨by rw [HRES.out]; rfl, HFB.out⟩
 | true =>
  have hres : allowedG gs ow wh t = decide (pa = ow ∧ pb = wh) := by
   unfold allowedG
   rw [HKN.out]
   simp
  obtain ⟨q, hq⟩ : ∃ q, q = decide (pa = ow ∧ pb = wh) := ⟨_, rfl⟩
  rw [← hq] at heq hres
  have HRES := Lib.hid hres
  clear hq hres
  go_wp2_with (first
   | (refine wpList_load_midG (by kernel_rfl) 143 (.tmp 9) rfl G9 0 rfl VC _ H9.out.row0 Tryd.underlying143 rfl (by rw [← List.size_toArray]; exact SZV.out) ?_)
   | (refine wpList_load_midG (by kernel_rfl) 39 (.tmp 5) rfl B 0 rfl LS _ H12.out.row0 Tryd.underlying39 rfl (by rw [← List.size_toArray]; exact SZS.out) ?_)
   | (refine wpList_load_midG (by kernel_rfl) 39 (.tmp 6) rfl (B + 1) 0 rfl LW _ H22.out.row0 Tryd.underlying39 rfl (by rw [← List.size_toArray]; exact SZW.out) ?_)
   | (refine wpList_build_run (by kernel_rfl) 143 _ rfl #[(0, .agg LS.toArray), (1, .agg LW.toArray)] (by kernel_rfl) (.agg EC.toArray) (HEN.out _) ?_))
  go_ret
  exact ⟨by rw [HRES.out]; rfl, HFB.out⟩
end Go.Proofs.YtniakgoefkbkhaaDoor

