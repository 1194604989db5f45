/- The walk of the reference's tables. -/
import Derived.Test.YtngmpcmeebcdmaaDoorNum6
import Derived.Test.YtngmpcmeebcdmaaDoorSha6
import Derived.Deep.WholeRow
namespace Go.Proofs.YtngmpcmeebcdmaaDoor
set_option linter.unusedVariables false
set_option linter.unusedSimpArgs false
open Go.ChangeShapes Go.WideShapes Go.ChangeAt Go.RowKit Go.Maps

def ucells (l : List Nat) : List Value := l.map fun (n : Nat) => Value.int .u32 (n : Int)
def tabL : List Value := ucells ss8 ++ ucells ks64
theorem tab_len : tabL.length = 72 := by kernel_rfl
theorem tab_one : tabL.toArray.all (·.oneCell') = true := by kernel_rfl
theorem ucells_get (l : List Nat) (i : Nat) (h : i < l.length) : (ucells l)[i]? = some (.int .u32 (l.getD i 0 : Nat)) := by simp [ucells, h]
theorem ss8_len : ss8.length = 8 := by decide
theorem ks64_len : ks64.length = 64 := by decide
theorem p64_len : primes64.length = 64 := by decide
theorem zero_tab : ∃ Z : Array Value, (∀ w, (Instr.build 69 #[]).run Tryd.prog w = .ok (.agg Z) w) ∧ (∀ w, (zeroValue 69).run Tryd.prog w = .ok (.agg Z) w) ∧ Z.size = 72 ∧ ¬ Z = #[] ∧ Z.all (·.oneCell') = true ∧ ∀ (i : Nat) v, Z[i]? = some v → v = .int .u32 0 := by
  have hs : (List.replicate 72 (Value.int .u32 0)).toArray.size = 72 := by kernel_rfl
  exact ⟨_, fun w => by kernel_rfl, fun w => by kernel_rfl, hs, (fun e => by rw [e] at hs; cases hs), by kernel_rfl, fun i v h => by rw [List.getElem?_toArray, List.getElem?_replicate] at h; split at h; (injection h with h; exact h.symm); cases h⟩
theorem p64_small (i : Nat) (h : i < 64) : 0 < primes64.getD i 0 ∧ primes64.getD i 0 < 512 := by
  have hg : primes64[i]? = some (primes64.getD i 0) := by
    rw [List.getD_eq_getElem?_getD, List.getElem?_eq_getElem (by rw [p64_len]; exact h)]; rfl
  have := primes_pos 312 _ (by rw [primes_full]; exact List.mem_of_getElem? hg)
  omega
/-- the tables, the first so many done. -/
structure TabAt (w : World) (B i : Nat) : Prop where
  ex : ∃ cs, Has w B 69 cs ∧ cs.size = 72 ∧ (∀ j, j < i → cs[8 + j]? = some (.int .u32 (ks64.getD j 0 : Nat))) ∧ ∀ j, j < i → j < 8 → cs[j]? = some (.int .u32 (ss8.getD j 0 : Nat))
theorem TabAt.kept {S : Nat → Prop} {w w' : World} {B i : Nat} (h : TabAt w B i) (hk : Kept S w w') (hs : ¬ S B) : TabAt w' B i := by
  obtain ⟨cs, h1, h2⟩ := h.ex
  exact ⟨cs, h1.kept hk hs, h2⟩
/-- one more of the second table: the state is not done yet. -/
theorem TabAt.setK {w : World} {B i : Nat} (h : TabAt w B i) (hi : i < 64) : ∃ cs, Has (w.setCell ⟨B, 8 + i, none⟩ (.int .u32 ((ks64.getD i 0 : Nat) : Int))) B 69 cs ∧ cs.size = 72 ∧ (∀ j, j < i + 1 → cs[8 + j]? = some (.int .u32 (ks64.getD j 0 : Nat))) ∧ ∀ j, j < i → j < 8 → cs[j]? = some (.int .u32 (ss8.getD j 0 : Nat)) := by
  obtain ⟨cs, h1, h2, h3, h4⟩ := h.ex
  refine ⟨_, h1.set (8 + i) _, by simp [h2], fun j hj => ?_, fun j hj h8 => ?_⟩
  · by_cases e : j = i
    · rw [e, Array.getElem?_setIfInBounds_self_of_lt (by omega)]
    · rw [Array.getElem?_setIfInBounds_ne (by omega)]
      exact h3 j (by omega)
  · rw [Array.getElem?_setIfInBounds_ne (by omega)]
    exact h4 j hj h8
theorem tab_cell {w : World} {B o : Nat} {cs : Array Value} (h : Has w B 69 cs) (hs : cs.size = 72) (ho : o < 72) : (∃ v, w.cell? ⟨B, o, none⟩ = some v) ∧ w.frozen? ⟨B, o, none⟩ = false :=
  ⟨⟨cs[o]'(by omega), h.cell_is (Array.getElem?_eq_getElem (by omega))⟩, h.free _⟩
theorem root_3 (w : World) (i : Nat) (hi : i < 64) : Calls Tryd.prog 62 #[.int .i64 (primes64.getD i 0 : Nat), .int .i64 3] w fun e w' => e = .returned (.int .u32 (ks64.getD i 0 : Nat)) ∧ Below w.heap.size w w' := by
  obtain ⟨h1, h2⟩ := p64_small i hi
  refine (root_is w (primes64.getD i 0) 3 h1 h2 (.inr rfl)).mono fun e w' ⟨⟨r, hr, hrt⟩, hb⟩ => ⟨?_, hb⟩
  rw [hr]
  have e1 := root_k hi hrt
  congr 2
  omega
theorem root_2 (w : World) (i : Nat) (hi : i < 8) : Calls Tryd.prog 62 #[.int .i64 (primes64.getD i 0 : Nat), .int .i64 2] w fun e w' => e = .returned (.int .u32 (ss8.getD i 0 : Nat)) ∧ Below w.heap.size w w' := by
  obtain ⟨h1, h2⟩ := p64_small i (by omega)
  refine (root_is w (primes64.getD i 0) 2 h1 h2 (.inl rfl)).mono fun e w' ⟨⟨r, hr, hrt⟩, hb⟩ => ⟨?_, hb⟩
  rw [hr]
  have e1 := root_s hi hrt
  congr 2
  omega
set_option maxRecDepth 100000 in
set_option maxHeartbeats 4000000 in
theorem make_is (w : World) : Calls Tryd.prog 29 #[] w fun e w' => e = .returned (.agg tabL.toArray) ∧ Below w.heap.size w w' := by
  obtain ⟨Z, hbd, hzv, hZs, hZn, hZo, hZ0⟩ := zero_tab
  have s1 : ∀ (x : World) o, (x.alloc o).heap.size = x.heap.size + 1 := fun x o => by simp
  have b0 := (Has.new w 69 Z).alloc (.cells Z 69)
  have b1 := Has.new (w.alloc (.cells Z 69)) 69 Z
  rw [s1] at b1
  have hrow : ((w.alloc (.cells Z 69)).alloc (.cells Z 69)).setRow (w.heap.size + 1) Z = (w.alloc (.cells Z 69)).alloc (.cells Z 69) := by
    have := World.setRow_alloc_new (w.alloc (.cells Z 69)) Z Z 69
    rw [s1] at this
    exact this
  have hbel := ((Below.refl w.heap.size w).alloc (Nat.le_refl _) (.cells Z 69)).alloc (by rw [s1]; omega) (.cells Z 69)
  have HBD := Lib.hid hbd
  have HB1 := Lib.hid b1
  have HB0 := Lib.hid b0
  have HROW := Lib.hid hrow
  have HBEL := Lib.hid hbel
  have EZ := Lib.hid hZs
  have SZ := Lib.hid (show (Tryd.prog.info? 69).map (·.size) = some Z.size by rw [hZs]; kernel_rfl)
  have ONE := Lib.hid hZo
  clear hbd b0 b1 hrow hbel hZs hZo s1
  go_enter Tryd.func29, Tryd.ntmps29
  go_upto_region 2 with (first
    | (refine wpList_build_run (by kernel_rfl) 69 _ rfl #[] (by kernel_rfl) (.agg Z) (HBD.out _) ?_)
    | (refine wpList_store_row rfl 69 (.tmp 1) (.tmp 4) rfl (w.heap.size + 1) Z rfl rfl 69 Z HB1.out SZ.out rfl ONE.out ?_))
  rw [HROW.out]
  generalize (w.alloc (.cells Z 69)).alloc (.cells Z 69) = W0 at HB0 HB1 HBEL ⊢
  clear HROW HBD
  have hpr := primes_is W0
  have HPR := Lib.hid hpr
  clear hpr
  obtain ⟨B0, hB0⟩ : ∃ B, B = w.heap.size := ⟨_, rfl⟩
  obtain ⟨B1, hB1⟩ : ∃ B, B = w.heap.size + 1 := ⟨_, rfl⟩
  rw [← hB1] at HB1 ⊢
  rw [← hB0] at HB0 ⊢
  have EB := Lib.hid (And.intro hB0 hB1)
  clear hB0 hB1
  go_wp2_with fail
  refine HPR.out.mono ?_
  rintro _ w1 ⟨⟨v', rfl, hd⟩, hb1⟩
  obtain ⟨a, c, rfl, hdg⟩ := hd
  rw [p64_len] at hdg ⊢
  obtain ⟨sb, so, hA, hsb, hcl⟩ := hdg.at_ (by decide)
  subst hA
  have hsbne : sb ≠ B1 := fun e => by
    have h1 := hcl 0 (by decide)
    have h2 := HB1.out.below hb1 HB1.out.lt
    rw [e, h2.cell] at h1
    have h3 := hZ0 _ _ h1
    cases h3
  have HSB := Lib.hid hsbne
  obtain ⟨n64, hn64⟩ : ∃ n, n = 64 := ⟨64, rfl⟩
  rw [← hn64] at hdg ⊢
  have EN := Lib.hid hn64
  have HD := Lib.hid hdg
  have HT0 := Lib.hid (show TabAt w1 B1 0 from ⟨Z, HB1.out.below hb1 HB1.out.lt, EZ.out, fun j hj => absurd hj (Nat.not_lt_zero j), fun j hj => absurd hj (Nat.not_lt_zero j)⟩)
  have HR0 := Lib.hid (HB0.out.below hb1 HB0.out.lt)
  have HBE := Lib.hid (HBEL.out.trans (hb1.mono HBEL.out.size))
  clear hdg hsb hcl hsbne hZ0 hb1 hn64 HPR HB0 HB1 HBEL
  go_wp2_with fail
  go_loopw [7] (fun v wr => ∃ (i : Nat), v = .int .i64 (i : Int) ∧ i ≤ 64 ∧ TabAt wr B1 i ∧ Has wr B0 69 Z ∧ Below w.heap.size w wr ∧ DigAt wr (some ⟨sb, so, none⟩) n64 c primes64) (fun v _ => 64 - (intOf v).toNat)
  case atStart => exact ⟨0, rfl, Nat.zero_le _, HT0.out, HR0.out, HBE.out, HD.out⟩
  case round =>
    clear HT0 HR0 HBE HD
    obtain ⟨i, rfl, hi, ht, hr0, hbe, hdg⟩ := hrel
    have HTA := Lib.hid ht
    have HR0 := Lib.hid hr0
    have HBE := Lib.hid hbe
    have HD := Lib.hid hdg
    clear ht hr0 hbe hdg
    by_cases hlt : i < 64
    · obtain ⟨_, _, e0, _, hcl⟩ := HD.out.at_ (by rw [EN.out]; decide)
      injection e0 with e0
      injection e0 with e1 e2 _
      subst e1 e2
      have hn : i < n64 := by rw [EN.out]; exact hlt
      have hc0 := hcl i hn
      have hat := at_int sb so n64 c i hn
      have hroot := root_3 wr i hlt
      have hroot2 : i < 8 → ∀ v, Calls Tryd.prog 62 #[.int .i64 (primes64.getD i 0 : Nat), .int .i64 2] v fun e w' => e = .returned (.int .u32 (ss8.getD i 0 : Nat)) ∧ Below v.heap.size v w' := fun h v => root_2 v i h
      obtain ⟨p, hp⟩ : ∃ p, p = primes64.getD i 0 := ⟨_, rfl⟩
      rw [← hp] at hc0 hroot hroot2
      obtain ⟨kk, hkk⟩ : ∃ x, x = ks64.getD i 0 := ⟨_, rfl⟩
      obtain ⟨sk, hsk⟩ : ∃ x, x = ss8.getD i 0 := ⟨_, rfl⟩
      rw [← hkk] at hroot
      rw [← hsk] at hroot2
      have EK := Lib.hid hkk
      have ES := Lib.hid hsk
      have HRT := Lib.hid hroot
      have HRT2 := Lib.hid hroot2
      have hlt' : (i : Int) < (n64 : Int) := by omega
      have hlt2 : (i : Int) < 64 := by omega
      have HBB := Lib.hid (show w.heap.size ≤ B0 ∧ B0 < B1 ∧ w.heap.size ≤ B1 by have := EB.out; omega)
      have HK2 := Lib.hid (And.intro (show i + 1 ≤ 64 from hlt) (show 64 - (i + 1) < 64 - i from Nat.sub_lt_sub_left hlt (Nat.lt_succ_self i)))
      have HLT := Lib.hid hlt
      have hib : i < 4611686018427387904 := by omega
      have hw4 := wrap64_succ i hib
      have HQ := Lib.hid hw4
      clear hcl hn hroot hroot2 hp hkk hsk hlt hib
      go_wp2_with fail
      refine HRT.out.mono ?_
      rintro _ w2 ⟨rfl, hb2⟩
      obtain ⟨cs0, hc1, hc2, -⟩ := (HTA.out.kept (Kept.of_below (S := fun _ => False) hb2) (fun h => h)).ex
      obtain ⟨⟨v0, hv0⟩, hf0⟩ := tab_cell hc1 hc2 (show 8 + i < 72 by have := HLT.out; omega)
      have hset := (HTA.out.kept (Kept.of_below (S := fun _ => False) hb2) (fun h => h)).setK HLT.out
      rw [← EK.out] at hset
      have hk3 : Kept (· = B1) wr (w2.setCell ⟨B1, 8 + i, none⟩ (.int .u32 (kk : Int))) := ((Kept.of_below (S := fun k => k = B1) hb2)).set (p := ⟨B1, 8 + i, none⟩) (.inl rfl) _
      have HSET := Lib.hid hset
      have HK3 := Lib.hid hk3
      clear hb2 hc1 hc2 hset hk3 HRT
      by_cases h8 : i < 8
      · have h8' : (i : Int) < 8 := by omega
        have HRT3 := Lib.hid (HRT2.out h8)
        have H8 := Lib.hid h8
        clear h8
        go_upto_region 6 with (fail)
        clear hv0 hf0
        have hset := HSET.out
        have hk3 := HK3.out
        clear HSET HK3
        generalize w2.setCell ⟨B1, 8 + i, none⟩ (.int .u32 (kk : Int)) = W3 at hset hk3 ⊢
        obtain ⟨cs3, q1, q2, q3, q4⟩ := hset
        have HC3 := Lib.hid (And.intro q1 (And.intro q2 (And.intro q3 q4)))
        have HK3 := Lib.hid hk3
        clear q1 q2 q3 q4 hk3
        go_wp2_with fail
        refine (HRT3.out _).mono ?_
        rintro _ w4 ⟨rfl, hb4⟩
        have hc4 := HC3.out.1.below hb4 HC3.out.1.lt
        obtain ⟨⟨v0, hv0⟩, hf0⟩ := tab_cell hc4 HC3.out.2.1 (show i < 72 by have := HLT.out; omega)
        have hk5 : Kept (· = B1) wr (w4.setCell ⟨B1, i, none⟩ (.int .u32 (sk : Int))) := (HK3.out.trans (Kept.of_below (S := fun k => k = B1) hb4)).set (p := ⟨B1, i, none⟩) (.inl rfl) _
        have ht5 : TabAt (w4.setCell ⟨B1, i, none⟩ (.int .u32 (sk : Int))) B1 (i + 1) := by
          obtain ⟨q1, q2, q3, q4⟩ := HC3.out
          have hi64 := HLT.out
          refine ⟨_, hc4.set i _, by simp [q2], fun j hj => ?_, fun j hj h8 => ?_⟩
          · rw [Array.getElem?_setIfInBounds_ne (by have := H8.out; omega)]
            exact q3 j hj
          · by_cases e : j = i
            · rw [e, Array.getElem?_setIfInBounds_self_of_lt (by omega), ← ES.out]
            · rw [Array.getElem?_setIfInBounds_ne (by omega)]
              exact q4 j (by omega) h8
        have HT5 := Lib.hid ht5
        have HK5 := Lib.hid hk5
        clear hb4 hc4 hk5 ht5 HRT3
        go_wp2
        have ht5 := HT5.out
        have hk5 := HK5.out
        clear hv0 hf0 HT5 HK5
        generalize w4.setCell ⟨B1, i, none⟩ (.int .u32 (sk : Int)) = W5 at ht5 hk5 ⊢
        have HFIN := Lib.hid (show TabAt W5 B1 (i + 1) ∧ Has W5 B0 69 Z ∧ Below w.heap.size w W5 ∧ DigAt W5 (some ⟨sb, so, none⟩) n64 c primes64 from
          ⟨ht5, HR0.out.kept hk5 (by have := HBB.out; omega), HBE.out.trans (hk5.below HBE.out.size (fun j e => by have e' : j = B1 := e; have := HBB.out; omega)), HD.out.kept hk5 (fun b o e e' => by injection e with e; injection e with e1; exact HSB.out (e1.trans e'))⟩)
        go_roundw
        case rel => exact ⟨i + 1, by first | rfl | exact congrArg (Value.int .i64) HQ.out, HK2.out.1, HFIN.out⟩
        case measure =>
          first | exact HK2.out.2 | (show 64 - (intOf (Value.int .i64 (wrap64 ((i : Int) + 1)))).toNat < _; rw [HQ.out]; exact HK2.out.2)
      · have h8' : ¬ (i : Int) < 8 := by omega
        have H8 := Lib.hid h8
        clear h8
        go_upto_region 6 with (fail)
        clear hv0 hf0
        have hset := HSET.out
        have hk3 := HK3.out
        clear HSET HK3
        generalize w2.setCell ⟨B1, 8 + i, none⟩ (.int .u32 (kk : Int)) = W5 at hset hk3 ⊢
        have HFIN := Lib.hid (show TabAt W5 B1 (i + 1) ∧ Has W5 B0 69 Z ∧ Below w.heap.size w W5 ∧ DigAt W5 (some ⟨sb, so, none⟩) n64 c primes64 from by
          obtain ⟨cs3, q1, q2, q3, q4⟩ := hset
          exact ⟨⟨cs3, q1, q2, q3, fun j hj h8 => q4 j (by have := H8.out; omega) h8⟩, HR0.out.kept hk3 (by have := HBB.out; omega), HBE.out.trans (hk3.below HBE.out.size (fun j e => by have e' : j = B1 := e; have := HBB.out; omega)), HD.out.kept hk3 (fun b o e e' => by injection e with e; injection e with e1; exact HSB.out (e1.trans e'))⟩)
        clear hset hk3
        go_wp2
        go_roundw
        case rel => exact ⟨i + 1, by first | rfl | exact congrArg (Value.int .i64) HQ.out, HK2.out.1, HFIN.out⟩
        case measure =>
          first | exact HK2.out.2 | (show 64 - (intOf (Value.int .i64 (wrap64 ((i : Int) + 1)))).toNat < _; rw [HQ.out]; exact HK2.out.2)
    · have hno : ¬ (i : Int) < (n64 : Int) := by have := EN.out; omega
      obtain ⟨cs, q1, q2, q3, q4⟩ := HTA.out.ex
      have ecs : cs = tabL.toArray := by
        apply Array.toList_inj.1
        apply List.ext_getElem?
        intro j
        rw [Array.getElem?_toList]
        have h64 : i = 64 := by omega
        have l8 : (ucells ss8).length = 8 := by decide
        have l64 : (ucells ks64).length = 64 := by decide
        rcases Nat.lt_or_ge j 72 with hj | hj
        · show _ = tabL[j]?
          unfold tabL
          rcases Nat.lt_or_ge j 8 with h8 | h8
          · rw [q4 j (by omega) h8, List.getElem?_append_left (by omega), ucells_get ss8 j (by rw [ss8_len]; exact h8)]
          · have := q3 (j - 8) (by omega)
            rw [show 8 + (j - 8) = j by omega] at this
            rw [this, List.getElem?_append_right (by omega), l8, ucells_get ks64 (j - 8) (by rw [ks64_len]; omega)]
        · rw [Array.getElem?_eq_none (by omega), List.getElem?_eq_none (by show tabL.length ≤ j; rw [tab_len]; exact hj)]
      rw [ecs] at q1
      obtain ⟨LT, hLT⟩ : ∃ L, L = tabL.toArray := ⟨_, rfl⟩
      rw [← hLT] at q1
      have lt : LT.size = 72 := by rw [hLT, List.size_toArray, tab_len]
      have SZL := Lib.hid (show (Tryd.prog.info? 69).map (·.size) = some LT.size by rw [lt]; kernel_rfl)
      have ONEL := Lib.hid (show LT.all (·.oneCell') = true by rw [hLT]; exact tab_one)
      have HLZ := Lib.hid (show Z.size = LT.size by rw [lt, EZ.out])
      have hres : Has (wr.setRow B0 LT) B0 69 LT := HR0.out.setRow
      have hbf : Below w.heap.size w (wr.setRow B0 LT) := HBE.out.trans ((kept_setRow (g := B0) wr LT).below HBE.out.size (fun j e => by have e' : j = B0 := e; have := EB.out; omega))
      have HQ1 := Lib.hid q1
      have HRES := Lib.hid hres
      have HBF := Lib.hid hbf
      have ELT := Lib.hid hLT
      clear q1 q2 q3 q4 ecs lt hres hbf hLT hlt
      go_wp2_with (first
        | (refine wpList_load_row rfl 69 (.tmp 1) rfl B1 rfl 69 LT (0, 0) _ HQ1.out Tryd.underlying69 rfl SZL.out ?_)
        | (refine wpList_store_row rfl 69 (.tmp 0) (.tmp 25) rfl B0 LT rfl rfl 69 Z HR0.out SZL.out HLZ.out ONEL.out ?_))
      refine bodyPost_ret (results_cell_row rfl _ _ B0 69 LT (0, 0) _ rfl HRES.out Tryd.underlying69 rfl SZL.out) rfl ?_
      exact ⟨by rw [ELT.out], HBF.out⟩
end Go.Proofs.YtngmpcmeebcdmaaDoor
