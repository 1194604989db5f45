/- The walk of (*sha.Hasher).Sum. -/
import Derived.Test.YtngmpcmeebcdmaaDoorSha5
namespace Go.Proofs.YtngmpcmeebcdmaaDoor
set_option linter.unusedVariables false
set_option linter.unusedSimpArgs false
open Go.ChangeShapes Go.WideShapes Go.ChangeAt Go.RowKit

theorem HObj.state {w : World} {g : Nat} {s : List Wd} {rest : List Nat} {at_ n : Int} (h : HObj w g s rest at_ n) : w.rangeAt g 0 (wcells s) := fun j v hv => by
  have hj := (List.getElem?_eq_some_iff.1 hv).1
  refine h.1.cell_is ?_
  rw [List.getElem?_toArray, hcells, Nat.zero_add, List.getElem?_append_left hj]
  exact hv
theorem eight_words (l : List Wd) (h : l.length = 8) : ∃ x0 x1 x2 x3 x4 x5 x6 x7, l = [x0, x1, x2, x3, x4, x5, x6, x7] := by
  match l, h with
  | [x0, x1, x2, x3, x4, x5, x6, x7], _ => exact ⟨x0, x1, x2, x3, x4, x5, x6, x7, rfl⟩
theorem Has.setB {w : World} {g : Nat} {t : TypeId} {b : List Nat} (h : Has w g t (bcells b).toArray) (i x : Nat) : Has (w.setCell ⟨g, i, none⟩ (.int .u8 (x : Int))) g t (bcells (b.set i x)).toArray := by
  have := h.set i (.int .u8 (x : Int))
  rw [List.setIfInBounds_toArray, bcells_set] at this
  exact this
theorem three (w : World) (c0 : Array Value) (t0 : TypeId) (c1 : Array Value) (t1 : TypeId) (c2 : Array Value) (t2 : TypeId) :
    Has (((w.alloc (.cells c0 t0)).alloc (.cells c1 t1)).alloc (.cells c2 t2)) w.heap.size t0 c0 ∧ Has (((w.alloc (.cells c0 t0)).alloc (.cells c1 t1)).alloc (.cells c2 t2)) (w.heap.size + 1) t1 c1 ∧
      Has (((w.alloc (.cells c0 t0)).alloc (.cells c1 t1)).alloc (.cells c2 t2)) (w.heap.size + 1 + 1) t2 c2 ∧ Below w.heap.size w (((w.alloc (.cells c0 t0)).alloc (.cells c1 t1)).alloc (.cells c2 t2)) ∧
      (((w.alloc (.cells c0 t0)).alloc (.cells c1 t1)).alloc (.cells c2 t2)).heap.size = w.heap.size + 3 := by
  have s1 : ∀ (x : World) o, (x.alloc o).heap.size = x.heap.size + 1 := fun x o => by simp
  have h1 := Has.new (w.alloc (.cells c0 t0)) t1 c1
  have h2 := Has.new ((w.alloc (.cells c0 t0)).alloc (.cells c1 t1)) t2 c2
  rw [s1] at h1
  rw [s1, s1] at h2
  exact ⟨((Has.new w _ _).alloc _).alloc _, h1.alloc _, h2, (((Below.refl _ _).alloc (Nat.le_refl _) _).alloc (by rw [s1]; omega) _).alloc (by rw [s1, s1]; omega) _, by rw [s1, s1, s1]⟩
theorem _root_.Go.RowKit.Below.kept_up {B : Nat} {w w' : World} (hb : Below B w w') : Kept (fun k => B ≤ k) w w' :=
  ⟨hb.os, hb.tape, hb.output, hb.size, fun k _ hn => hb.block k (by omega)⟩
theorem splice_zero (r : List Nat) (n : Nat) : splice (bcells (List.replicate n 0)) 0 (bcells r) = bcells (r ++ List.replicate (n - r.length) 0) := by
  simp [splice, bcells]
theorem set_128 (r : List Nat) (n : Nat) (h : r.length = n) (hn : n < 64) : (r ++ List.replicate (128 - n) 0).set n 128 = r ++ 128 :: List.replicate (127 - n) 0 := by
  obtain ⟨z, hz⟩ : ∃ z, 128 - n = z + 1 := ⟨127 - n, by omega⟩
  rw [List.set_append_right _ _ (by omega), h, Nat.sub_self, hz, List.replicate_succ, List.set_cons_zero, show 127 - n = z by omega]
theorem wcells_one (s : List Wd) : (wcells s).toArray.all (·.oneCell') = true :=
  all_oneCell_toArray fun v hv => by obtain ⟨x, _, rfl⟩ := List.mem_map.1 hv; rfl
theorem Has.setRow {w : World} {g : Nat} {t : TypeId} {cs cs' : Array Value} (h : Has w g t cs) : Has (w.setRow g cs') g t cs' := setRow_heap w g _ _ t _ h

set_option maxRecDepth 100000 in
set_option maxHeartbeats 2000000 in
theorem hsum_is (K s0 : List Wd) (w : World) (g : Nat) (m : List Nat) (hT : Tabs K s0 w) (h : Hsh K s0 w g m) :
    Calls Tryd.prog 81 #[.pointer (some ⟨g, 0, none⟩)] w fun e w' => e = .returned (arr (digest K s0 m)) ∧ Below w.heap.size w w' := by
  obtain ⟨i32, hi32, _, _, _⟩ := info_parts info_u32
  obtain ⟨rest, hO, hrt, hml⟩ := h
  have hgl : g < w.heap.size := hO.1.lt
  obtain ⟨c72, c73⟩ := hO.facts
  have hS8 := hO.2.1
  obtain ⟨x0, x1, x2, x3, x4, x5, x6, x7, hS⟩ := eight_words _ hS8
  have hst : w.rangeAt g 0 [Value.int .u32 (x0.toNat : Int), Value.int .u32 (x1.toNat : Int), Value.int .u32 (x2.toNat : Int), Value.int .u32 (x3.toNat : Int), Value.int .u32 (x4.toNat : Int), Value.int .u32 (x5.toNat : Int), Value.int .u32 (x6.toNat : Int), Value.int .u32 (x7.toNat : Int)] := by
    have := hO.state
    rw [hS] at this
    exact this
  have HST := Lib.hid hst
  have HS := Lib.hid hS
  clear hst hS
  obtain ⟨at0, hat⟩ : ∃ x : Nat, x = m.length % 64 := ⟨_, rfl⟩
  obtain ⟨n, hn⟩ : ∃ x : Nat, x = m.length := ⟨_, rfl⟩
  have hat64 : at0 < 64 := by omega
  rw [← hat] at c72
  rw [← hn] at c73
  have HO := Lib.hid hO
  have HT := Lib.hid hT
  have HRT := Lib.hid hrt
  have HML := Lib.hid hml
  have HAT := Lib.hid hat
  have HN := Lib.hid hn
  have HS8 := Lib.hid hS8
  clear hT hO hrt hml hat hn hS8
  go_enter Tryd.func81, Tryd.ntmps81
  go_wp2_with (refine wpList_load_mid rfl 66 (.tmp 16) rfl g 0 rfl [Value.int .u32 (x0.toNat : Int), Value.int .u32 (x1.toNat : Int), Value.int .u32 (x2.toNat : Int), Value.int .u32 (x3.toNat : Int), Value.int .u32 (x4.toNat : Int), Value.int .u32 (x5.toNat : Int), Value.int .u32 (x6.toNat : Int), Value.int .u32 (x7.toNat : Int)] _ (World.rangeAt_alloc HST.out _) Tryd.underlying66 rfl (by kernel_rfl) ?_)
  have h3 := three w #[Value.int .u8 0, Value.int .u8 0, Value.int .u8 0, Value.int .u8 0, Value.int .u8 0, Value.int .u8 0, Value.int .u8 0, Value.int .u8 0, Value.int .u8 0, Value.int .u8 0, Value.int .u8 0, Value.int .u8 0, Value.int .u8 0, Value.int .u8 0, Value.int .u8 0, Value.int .u8 0, Value.int .u8 0, Value.int .u8 0, Value.int .u8 0, Value.int .u8 0, Value.int .u8 0, Value.int .u8 0, Value.int .u8 0, Value.int .u8 0, Value.int .u8 0, Value.int .u8 0, Value.int .u8 0, Value.int .u8 0, Value.int .u8 0, Value.int .u8 0, Value.int .u8 0, Value.int .u8 0] 28 #[Value.int .u32 (x0.toNat : Int), Value.int .u32 (x1.toNat : Int), Value.int .u32 (x2.toNat : Int), Value.int .u32 (x3.toNat : Int), Value.int .u32 (x4.toNat : Int), Value.int .u32 (x5.toNat : Int), Value.int .u32 (x6.toNat : Int), Value.int .u32 (x7.toNat : Int)] 66 Tryd.zeroCells177 177
  generalize ((w.alloc (.cells #[Value.int .u8 0, Value.int .u8 0, Value.int .u8 0, Value.int .u8 0, Value.int .u8 0, Value.int .u8 0, Value.int .u8 0, Value.int .u8 0, Value.int .u8 0, Value.int .u8 0, Value.int .u8 0, Value.int .u8 0, Value.int .u8 0, Value.int .u8 0, Value.int .u8 0, Value.int .u8 0, Value.int .u8 0, Value.int .u8 0, Value.int .u8 0, Value.int .u8 0, Value.int .u8 0, Value.int .u8 0, Value.int .u8 0, Value.int .u8 0, Value.int .u8 0, Value.int .u8 0, Value.int .u8 0, Value.int .u8 0, Value.int .u8 0, Value.int .u8 0, Value.int .u8 0, Value.int .u8 0] 28)).alloc (.cells #[Value.int .u32 (x0.toNat : Int), Value.int .u32 (x1.toNat : Int), Value.int .u32 (x2.toNat : Int), Value.int .u32 (x3.toNat : Int), Value.int .u32 (x4.toNat : Int), Value.int .u32 (x5.toNat : Int), Value.int .u32 (x6.toNat : Int), Value.int .u32 (x7.toNat : Int)] 66)).alloc (.cells Tryd.zeroCells177 177) = W at h3 ⊢
  obtain ⟨h30, h31, h32, hbel, hsize⟩ := h3
  have hb0 : Has W w.heap.size 28 (bcells (List.replicate 32 0)).toArray := h30
  have hb1 : Has W (w.heap.size + 1) 66 (wcells (eat K (m.length / 64) s0 m)).toArray := by rw [HS.out]; exact h31
  have ez : (bcells (List.replicate 128 0)).toArray = Tryd.zeroCells177 := by kernel_rfl
  have hb2 : Has W (w.heap.size + 1 + 1) 177 (bcells (List.replicate 128 0)).toArray := by rw [ez]; exact h32
  have ho : HObj W g (eat K (m.length / 64) s0 m) rest ((m.length % 64 : Nat) : Int) ((m.length : Nat) : Int) := HO.out.kept (Kept.of_below (S := fun _ => False) hbel) (fun h => h)
  obtain ⟨d72, d73⟩ := ho.facts
  rw [← HAT.out] at d72
  rw [← HN.out] at d73
  obtain ⟨B1, hB1⟩ : ∃ B, w.heap.size + 1 = B := ⟨_, rfl⟩
  obtain ⟨B2, hB2⟩ : ∃ B, B1 + 1 = B := ⟨_, rfl⟩
  rw [hB1] at hb1 hb2 ⊢
  rw [hB2] at hb2 ⊢
  have hB1g : w.heap.size < B1 := by omega
  have hB2g : B1 < B2 := by omega
  have HB1 := Lib.hid hB1
  have HB2 := Lib.hid hB2
  have HW0 := Lib.hid hb0
  have HW1 := Lib.hid hb1
  have HW2 := Lib.hid hb2
  have HOW := Lib.hid ho
  have HBEL := Lib.hid hbel
  clear c72 c73 HST h30 h31 h32 hbel hsize hb0 hb1 hb2 ho ez hB1 hB2
  have hr : (rest.take at0).length = at0 := by rw [List.length_take, HOW.out.2.2.1]; omega
  have HR := Lib.hid hr
  have HR2 := Lib.hid (fun x (hx : x ∈ rest.take at0) => HOW.out.2.2.2 x (List.mem_of_mem_take hx))
  have hsrc : ∀ j u, (bcells (rest.take at0))[j]? = some u → W.drew.cell? ((⟨g, 8, none⟩ : Addr).add j) = some u := fun j u hu => by
    have hj := (List.getElem?_eq_some_iff.1 hu).1
    rw [bcells_length, HR.out] at hj
    rw [bcells_get _ _ (by rw [HR.out]; exact hj)] at hu
    injection hu with hu
    rw [Addr.add_mid, World.cell?_drew, HOW.out.rest j (by omega), ← hu]
    simp [List.getD_eq_getElem?_getD, List.getElem?_take, hj]
  have HSRC := Lib.hid hsrc
  clear hsrc hr
  have hcut := fun w => cut_to (t := 157) (n := 64) (by kernel_rfl) (by kernel_rfl) size1 w g 8 at0 (by omega) (by decide)
  go_region_law (refine step_copy_kept rfl (.tmp 18) (.tmp 26) 29 29 rfl 5 Tryd.underlying29 size_u8 (some ⟨B2, 0, none⟩) (some ⟨g, 8, none⟩) 128 128 at0 64 (by rfl) (by rfl) B2 0 (bcells (List.replicate 128 0)) 177 (w := W.drew) HW2.out (bcells (rest.take at0)) (by rw [bcells_length, HR.out]; exact (Nat.min_eq_left (by omega)).symm) (fun _ => ⟨rfl, _, rfl, HSRC.out⟩) (by rw [bcells_length, bcells_length, HR.out, List.length_replicate]; omega) (bcells_one _) ?_; intro w1 hw1 hk1)
  clear hcut
  rw [splice_zero, HR.out] at hw1
  have ho1 := HOW.out.kept hk1.undrew (by omega)
  obtain ⟨d72, d73⟩ := ho1.facts
  rw [← HAT.out] at d72
  rw [← HN.out] at d73
  have hc1 : w1.cell? ⟨B2, at0, none⟩ = some (.int .u8 ((((rest.take at0) ++ List.replicate (128 - at0) 0).getD at0 0 : Nat) : Int)) := hw1.cell_is (by rw [List.getElem?_toArray]; exact bcells_get _ _ (by rw [List.length_append, HR.out, List.length_replicate]; omega))
  have hf1 := hw1.free at0
  have hset := hw1.set at0 (.int .u8 ((128 : Nat) : Int))
  rw [List.setIfInBounds_toArray, bcells_set, set_128 _ _ HR.out hat64] at hset
  have hk2 := ((HBEL.out.kept_up).trans (hk1.undrew.mono (fun k _ e => by have e' : k = B2 := e; omega))).set (p := ⟨B2, at0, none⟩) (.inl (by show w.heap.size ≤ B2; omega)) (.int .u8 ((128 : Nat) : Int))
  have hb0 := (HW0.out.kept hk1.undrew (by omega)).far (p := ⟨B2, at0, none⟩) (by show w.heap.size ≠ B2; omega) (.int .u8 ((128 : Nat) : Int))
  have hb1 := (HW1.out.kept hk1.undrew (by omega)).far (p := ⟨B2, at0, none⟩) (by show B1 ≠ B2; omega) (.int .u8 ((128 : Nat) : Int))
  clear hw1 hk1 HW0 HW1 HW2 HOW HBEL HSRC ho1
  have H0 := Lib.hid hb0
  have H1 := Lib.hid hb1
  have H2 := Lib.hid hset
  have HK := Lib.hid hk2
  clear hb0 hb1 hset hk2
  go_upto_if 37 with (fail)
  go_cut [5] (fun sz wr => ∃ size : Nat, sz = .int .i64 (size : Int) ∧ size = (if at0 < 56 then 64 else 128) ∧ wr = w1.setCell ⟨B2, at0, none⟩ (.int .u8 128))
  case first =>
    by_cases h56 : at0 < 56
    · go_wp2
      go_meet
      case rel => exact ⟨64, rfl, (if_pos h56).symm, rfl⟩
    · go_wp2
      go_meet
      case rel => exact ⟨128, rfl, (if_neg h56).symm, rfl⟩
  case rest =>
    obtain ⟨size, rfl, hsize, rfl⟩ := hcut
    have hs1 : at0 + 9 ≤ size := by rw [hsize]; split <;> omega
    have hs2 : size ≤ 128 := by rw [hsize]; split <;> omega
    have hs3 : size % 64 = 0 := by rw [hsize]; split <;> omega
    have HSIZE := Lib.hid hsize
    have HN9 := Lib.hid (show n ≤ 1000000000 by rw [HN.out]; exact HML.out)
    have e73 : (w1.setCell ⟨B2, at0, none⟩ (.int .u8 128)).cell? ⟨g, 73, none⟩ = some (.int .u64 (n : Int)) := cell_far d73 (by show g ≠ B2; omega)
    have h2 : Has (w1.setCell ⟨B2, at0, none⟩ (.int .u8 128)) B2 177 (bcells (endTo (rest.take at0) size n 0)).toArray := by
      rw [← endTo_zero _ _ _ (by rw [HR.out]; exact hs1) hs2, HR.out]; exact H2.out
    have H2' := Lib.hid h2
    have H0' : Hid (Has (w1.setCell ⟨B2, at0, none⟩ (.int .u8 128)) w.heap.size 28 (bcells (List.replicate 32 0)).toArray) := H0
    have H1' : Hid (Has (w1.setCell ⟨B2, at0, none⟩ (.int .u8 128)) B1 66 (wcells (eat K (m.length / 64) s0 m)).toArray) := H1
    have HK' : Hid (Kept (fun k => w.heap.size ≤ k) w (w1.setCell ⟨B2, at0, none⟩ (.int .u8 128))) := HK
    clear hsize hc1 hf1 d72 d73 H0 H1 H2 HK h2
    generalize w1.setCell ⟨B2, at0, none⟩ (.int .u8 128) = w2 at e73 H2' H0' H1' HK' ⊢
    go_wp2
    go_loopw [38] (fun i wr => ∃ k : Nat, k ≤ 8 ∧ i = .int .i64 k ∧ Has wr B2 177 (bcells (endTo (rest.take at0) size n k)).toArray ∧ Kept (· = B2) w2 wr) (fun i _ => 8 - (intOf i).toNat)
    case atStart => exact ⟨0, by omega, rfl, H2'.out, Kept.refl _ _⟩
    case round =>
      obtain ⟨k, hk, rfl, hW, hK⟩ := hrel
      have e73' := cell_kept hK e73 (by show g ≠ B2; omega)
      have HW := Lib.hid hW
      have HKR := Lib.hid hK
      clear hW hK
      by_cases hlt : k < 8
      · have hf := HW.out.free (size - 1 - k)
        have hc := HW.out.cell_is (i := size - 1 - k) (by rw [List.getElem?_toArray]; exact bcells_get _ _ (by rw [endTo_length _ _ _ _ (by rw [HR.out]; exact hs1) hs2]; omega))
        have hset := HW.out.set (size - 1 - k) (.int .u8 ((8 * n / 2 ^ (8 * k) % 256 : Nat) : Int))
        rw [List.setIfInBounds_toArray, bcells_set, endTo_set _ _ _ _ (by rw [HR.out]; exact hs1) hs2 hlt] at hset
        have HSET := Lib.hid hset
        clear hset
        have hn9 := HN9.out
        have hv : ((n : Int) * 8 / 2 ^ (8 * k) % 256) = ((8 * n / 2 ^ (8 * k) % 256 : Nat) : Int) := by
          rw [show (n : Int) * 8 = ((8 * n : Nat) : Int) by omega, show (2 : Int) ^ (8 * k) = ((2 ^ (8 * k) : Nat) : Int) by simp]
          rfl
        have HV := Lib.hid hv
        clear hv
        go_wp2
        go_roundw
        case rel => exact ⟨k + 1, by omega, by go_num, by rw [HV.out]; exact HSET.out, HKR.out.set (.inl rfl) _⟩
        case measure => simp [intOf]; omega
      · have hk8 : k = 8 := by omega
        have h2 : Has wr B2 177 (bcells (tailOf (rest.take at0) n ++ List.replicate (128 - size) 0)).toArray := by
          have e := endTo_full (rest.take at0) n (by rw [HR.out]; exact hat64)
          rw [HR.out, ← HSIZE.out] at e
          rw [← e, ← hk8]
          exact HW.out
        have h0 := H0'.out.kept HKR.out (by omega)
        have h1 := H1'.out.kept HKR.out (by omega)
        have hkk : Kept (fun k => w.heap.size ≤ k) w wr := HK'.out.trans (HKR.out.mono (fun k _ e => by have e' : k = B2 := e; omega))
        have htl : (tailOf (rest.take at0) n).length = size := by rw [tailOf_length _ _ (by rw [HR.out]; exact hat64), HR.out]; exact HSIZE.out.symm
        have HTL := Lib.hid htl
        have HT0 := Lib.hid h0
        have HT1 := Lib.hid h1
        have HT2 := Lib.hid h2
        have HKK := Lib.hid hkk
        clear hk8 h0 h1 h2 hkk htl HW HKR e73 e73' H0' H1' H2' HK'
        go_wp2
        generalize wr = w3 at HT0 HT1 HT2 HKK ⊢
        go_loopw [7] (fun i wr => ∃ j : Nat, 64 * j ≤ size ∧ i = .int .i64 (64 * (j : Int)) ∧ Has wr B1 66 (wcells (eat K j (eat K (m.length / 64) s0 m) (tailOf (rest.take at0) n))).toArray ∧ Kept (· = B1) w3 wr) (fun i _ => size - (intOf i).toNat)
        case atStart => exact ⟨0, by omega, rfl, HT1.out, Kept.refl _ _⟩
        case round =>
          obtain ⟨j, hj, rfl, hW, hK⟩ := hrel
          have HW := Lib.hid hW
          have HKR := Lib.hid hK
          clear hW hK
          by_cases hlt : 64 * j < size
          · have hsl := fun w => cut_mid (t := 177) (n := 128) (by kernel_rfl) (by kernel_rfl) size1 w B2 0 (64 * j) (64 * j + 64) (64 * (j : Int)) (64 * (j : Int) + 64) (by omega) (by omega) (by omega) (by omega) (by omega)
            go_wp2_with fail
            have hTw := HT.out.kept (HKK.out.trans (HKR.out.mono (fun k _ e => by have e' : k = B1 := e; omega))) (fun k hk => Nat.le_trans HT.out.low hk)
            have hbs : ∀ i, i < 64 → wr.cell? ⟨B2, 64 * j + i, none⟩ = some (.int .u8 ((((tailOf (rest.take at0) n).drop (64 * j)).take 64).getD i 0 : Nat)) := fun i hi => by
              refine (HT2.out.kept HKR.out (by omega)).cell_is ?_
              rw [List.getElem?_toArray, bcells_get _ _ (by rw [List.length_append, HTL.out]; omega)]
              rw [List.getD_eq_getElem?_getD, List.getD_eq_getElem?_getD, List.getElem?_append_left (by rw [HTL.out]; omega), List.getElem?_take, if_pos hi, List.getElem?_drop]
            refine (mix_is K s0 wr B1 66 (eat K j (eat K (m.length / 64) s0 m) (tailOf (rest.take at0) n)) [] (((tailOf (rest.take at0) n).drop (64 * j)).take 64) B2 (64 * j) _ hTw (by rw [List.append_nil]; exact HW.out) (by have := HT.out.low; omega) (eat_length K _ HS8.out _ _) hbs (fun i _ => get_low (fun x hx => tailOf_low _ _ (by rw [HR.out]; exact hat64) HR2.out x (List.mem_of_mem_drop (List.mem_of_mem_take hx))) i)).mono ?_
            rintro _ w4 ⟨rfl, hg4, hk4⟩
            rw [List.append_nil, eat_more] at hg4
            have HG4 := Lib.hid hg4
            have HK4 := Lib.hid (HKR.out.trans hk4)
            clear hTw hbs hg4 hk4 HW HKR hsl
            go_wp2
            go_roundw
            case rel => exact ⟨j + 1, by omega, by go_num, HG4.out, HK4.out⟩
            case measure => simp [intOf]; omega
          · have hj2 : j = size / 64 := by omega
            have hdig : (eat K j (eat K (m.length / 64) s0 m) (tailOf (rest.take at0) n)).flatMap bytesOf = digest K s0 m := by
              have h4 := HAT.out
              have h5 := HN.out
              unfold digest
              simp only []
              rw [← HRT.out, ← h4, ← h5, HTL.out, hj2]
            have h8 := eat_length K _ HS8.out j (tailOf (rest.take at0) n)
            have h0 := HT0.out.kept HKR.out (by omega)
            have hkk : Kept (fun k => w.heap.size ≤ k) w wr := HKK.out.trans (HKR.out.mono (fun k _ e => by have e' : k = B1 := e; omega))
            have h1 := HW.out
            generalize eat K j (eat K (m.length / 64) s0 m) (tailOf (rest.take at0) n) = F at hdig h8 h1
            have HD := Lib.hid hdig
            have HF0 := Lib.hid h0
            have HF1 := Lib.hid h1
            have HFK := Lib.hid hkk
            have H8 := Lib.hid h8
            clear hj2 hdig h8 h0 hkk h1 HW HKR HT0 HT1 HT2 HKK
            have hsz : (Tryd.prog.info? 66).map (·.size) = some (wcells F).toArray.size := by rw [List.size_toArray, wcells_length, H8.out]; kernel_rfl
            have HSZ := Lib.hid hsz
            clear hsz
            have hgl2 : w.heap.size < wr.heap.size := HF0.out.lt
            go_wp2_with (refine wpList_load_row rfl 66 (.tmp 3) rfl B1 rfl 66 (wcells F).toArray (0, 0) _ (HF1.out.alloc _) Tryd.underlying66 rfl HSZ.out ?_)
            have hnew : Has (wr.alloc (.cells #[Value.int .u8 0, Value.int .u8 0, Value.int .u8 0, Value.int .u8 0, Value.int .u8 0, Value.int .u8 0, Value.int .u8 0, Value.int .u8 0, Value.int .u8 0, Value.int .u8 0, Value.int .u8 0, Value.int .u8 0, Value.int .u8 0, Value.int .u8 0, Value.int .u8 0, Value.int .u8 0, Value.int .u8 0, Value.int .u8 0, Value.int .u8 0, Value.int .u8 0, Value.int .u8 0, Value.int .u8 0, Value.int .u8 0, Value.int .u8 0, Value.int .u8 0, Value.int .u8 0, Value.int .u8 0, Value.int .u8 0, Value.int .u8 0, Value.int .u8 0, Value.int .u8 0, Value.int .u8 0] 28)) wr.heap.size 28 (bcells (outTo F 0)).toArray := Has.new wr _ _
            have hk6 : Kept (fun k => w.heap.size ≤ k) w (wr.alloc (.cells #[Value.int .u8 0, Value.int .u8 0, Value.int .u8 0, Value.int .u8 0, Value.int .u8 0, Value.int .u8 0, Value.int .u8 0, Value.int .u8 0, Value.int .u8 0, Value.int .u8 0, Value.int .u8 0, Value.int .u8 0, Value.int .u8 0, Value.int .u8 0, Value.int .u8 0, Value.int .u8 0, Value.int .u8 0, Value.int .u8 0, Value.int .u8 0, Value.int .u8 0, Value.int .u8 0, Value.int .u8 0, Value.int .u8 0, Value.int .u8 0, Value.int .u8 0, Value.int .u8 0, Value.int .u8 0, Value.int .u8 0, Value.int .u8 0, Value.int .u8 0, Value.int .u8 0, Value.int .u8 0] 28)) := HFK.out.alloc _
            have h06 : Has (wr.alloc (.cells #[Value.int .u8 0, Value.int .u8 0, Value.int .u8 0, Value.int .u8 0, Value.int .u8 0, Value.int .u8 0, Value.int .u8 0, Value.int .u8 0, Value.int .u8 0, Value.int .u8 0, Value.int .u8 0, Value.int .u8 0, Value.int .u8 0, Value.int .u8 0, Value.int .u8 0, Value.int .u8 0, Value.int .u8 0, Value.int .u8 0, Value.int .u8 0, Value.int .u8 0, Value.int .u8 0, Value.int .u8 0, Value.int .u8 0, Value.int .u8 0, Value.int .u8 0, Value.int .u8 0, Value.int .u8 0, Value.int .u8 0, Value.int .u8 0, Value.int .u8 0, Value.int .u8 0, Value.int .u8 0] 28)) w.heap.size 28 (bcells (List.replicate 32 0)).toArray := HF0.out.alloc _
            generalize wr.alloc (.cells #[Value.int .u8 0, Value.int .u8 0, Value.int .u8 0, Value.int .u8 0, Value.int .u8 0, Value.int .u8 0, Value.int .u8 0, Value.int .u8 0, Value.int .u8 0, Value.int .u8 0, Value.int .u8 0, Value.int .u8 0, Value.int .u8 0, Value.int .u8 0, Value.int .u8 0, Value.int .u8 0, Value.int .u8 0, Value.int .u8 0, Value.int .u8 0, Value.int .u8 0, Value.int .u8 0, Value.int .u8 0, Value.int .u8 0, Value.int .u8 0, Value.int .u8 0, Value.int .u8 0, Value.int .u8 0, Value.int .u8 0, Value.int .u8 0, Value.int .u8 0, Value.int .u8 0, Value.int .u8 0] 28) = w6 at hnew hk6 h06 ⊢
            generalize wr.heap.size = B3 at hnew hgl2 ⊢
            have HNEW := Lib.hid hnew
            have HK6 := Lib.hid hk6
            have H06 := Lib.hid h06
            clear hnew hk6 h06 HF0 HF1 HFK HSZ
            have hix : ∀ i, i < 8 → (wcells F).toArray[i]? = some (.int .u32 ((F.getD i 0).toNat : Int)) := fun i hi => by
              rw [List.getElem?_toArray]; exact wcells_get _ _ (by rw [H8.out]; exact hi)
            have HIX := Lib.hid hix
            clear hix
            generalize (wcells F).toArray = X at HIX ⊢
            go_loopw [67] (fun i wr => ∃ k : Nat, k ≤ 8 ∧ i = .int .i64 k ∧ Has wr B3 28 (bcells (outTo F k)).toArray ∧ Kept (· = B3) w6 wr) (fun i _ => 8 - (intOf i).toNat)
            case atStart => exact ⟨0, by omega, rfl, HNEW.out, Kept.refl _ _⟩
            case round =>
              obtain ⟨k, hk, rfl, hW, hK⟩ := hrel
              have HW := Lib.hid hW
              have HKR := Lib.hid hK
              clear hW hK
              by_cases hlt : k < 8
              · have hidx := fun w => index_row (t := 66) Tryd.underlying66 i32 hi32 (by kernel_rfl) (by kernel_rfl) hlt (HIX.out k hlt) w
                obtain ⟨y, hy⟩ : ∃ y, y = F.getD k 0 := ⟨_, rfl⟩
                rw [← hy] at hidx
                have HY := Lib.hid hy
                clear hy
                have cellB : ∀ (x : World) (b : List Nat), b.length = 32 → Has x B3 28 (bcells b).toArray → ∀ i, i < 32 → ∃ z : Nat, x.cell? ⟨B3, i, none⟩ = some (.int .u8 (z : Int)) := fun x b hb hx i hi =>
                  ⟨_, hx.cell_is (by rw [List.getElem?_toArray]; exact bcells_get _ _ (by omega))⟩
                obtain ⟨z0, q0⟩ := cellB _ _ (outTo_length F k H8.out hk) HW.out (4 * k) (by omega)
                obtain ⟨z1, q1⟩ := cellB _ _ (outTo_length F k H8.out hk) HW.out (4 * k + 1) (by omega)
                obtain ⟨z2, q2⟩ := cellB _ _ (outTo_length F k H8.out hk) HW.out (4 * k + 2) (by omega)
                obtain ⟨z3, q3⟩ := cellB _ _ (outTo_length F k H8.out hk) HW.out (4 * k + 3) (by omega)
                clear cellB
                have f0 := HW.out.free (4 * k)
                have f1 := HW.out.free (4 * k + 1)
                have f2 := HW.out.free (4 * k + 2)
                have f3 := HW.out.free (4 * k + 3)
                have r1 : ∀ u, (wr.setCell ⟨B3, 4 * k, none⟩ u).cell? ⟨B3, 4 * k + 1, none⟩ = some (.int .u8 (z1 : Int)) := fun u => (World.cell?_setCell_other wr _ _ u (by simp)).trans q1
                have r2 : ∀ u u', ((wr.setCell ⟨B3, 4 * k, none⟩ u).setCell ⟨B3, 4 * k + 1, none⟩ u').cell? ⟨B3, 4 * k + 2, none⟩ = some (.int .u8 (z2 : Int)) := fun u u' => (World.cell?_setCell_other _ _ _ u' (by simp)).trans ((World.cell?_setCell_other wr _ _ u (by simp)).trans q2)
                have r3 : ∀ u u' u'', (((wr.setCell ⟨B3, 4 * k, none⟩ u).setCell ⟨B3, 4 * k + 1, none⟩ u').setCell ⟨B3, 4 * k + 2, none⟩ u'').cell? ⟨B3, 4 * k + 3, none⟩ = some (.int .u8 (z3 : Int)) := fun u u' u'' => (World.cell?_setCell_other _ _ _ u'' (by simp)).trans ((World.cell?_setCell_other _ _ _ u' (by simp)).trans ((World.cell?_setCell_other wr _ _ u (by simp)).trans q3))
                have hset := (((HW.out.setB (4 * k) (y.toNat / 16777216)).setB (4 * k + 1) (y.toNat / 65536 % 256)).setB (4 * k + 2) (y.toNat / 256 % 256)).setB (4 * k + 3) (y.toNat % 256)
                rw [HY.out, outTo_set F k H8.out hlt, ← HY.out] at hset
                have HSET := Lib.hid hset
                clear hset
                go_wp2
                go_roundw
                case rel => exact ⟨k + 1, by omega, by go_num, HSET.out, (((HKR.out.set (.inl rfl) _).set (.inl rfl) _).set (.inl rfl) _).set (.inl rfl) _⟩
                case measure => simp [intOf]; omega
              · have hk8 : k = 8 := by omega
                have h1 : Has wr B3 28 (bcells (digest K s0 m)).toArray := by
                  have := HW.out
                  rw [hk8, outTo_full F H8.out, HD.out] at this
                  exact this
                have h0 := H06.out.kept HKR.out (by omega)
                have hk7 : Kept (fun k => w.heap.size ≤ k) w wr := HK6.out.trans (HKR.out.mono (fun k _ e => by have e' : k = B3 := e; omega))
                have h32 := digest_length K s0 HT.out.len m
                obtain ⟨D, hDD⟩ : ∃ D, D = digest K s0 m := ⟨_, rfl⟩
                rw [← hDD] at h1 h32
                have HDD := Lib.hid hDD
                clear hDD
                have hsz : (Tryd.prog.info? 28).map (·.size) = some (bcells D).toArray.size := by rw [List.size_toArray, bcells_length, h32]; kernel_rfl
                have hsz2 : (bcells (List.replicate 32 0)).toArray.size = (bcells D).toArray.size := by rw [List.size_toArray, List.size_toArray, bcells_length, bcells_length, h32, List.length_replicate]
                have hres : Has (wr.setRow w.heap.size (bcells D).toArray) w.heap.size 28 (bcells D).toArray := h0.setRow
                have hbel : Below w.heap.size w (wr.setRow w.heap.size (bcells D).toArray) := (hk7.below (Nat.le_refl _) (fun k hk => hk)).trans ((kept_setRow (g := w.heap.size) wr (bcells D).toArray).below (Nat.le_of_lt h0.lt) (fun k hk => by have e : k = w.heap.size := hk; omega))
                have HRES := Lib.hid hres
                have HBEL := Lib.hid hbel
                have HZ := Lib.hid hsz
                have HZ2 := Lib.hid hsz2
                have HH1 := Lib.hid h1
                have HH0 := Lib.hid h0
                clear hk8 h1 h0 hk7 h32 hsz hsz2 hres hbel
                go_wp2_with (first
                  | (refine wpList_load_row rfl 28 (.tmp 8) rfl B3 rfl 28 (bcells D).toArray (0, 0) _ HH1.out Tryd.underlying28 rfl HZ.out ?_)
                  | (refine wpList_store_row rfl 28 (.tmp 2) (.tmp 98) rfl w.heap.size (bcells D).toArray rfl rfl 28 _ HH0.out HZ.out HZ2.out (all_oneCell_toArray (bcells_one D)) ?_))
                refine bodyPost_ret (results_cell_row rfl _ _ w.heap.size 28 (bcells D).toArray (0, 0) _ rfl HRES.out Tryd.underlying28 rfl HZ.out) rfl ?_
                exact ⟨by rw [← HDD.out]; rfl, HBEL.out⟩
end Go.Proofs.YtngmpcmeebcdmaaDoor
