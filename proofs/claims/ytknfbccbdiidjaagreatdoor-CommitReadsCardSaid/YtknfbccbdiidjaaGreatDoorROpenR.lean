/- The walk of the reference's Same. -/
import Derived.Test.YtknfbccbdiidjaaGreatDoorWs
import Derived.Test.YtknfbccbdiidjaaGreatDoorRSha7
import Derived.Laws.BytesArg
import Derived.Test.YtknfbccbdiidjaaGreatDoorRLh
import Derived.Test.YtknfbccbdiidjaaGreatDoorRCo11
import Derived.Test.YtknfbccbdiidjaaGreatDoorRCopyO
import Derived.Test.YtknfbccbdiidjaaGreatDoorRMem
import Derived.Test.YtknfbccbdiidjaaGreatDoorRMsum3
import Derived.Test.YtknfbccbdiidjaaGreatDoorRPf2
import Derived.Deep.Slices
namespace Go.Proofs.YtknfbccbdiidjaaGreatDoor
set_option linter.unusedVariables false
set_option linter.unusedSimpArgs false
open Go.ChangeShapes Go.WideShapes Go.ChangeAt Go.RowKit Go.Maps

def strOf (bs : List Nat) : ByteArray := strOfNums (bs.map fun (n : Nat) => (n : Int))
theorem strOf_inj {a b : List Nat} (ha : ∀ x ∈ a, x < 256) (hb : ∀ x ∈ b, x < 256) (h : strOf a = strOf b) : a = b := by
 have e := congrArg (fun s : ByteArray => s.data.toList.map UInt8.toNat) h
 simp only [strOf, strOfNums_data, List.map_map] at e
 have go : ∀ l : List Nat, (∀ x ∈ l, x < 256) → l.map (UInt8.toNat ∘ (fun n : Int => UInt8.ofNat n.toNat) ∘ fun (n : Nat) => (n : Int)) = l := fun l hl => by
  conv => rhs; rw [← List.map_id l]
  refine List.map_congr_left fun x hx => ?_
  have := hl x hx
  simp
  omega
 rw [go a ha, go b hb] at e
 exact e
theorem conv_zero (w : World) (p : Option Addr) (c : Nat) : (convert 48 9 (.slice p 0 c)).run Tryz.prog w = .ok (.string ByteArray.empty) w := by
 rw [run_convert_bytes_string w 48 9 5 p 0 c Tryz.underlying48 Tryz.underlying5 Tryz.underlying9]
 cases p <;> simp [Conv.bytesToString, loadCells, loadCellsFrom]
theorem conv_bytes {w : World} {g : Nat} {v : Value} {bs : List Nat} (h : Bytes w g v bs) : (convert 48 9 v).run Tryz.prog w = .ok (.string (strOf bs)) w := by
 obtain ⟨a, c, rfl, h1, h2, h3⟩ := h
 rcases Nat.eq_zero_or_pos bs.length with h0 | h0
 · obtain rfl : bs = [] := List.eq_nil_of_length_eq_zero h0
   exact conv_zero w a c
 · obtain ⟨bg, bo, rfl, _, hc⟩ := h3 h0
   exact run_convert_bytes_arg w 48 5 Tryz.underlying48 Tryz.underlying5 bg bo bs.length c (bs.map fun (n : Nat) => (n : Int)) (by simp) (fun i hi => by
    rw [hc i hi]
    congr 2
    rw [List.getD_eq_getElem?_getD, List.getD_eq_getElem?_getD, List.getElem?_map, List.getElem?_eq_getElem hi]
    rfl) 9 Tryz.underlying9
set_option maxRecDepth 100000 in
theorem same_is (w : World) (va vb : Value) (a b : List Nat) (ha : Bytes w w.heap.size va a) (hb : Bytes w w.heap.size vb b) :
  Calls Tryz.prog 38 #[va, vb] w fun e w' => e = .returned (.bool (decide (a = b))) ∧ w' = w := by
 have h1 := conv_bytes ha
 have h2 := conv_bytes hb
 have ht : ((strOf a).toList == (strOf b).toList) = decide (a = b) := by
  obtain ⟨_, _, _, _, la, _⟩ := ha
  obtain ⟨_, _, _, _, lb, _⟩ := hb
  rw [Bool.eq_iff_iff, beq_iff_eq, decide_eq_true_eq]
  refine ⟨fun e => strOf_inj la lb ?_, fun e => by rw [e]⟩
  rw [ByteArray.toList_eq, ByteArray.toList_eq] at e
  exact ByteArray.ext (Array.toList_inj.1 e)
 have HT := Lib.hid ht
 clear ha hb ht
 go_enter Tryz.func38, Tryz.ntmps38
 go_wp2
 go_ret
 refine ⟨?_, rfl⟩
 rw [← HT.out]
 rfl
end Go.Proofs.YtknfbccbdiidjaaGreatDoor
/- The walk of CommitReads. -/
namespace Go.Proofs.YtknfbccbdiidjaaGreatDoor
set_option linter.unusedVariables false
set_option linter.unusedSimpArgs false
open Go.ChangeShapes Go.WideShapes Go.ChangeAt Go.RowKit Go.Maps

def tdL : Except Nat (List Rec) → List Rec
 | .ok rs => rs
 | .error _ => []
def tdX : Except Nat (List Rec) → Nat
 | .ok _ => 0
 | .error x => x
def wE1 (R : Except Nat (List Rec)) : Nat := if tdX R ≠ 0 then tdX R else if (tdL R).length ≠ 2 ∨ (rec_ (tdL R) 0).t ≠ 0 ∨ (rec_ (tdL R) 1).t ≠ 2 then 21 else 0
def wE2 (R : Except Nat (List Rec)) : Nat := if wE1 R = 0 then decE (rec_ (tdL R) 0).v else wE1 R
def wE3 (R : Except Nat (List Rec)) : Nat := if wE2 R = 0 then decE (rec_ (tdL R) 1).v else wE2 R
def wdE : Except Nat (List Nat × List Nat) → Nat
 | .ok _ => 0
 | .error x => x
theorem wE_is (b : List Nat) : wdE (wdec b) = wE3 (tdec b) := by
 unfold wdec
 cases h : tdec b with
 | error x =>
  have hx : x ≠ 0 := fun e => by subst e; exact tdec_nzC h
  have e1 : wE1 (.error x) = x := by
    show (if x ≠ 0 then x else _) = x
    rw [if_pos hx]
  have e2 : wE2 (.error x) = x := by unfold wE2; rw [e1, if_neg hx]
  unfold wE3
  rw [e2, if_neg hx]
  rfl
 | ok rs =>
  show wdE (wdR rs) = _
  unfold wdR
  by_cases h1 : rs.length ≠ 2 ∨ (rec_ rs 0).t ≠ 0 ∨ (rec_ rs 1).t ≠ 2
  · have e1 : wE1 (.ok rs) = 21 := by
      show (if (0 : Nat) ≠ 0 then 0 else if rs.length ≠ 2 ∨ (rec_ rs 0).t ≠ 0 ∨ (rec_ rs 1).t ≠ 2 then 21 else 0) = 21
      rw [if_neg (by decide), if_pos h1]
    have e2 : wE2 (.ok rs) = 21 := by unfold wE2; rw [e1, if_neg (by decide)]
    unfold wE3
    rw [e2, if_pos h1, if_neg (show ¬ (21 : Nat) = 0 by decide)]
    rfl
  · have e1 : wE1 (.ok rs) = 0 := by
      show (if (0 : Nat) ≠ 0 then 0 else if rs.length ≠ 2 ∨ (rec_ rs 0).t ≠ 0 ∨ (rec_ rs 1).t ≠ 2 then 21 else 0) = 0
      rw [if_neg (by decide), if_neg h1]
    have e2 : wE2 (.ok rs) = decE (rec_ rs 0).v := by unfold wE2; rw [e1, if_pos rfl]; rfl
    unfold wE3
    rw [e2, if_neg h1]
    show _ = if decE (rec_ rs 0).v = 0 then decE (rec_ rs 1).v else _
    by_cases h2 : decE (rec_ rs 0).v = 0
    · rw [if_neg (by omega), if_pos h2]
      by_cases h3 : decE (rec_ rs 1).v = 0
      · rw [if_neg (by omega), h3]; rfl
      · rw [if_pos h3]; rfl
    · rw [if_pos h2, if_neg h2]; rfl
theorem wE1_le (R : Except Nat (List Rec)) : wE1 R = 0 → tdX R = 0 ∧ (tdL R).length = 2 ∧ (rec_ (tdL R) 0).t = 0 ∧ (rec_ (tdL R) 1).t = 2 := by
 unfold wE1
 intro h
 by_cases h0 : tdX R ≠ 0
 · rw [if_pos h0] at h; exact absurd h h0
 · rw [if_neg h0] at h
   by_cases h1 : (tdL R).length ≠ 2 ∨ (rec_ (tdL R) 0).t ≠ 0 ∨ (rec_ (tdL R) 1).t ≠ 2
   · rw [if_pos h1] at h; cases h
   · exact ⟨by omega, by omega, by omega, by omega⟩
theorem dec_partsC (bs : List Nat) : (decE bs = 0 ∧ decP bs = .ok (decX bs) ∧ decB bs = bs.take 32) ∨ (decE bs ≠ 0 ∧ decX bs = [] ∧ decB bs = List.replicate 32 0) := by
 cases h : decP bs with
 | error e =>
  obtain ⟨h1, h2, h3⟩ := dec_err h
  right
  refine ⟨?_, h3, h2⟩
  rcases decP_errs h with e1 | e1 <;> rw [h1, e1] <;> decide
 | ok xs =>
  obtain ⟨h1, h2, h3⟩ := dec_okE h
  left
  exact ⟨h1, by rw [h3], h2⟩
theorem dec_zero {u : List Nat} (hu : ∀ y ∈ u, y < 256) (h : decE u = 0) : pbytes (decB u) (decX u) = u := by
 rcases dec_partsC u with ⟨_, h2, h3⟩ | ⟨h2, _⟩
 · rw [h3]; exact (dec_back hu h2).1
 · exact absurd h h2
theorem wdec_ok {b u v : List Nat} (hb : ∀ y ∈ b, y < 256) (h : wdec b = .ok (u, v)) : pbytes (decB u) (decX u) = u ∧ pbytes (decB v) (decX v) = v ∧ tvEnc [⟨0, u⟩, ⟨2, v⟩] = .ok b ∧ u.length ≤ 65536 ∧ v.length ≤ 65536 := by
 unfold wdec at h
 cases c : tdec b with
 | error e => rw [c] at h; cases h
 | ok rs =>
  rw [c] at h
  dsimp only at h
  unfold wdR at h
  by_cases h1 : rs.length ≠ 2 ∨ (rec_ rs 0).t ≠ 0 ∨ (rec_ rs 1).t ≠ 2
  · rw [if_pos h1] at h; cases h
  rw [if_neg h1] at h
  by_cases h2 : decE (rec_ rs 0).v ≠ 0
  · rw [if_pos h2] at h; cases h
  rw [if_neg h2] at h
  by_cases h3 : decE (rec_ rs 1).v ≠ 0
  · rw [if_pos h3] at h; cases h
  rw [if_neg h3] at h
  injection h with h
  injection h with e1 e2
  subst e1 e2
  have hv := tdec_lt hb c
  refine ⟨dec_zero (hv 0) (by omega), dec_zero (hv 1) (by omega), ?_⟩
  have h5 : rs.length = 2 := by omega
  have e : ([⟨0, (rec_ rs 0).v⟩, ⟨2, (rec_ rs 1).v⟩] : List Rec) = rs := by
    obtain ⟨x, y, rfl⟩ : ∃ x y, rs = [x, y] := by
     match rs, h5 with
     | [x, y], _ => exact ⟨x, y, rfl⟩
    have a1 : x.t = 0 := by
      have : (rec_ [x, y] 0).t = 0 := by omega
      exact this
    have a2 : y.t = 2 := by
      have : (rec_ [x, y] 1).t = 2 := by omega
      exact this
    show [(⟨0, x.v⟩ : Rec), ⟨2, y.v⟩] = [x, y]
    cases x; cases y
    simp_all
  rw [e]
  refine ⟨(enc_dec hb c).1, tdec_small c _ ?_, tdec_small c _ ?_⟩
  · unfold rec_; rw [List.getD_eq_getElem?_getD, List.getElem?_eq_getElem (by omega)]; exact List.getElem_mem _
  · unfold rec_; rw [List.getD_eq_getElem?_getD, List.getElem?_eq_getElem (by omega)]; exact List.getElem_mem _
theorem TdP.all {w w' : World} {R : Except Nat (List Rec)} {e : Ending} (h : TdP w R e w') : ∃ (ms : List RecM) (a : Option Addr) (c : Nat), e = .returned (.tuple #[.slice a ms.length c, .int .i64 (tdX R : Int)]) ∧ ms.map RecM.r = tdL R ∧ RecsAt w' a ms.length ms ∧ Below w.heap.size w w' := by
 cases R with
 | error x => exact ⟨[], none, 0, h.1, rfl, ⟨⟨rfl, fun x hx => (by cases hx), fun h => absurd h (Nat.lt_irrefl 0)⟩, fun x hx => (by cases hx)⟩, h.2⟩
 | ok rs =>
  obtain ⟨ms, a, c, h1, h2, h3, _, _, h4⟩ := h
  exact ⟨ms, a, c, h1, h2, h3, h4⟩
theorem WdP.all {w w' : World} {R : Except Nat (List Nat × List Nat)} {e : Ending} (h : WdP w R e w') : ∃ p q : Pf, e = .returned (.tuple #[.agg (waysC p q).toArray, .int .i64 (wdE R : Int)]) ∧ p.At w' ∧ q.At w' ∧ Below w.heap.size w w' ∧
  ((∃ x, R = .error x ∧ p = zPf ∧ q = zPf) ∨ ∃ u v, R = .ok (u, v) ∧ p.b = decB u ∧ p.xs = decX u ∧ q.b = decB v ∧ q.xs = decX v ∧ (∀ A, p.a = some A → w.heap.size ≤ A.block) ∧ (∀ A, q.a = some A → w.heap.size ≤ A.block)) := by
 cases R with
 | error x => exact ⟨zPf, zPf, h.2, zPf_at _, zPf_at _, h.1, .inl ⟨x, rfl, rfl, rfl⟩⟩
 | ok uv =>
  obtain ⟨h0, p, q, h1, h2, h3, h4, h5, h6, h7, h8, h9⟩ := h
  exact ⟨p, q, h1, h2, h3, h0, .inr ⟨uv.1, uv.2, rfl, h4, h5, h6, h7, h8, h9⟩⟩
theorem wdec_nz {b : List Nat} {x : Nat} (h : wdec b = .error x) : x ≠ 0 := by
 unfold wdec at h
 cases c : tdec b with
 | error e => rw [c] at h; cases h; intro e; subst e; exact tdec_nzC c
 | ok rs =>
  rw [c] at h
  dsimp only at h
  unfold wdR at h
  split at h
  · cases h; decide
  · split at h
    · rename_i h1
      cases h; exact h1
    · split at h
      · rename_i h1
        cases h; exact h1
      · cases h
theorem ways_off {v : World} {B : Nat} (h : Has v B 41 (waysC zPf zPf).toArray) : v.cell? ⟨B, 32, none⟩ = some (.slice none 0 0) ∧ v.cell? ⟨B, 65, none⟩ = some (.slice none 0 0) := ⟨h.cell_is rfl, h.cell_is rfl⟩
set_option maxRecDepth 100000 in
set_option maxHeartbeats 8000000 in
theorem commitReads_walk (w : World) (hT : Tabs KS SS w) (A : Option Addr) (n c : Nat) (b : List Nat) (hb : Bytes w w.heap.size (.slice A n c) b) :
   Calls Tryz.prog 7 #[.slice A n c] w fun e w' => e = .returned (.bool true) ∧ Below w.heap.size w w' := by
 have HB := Lib.hid hb
 have HNB := Lib.hid hb.openT.1
 have HBL := Lib.hid hb.openT.2.2.1
 obtain ⟨Z, hz, hzb, hzs, hzn⟩ := zero_ways
 clear hzb
 have HHD := Lib.hid (headC_is w hT)
 clear hb hT
 go_enter Tryz.func7, Tryz.ntmps7
 go_wp2_with fail
 refine HHD.out.mono ?_
 rintro _ w2 ⟨rfl, hb2⟩
 have HB2 := Lib.hid hb2
 clear hb2 HHD
 by_cases h5 : 9000 < n
 · have h5' : (9000 : Int) < (n : Int) := by omega
   go_wp2_with fail
   go_ret
   exact ⟨rfl, HB2.out⟩
 have h5' : ¬ (9000 : Int) < (n : Int) := by omega
 have HN := Lib.hid (show n ≤ 9000 by omega)
 have HCP := Lib.hid (copy_is w2 _ b (HB.out.alive HB2.out HB2.out.size) (by rw [← HNB.out]; omega))
 clear h5
 go_wp2_with fail
 refine HCP.out.mono ?_
 rintro _ w3 ⟨⟨am, cm, rfl, hown⟩, hb3⟩
 have hq3 := HB2.out.trans (hb3.mono HB2.out.size)
 obtain ⟨m, hm⟩ : ∃ m, m = b.length := ⟨_, rfl⟩
 have HM3 := Lib.hid (show Bytes w3 w3.heap.size (.slice am m cm) b by rw [hm]; exact own_bytes hown rfl HBL.out (Nat.le_refl _))
 have HQ3 := Lib.hid hq3
 obtain ⟨R, hR⟩ : ∃ R, R = wdec b := ⟨_, rfl⟩
 have HD := Lib.hid (coDec_is w3 am m cm b HM3.out (by rw [hm, ← HNB.out]; have := HN.out; omega))
 rw [← hR] at HD
 rw [← hm]
 have ER := Lib.hid hR
 clear hown hb3 hq3 HCP hR hm
 go_wp2_with fail
 refine HD.out.mono ?_
 intro e4 w4 hmm
 obtain ⟨p, q, he4, hp4, hq4, hb4, hcase⟩ := hmm.all
 obtain ⟨LW, hLW⟩ : ∃ L, L = waysC p q := ⟨_, rfl⟩
 obtain ⟨ex, hex⟩ : ∃ x, x = wdE R := ⟨_, rfl⟩
 rw [← hLW, ← hex] at he4
 subst he4
 have lx : LW.length = 66 := by rw [hLW]; exact waysC_len hp4.hash hq4.hash
 obtain ⟨h5, hb5⟩ := new_row w4 41 Z LW.toArray
 have SZW := Lib.hid (show (Tryz.prog.info? 41).map (·.size) = some LW.toArray.size by rw [List.size_toArray, lx]; kernel_rfl)
 have HZW := Lib.hid (show Z.size = LW.toArray.size by rw [hzs, List.size_toArray, lx])
 have HON := Lib.hid (show LW.toArray.all (·.oneCell') = true by rw [hLW]; exact waysC_one _ _)
 have ELW := Lib.hid hLW
 have EEX := Lib.hid hex
 have HCASE := Lib.hid hcase
 have HP4 := Lib.hid hp4
 have HQ4' := Lib.hid hq4
 have HQ4 := Lib.hid (HQ3.out.trans (hb4.mono HQ3.out.size))
 have HM4 := Lib.hid (HM3.out.alive hb4 hb4.size)
 have H5 := Lib.hid h5
 have HB5 := Lib.hid hb5
 clear hmm hb4 hp4 hq4 hcase hex hLW lx h5 hb5 HD HM3
 go_upto_region 7 with (refine wpList_store_row rfl 41 (.tmp 4) (.tmp 21) rfl w4.heap.size LW.toArray rfl rfl 41 Z (heap_alloc_new w4 _) SZW.out HZW.out HON.out ?_)
 obtain ⟨W5, hW5⟩ : ∃ W, W = (w4.alloc (.cells Z 41)).setRow w4.heap.size LW.toArray := ⟨_, rfl⟩
 rw [← hW5] at H5 HB5 ⊢
 obtain ⟨G1, hG1⟩ : ∃ g, g = w4.heap.size := ⟨_, rfl⟩
 have hq5 := HQ4.out.trans (HB5.out.mono HQ4.out.size)
 have HQ5 := Lib.hid hq5
 have HM5 := Lib.hid (HM4.out.alive HB5.out HB5.out.size)
 have HP5 := Lib.hid (HP4.out.below HB5.out)
 have HR5 := Lib.hid (HQ4'.out.below HB5.out)
 rw [← hG1] at H5 ⊢
 obtain ⟨T, hT⟩ : ∃ T, T = tdec b := ⟨_, rfl⟩
 have HD2 := Lib.hid (rzDec_is W5 A n c b (HB.out.alive hq5 hq5.size) (by have := HN.out; omega))
 rw [← hT] at HD2
 have ET := Lib.hid hT
 clear hW5 hG1 hq5 HM4 HB5 HP4 HQ4' hT
 go_wp2_with fail
 refine HD2.out.mono ?_
 intro e6 w6 hmm
 obtain ⟨ms, a6, c6, rfl, hms, hrecs, hb6⟩ := hmm.all
 obtain ⟨ml, hml⟩ : ∃ z, z = ms.length := ⟨_, rfl⟩
 obtain ⟨tx, htx⟩ : ∃ z, z = tdX T := ⟨_, rfl⟩
 rw [← hml] at hrecs
 rw [← hml, ← htx]
 have ETX := Lib.hid htx
 have HMS := Lib.hid hms.symm
 have HRECS := Lib.hid hrecs
 have EML := Lib.hid hml
 have HRL := Lib.hid (show (tdL T).length = ml by rw [← hms, List.length_map, hml])
 have HQ6 := Lib.hid (HQ5.out.trans (hb6.mono HQ5.out.size))
 have HM6 := Lib.hid (HM5.out.alive hb6 hb6.size)
 have H56 := Lib.hid (H5.out.below hb6 H5.out.lt)
 have HP6 := Lib.hid (HP5.out.below hb6)
 have HR6 := Lib.hid (HR5.out.below hb6)
 obtain ⟨E1, hE1⟩ : ∃ x, x = wE1 T := ⟨_, rfl⟩
 obtain ⟨E2, hE2⟩ : ∃ x, x = wE2 T := ⟨_, rfl⟩
 obtain ⟨E3, hE3⟩ : ∃ x, x = wE3 T := ⟨_, rfl⟩
 have HE1 := Lib.hid hE1
 have HE2 := Lib.hid hE2
 have HE3 := Lib.hid hE3
 have HX1 := Lib.hid (show E1 = if tx ≠ 0 then tx else if ml ≠ 2 ∨ (rec_ (tdL T) 0).t ≠ 0 ∨ (rec_ (tdL T) 1).t ≠ 2 then 21 else 0 by rw [hE1, htx, ← HRL.out]; rfl)
 have HX2 := Lib.hid (show E2 = if E1 = 0 then decE (rec_ (tdL T) 0).v else E1 by rw [hE2, hE1]; rfl)
 have HX3 := Lib.hid (show E3 = if E2 = 0 then decE (rec_ (tdL T) 1).v else E2 by rw [hE3, hE2]; rfl)
 have HEX := Lib.hid (show ex = E3 by rw [EEX.out, ER.out, wE_is, hE3, ET.out])
 have HONE := Lib.hid (show E1 = 0 → ml = 2 ∧ tx = 0 from fun h => by
   have := wE1_le T (by rw [← hE1]; exact h)
   exact ⟨by rw [← HRL.out]; exact this.2.1, by rw [htx]; exact this.1⟩)
 clear hmm hms hrecs hb6 hml htx hE1 hE2 hE3 HD2 HM5 H5 HQ5 HP5 HR5
 have HTWO := Lib.hid (show ml = 2 → ∃ lb lo, a6 = some ⟨lb, lo, none⟩ ∧ ∃ x0 x1 : RecM, ms[0]? = some x0 ∧ ms[1]? = some x1 ∧ rec_ (tdL T) 0 = x0.r ∧ rec_ (tdL T) 1 = x1.r ∧ w6.rangeAt lb (lo + 0 * 2) x0.cells ∧ w6.rangeAt lb (lo + 1 * 2) x1.cells from fun h => by
   have hr := HRECS.out
   obtain ⟨lb, lo, ha, hlb, _⟩ := hr.row.at_ (by omega)
   obtain ⟨x0, hx0⟩ : ∃ x, ms[0]? = some x := ⟨_, List.getElem?_eq_getElem (by rw [← EML.out]; omega)⟩
   obtain ⟨x1, hx1⟩ : ∃ x, ms[1]? = some x := ⟨_, List.getElem?_eq_getElem (by rw [← EML.out]; omega)⟩
   subst ha
   exact ⟨lb, lo, rfl, x0, x1, hx0, hx1, by unfold rec_; rw [HMS.out, List.getD_eq_getElem?_getD, List.getElem?_map, hx0]; rfl, by unfold rec_; rw [HMS.out, List.getD_eq_getElem?_getD, List.getElem?_map, hx1]; rfl, rec_rowC hr 0 x0 hx0, rec_rowC hr 1 x1 hx1⟩)
 have HSM := Lib.hid (show ∀ r ∈ tdL T, r.v.length ≤ 65536 from fun r hr => by
   cases hTT : T with
   | error e => rw [hTT] at hr; cases hr
   | ok rs => rw [hTT] at hr; exact tdec_small (ET.out.symm.trans hTT) r hr)
 have HBX := Lib.hid (show ∀ (i : Nat) (x : RecM), ms[i]? = some x → Bytes w6 w6.heap.size (.slice x.a x.v.length x.c) x.v ∧ x.v.length ≤ 65536 from fun i x hx => ⟨(HRECS.out.ok x (List.mem_of_getElem? hx)).b, HSM.out x.r (by rw [HMS.out]; exact List.mem_map_of_mem (List.mem_of_getElem? hx))⟩)
 obtain ⟨cnd, hcnd⟩ : ∃ b, b = decide (tx = 0 ∧ (ml ≠ 2 ∨ (rec_ (tdL T) 0).t ≠ 0 ∨ (rec_ (tdL T) 1).t ≠ 2)) := ⟨_, rfl⟩
 have HCND := Lib.hid hcnd
 clear hcnd
 go_upto_region 9 with (fail)
 go_cut [49] from 29 (fun v49 wx => v49 = .bool cnd ∧ wx = w6)
 case first =>
   by_cases t0 : tx = 0
   · have h30 : ((tx : Int) == 0) = true := by rw [beq_iff_eq]; omega
     by_cases m2 : ml = 2
     · obtain ⟨lb, lo, rfl, x0, x1, hx0, hx1, er0, er1, r0, r1⟩ := HTWO.out m2
       have h34 : ((ml : Int) != 2) = false := by rw [bne_eq_false_iff_eq]; omega
       obtain ⟨o0, ho0⟩ : ∃ o, o = lo + 0 * 2 := ⟨_, rfl⟩
       obtain ⟨o1, ho1⟩ : ∃ o, o = lo + 1 * 2 := ⟨_, rfl⟩
       rw [← ho0] at r0
       rw [← ho1] at r1
       have hat0 : ∀ v, (Instr.indexAt 84 (.slice (some ⟨lb, lo, none⟩) ml c6) (.int .i64 0)).run Tryz.prog v = .ok (.pointer (some ⟨lb, o0, none⟩)) v := fun v => by rw [ho0]; exact at_rrec lb lo ml c6 0 (by omega) v
       have hat1 : ∀ v, (Instr.indexAt 84 (.slice (some ⟨lb, lo, none⟩) ml c6) (.int .i64 1)).run Tryz.prog v = .ok (.pointer (some ⟨lb, o1, none⟩)) v := fun v => by rw [ho1]; exact at_rrec lb lo ml c6 1 (by omega) v
       obtain ⟨k0, hk0⟩ : ∃ k, k = x0.t := ⟨_, rfl⟩
       obtain ⟨k1, hk1⟩ : ∃ k, k = x1.t := ⟨_, rfl⟩
       have c00 : w6.cell? ⟨lb, o0, none⟩ = some (.int .u64 (k0 : Int)) := by rw [hk0]; exact r0 0 _ rfl
       have c10 : w6.cell? ⟨lb, o1, none⟩ = some (.int .u64 (k1 : Int)) := by rw [hk1]; exact r1 0 _ rfl
       have HEE := Lib.hid (show cnd = decide (k0 ≠ 0 ∨ k1 ≠ 2) by
         rw [HCND.out, decide_eq_decide, er0, er1, hk0, hk1]
         show tx = 0 ∧ (ml ≠ 2 ∨ x0.t ≠ 0 ∨ x1.t ≠ 2) ↔ _
         omega)
       clear ho0 ho1 r0 r1 hk0 hk1 hx0 hx1 er0 er1 t0 m2
       by_cases q0 : k0 = 0
       · have q0' : ((k0 : Int) != 0) = false := by rw [bne_eq_false_iff_eq]; omega
         by_cases q1 : k1 = 2
         · have q1' : ((k1 : Int) != 2) = false := by rw [bne_eq_false_iff_eq]; omega
           have HE := Lib.hid (show cnd = false by rw [HEE.out, decide_eq_false_iff_not]; omega)
           clear q0 q1
           go_wp2_with fail
           go_meet
           case rel => exact ⟨by rw [HE.out], rfl⟩
         · have q1' : ((k1 : Int) != 2) = true := by rw [bne_iff_ne]; omega
           have HE := Lib.hid (show cnd = true by rw [HEE.out, decide_eq_true_eq]; omega)
           clear q0 q1
           go_wp2_with fail
           go_meet
           case rel => exact ⟨by rw [HE.out], rfl⟩
       · have q0' : ((k0 : Int) != 0) = true := by rw [bne_iff_ne]; omega
         have HE := Lib.hid (show cnd = true by rw [HEE.out, decide_eq_true_eq]; omega)
         clear q0
         go_wp2_with fail
         go_meet
         case rel => exact ⟨by rw [HE.out], rfl⟩
     · have h34 : ((ml : Int) != 2) = true := by rw [bne_iff_ne]; omega
       have HE := Lib.hid (show cnd = true by rw [HCND.out, decide_eq_true_eq]; exact ⟨t0, .inl m2⟩)
       clear t0 m2
       go_wp2_with fail
       go_meet
       case rel => exact ⟨by rw [HE.out], rfl⟩
   · have h30 : ((tx : Int) == 0) = false := by rw [beq_eq_false_iff_ne]; omega
     have HE := Lib.hid (show cnd = false by rw [HCND.out, decide_eq_false_iff_not]; exact fun h => t0 h.1)
     clear t0
     go_wp2_with fail
     go_meet
     case rel => exact ⟨by rw [HE.out], rfl⟩
 case rest =>
 obtain ⟨rfl, hw⟩ := hcut
 replace hw := hw.symm
 subst hw
 go_upto_if 49 with (fail)
 go_cut [8] from 28 (fun v8 wx => v8 = .int .i64 (E1 : Int) ∧ wx = w6)
 case first =>
   cases cnd with
   | true =>
     have HE := Lib.hid (show E1 = 21 by
       have h := of_decide_eq_true HCND.out.symm
       rw [HX1.out, if_neg (by omega), if_pos h.2])
     go_wp2_with fail
     go_meet
     case rel => exact ⟨by rw [HE.out]; rfl, rfl⟩
   | false =>
     have HE := Lib.hid (show E1 = tx by
       have h := of_decide_eq_false HCND.out.symm
       rw [HX1.out]
       by_cases t0 : tx = 0
       · rw [if_neg (by omega), if_neg (fun e => h ⟨t0, e⟩), t0]
       · rw [if_pos t0])
     go_wp2_with fail
     go_meet
     case rel => exact ⟨by rw [HE.out], rfl⟩
 case rest =>
 obtain ⟨rfl, hw⟩ := hcut
 replace hw := hw.symm
 subst hw
 go_upto_if 51 with (fail)
 go_cut [8] from 28 (fun v8 wx => v8 = .int .i64 (E2 : Int) ∧ Below w6.heap.size w6 wx)
 case first =>
   by_cases z : E1 = 0
   · have h51 : ((E1 : Int) == 0) = true := by rw [beq_iff_eq]; omega
     obtain ⟨m2, -⟩ := HONE.out z
     obtain ⟨lb, lo, rfl, x0, x1, hx0, hx1, er0, er1, r0, r1⟩ := HTWO.out m2
     obtain ⟨o0, ho0⟩ : ∃ o, o = lo + 0 * 2 := ⟨_, rfl⟩
     rw [← ho0] at r0
     have hat0 : ∀ v, (Instr.indexAt 84 (.slice (some ⟨lb, lo, none⟩) ml c6) (.int .i64 0)).run Tryz.prog v = .ok (.pointer (some ⟨lb, o0, none⟩)) v := fun v => by rw [ho0]; exact at_rrec lb lo ml c6 0 (by omega) v
     obtain ⟨V0, hV0⟩ : ∃ L, L = x0.v := ⟨_, rfl⟩
     obtain ⟨n0, hn0⟩ : ∃ L, L = V0.length := ⟨_, rfl⟩
     obtain ⟨a0, ha0⟩ : ∃ y, y = x0.a := ⟨_, rfl⟩
     obtain ⟨j0, hj0⟩ : ∃ y, y = x0.c := ⟨_, rfl⟩
     have c01 : w6.cell? ⟨lb, o0 + 1, none⟩ = some (.slice a0 n0 j0) := by rw [hn0, hV0, ha0, hj0]; exact r0 1 _ rfl
     have B0 := (HBX.out 0 x0 hx0).1
     rw [← hV0, ← hn0, ← ha0, ← hj0] at B0
     have HDC := Lib.hid (decode_is w6 _ V0 B0 (by have := (HBX.out 0 x0 hx0).2; rw [hV0]; omega))
     have HE := Lib.hid (show E2 = decE V0 by rw [HX2.out, if_pos z, er0, hV0]; rfl)
     clear z m2 hx0 hx1 er0 er1 r0 r1 ho0 hV0 hn0 ha0 hj0 B0
     go_wp2_with fail
     refine HDC.out.mono ?_
     rintro _ w7 ⟨pa, pc, rfl, hnd, hA, hb7⟩
     obtain ⟨LP, hLP⟩ : ∃ L, L = pcells (decB V0) pa (decX V0).length pc := ⟨_, rfl⟩
     obtain ⟨E0, hE0⟩ : ∃ n, n = decE V0 := ⟨_, rfl⟩
     rw [← hLP, ← hE0]
     have HR := Lib.hid (And.intro (show E2 = E0 by rw [HE.out, hE0]) hb7)
     clear hLP hE0 hnd hA hb7
     go_wp2_with fail
     go_meet
     case rel => exact ⟨by rw [HR.out.1], HR.out.2⟩
   · have h51 : ((E1 : Int) == 0) = false := by rw [beq_eq_false_iff_ne]; omega
     have HE := Lib.hid (show E2 = E1 by rw [HX2.out, if_neg z])
     clear z
     go_wp2_with fail
     go_meet
     case rel => exact ⟨by rw [HE.out], Below.refl _ _⟩
 case rest =>
 obtain ⟨w7, hw7⟩ : ∃ x, x = wc := ⟨_, rfl⟩
 subst hw7
 obtain ⟨rfl, hb7⟩ := hcut
 have HB7 := Lib.hid hb7
 clear hb7
 go_upto_if 61 with (fail)
 go_cut [8] from 28 (fun v8 wx => v8 = .int .i64 (E3 : Int) ∧ Below w6.heap.size w6 wx)
 case first =>
   by_cases z : E2 = 0
   · have h51 : ((E2 : Int) == 0) = true := by rw [beq_iff_eq]; omega
     have z1 : E1 = 0 := by
       have := HX2.out
       by_cases h : E1 = 0
       · exact h
       · rw [if_neg h] at this; omega
     obtain ⟨m2, -⟩ := HONE.out z1
     obtain ⟨lb, lo, rfl, x0, x1, hx0, hx1, er0, er1, r0, r1⟩ := HTWO.out m2
     obtain ⟨o0, ho0⟩ : ∃ o, o = lo + 1 * 2 := ⟨_, rfl⟩
     rw [← ho0] at r1
     have hat0 : ∀ v, (Instr.indexAt 84 (.slice (some ⟨lb, lo, none⟩) ml c6) (.int .i64 1)).run Tryz.prog v = .ok (.pointer (some ⟨lb, o0, none⟩)) v := fun v => by rw [ho0]; exact at_rrec lb lo ml c6 1 (by omega) v
     obtain ⟨V0, hV0⟩ : ∃ L, L = x1.v := ⟨_, rfl⟩
     obtain ⟨n0, hn0⟩ : ∃ L, L = V0.length := ⟨_, rfl⟩
     obtain ⟨a0, ha0⟩ : ∃ y, y = x1.a := ⟨_, rfl⟩
     obtain ⟨j0, hj0⟩ : ∃ y, y = x1.c := ⟨_, rfl⟩
     have c01 : w7.cell? ⟨lb, o0 + 1, none⟩ = some (.slice a0 n0 j0) := cell_kept (Kept.of_below (S := fun _ => False) HB7.out) (by rw [hn0, hV0, ha0, hj0]; exact r1 1 _ rfl) (fun h => h)
     have B0 := bytes_up (HBX.out 1 x1 hx1).1 HB7.out
     rw [← hV0, ← hn0, ← ha0, ← hj0] at B0
     have HDC := Lib.hid (decode_is w7 _ V0 B0 (by have := (HBX.out 1 x1 hx1).2; rw [hV0]; omega))
     have HE := Lib.hid (show E3 = decE V0 by rw [HX3.out, if_pos z, er1, hV0]; rfl)
     clear z z1 m2 hx0 hx1 er0 er1 r0 r1 ho0 hV0 hn0 ha0 hj0 B0
     go_wp2_with fail
     refine HDC.out.mono ?_
     rintro _ w8 ⟨pa, pc, rfl, hnd, hA, hb8⟩
     obtain ⟨LP, hLP⟩ : ∃ L, L = pcells (decB V0) pa (decX V0).length pc := ⟨_, rfl⟩
     obtain ⟨E0, hE0⟩ : ∃ n, n = decE V0 := ⟨_, rfl⟩
     rw [← hLP, ← hE0]
     have HR := Lib.hid (And.intro (show E3 = E0 by rw [HE.out, hE0]) (HB7.out.trans (hb8.mono HB7.out.size)))
     clear hLP hE0 hnd hA hb8
     go_wp2_with fail
     go_meet
     case rel => exact ⟨by rw [HR.out.1], HR.out.2⟩
   · have h51 : ((E2 : Int) == 0) = false := by rw [beq_eq_false_iff_ne]; omega
     have HE := Lib.hid (show E3 = E2 by rw [HX3.out, if_neg z])
     clear z
     go_wp2_with fail
     go_meet
     case rel => exact ⟨by rw [HE.out], HB7.out⟩
 case rest =>
 obtain ⟨w8, hw8⟩ : ∃ x, x = wc := ⟨_, rfl⟩
 subst hw8
 obtain ⟨rfl, hb8⟩ := hcut
 have HB8 := Lib.hid hb8
 have HQ8 := Lib.hid (HQ6.out.trans (hb8.mono HQ6.out.size))
 have HM8 := Lib.hid (HM6.out.alive hb8 hb8.size)
 have HI8 := Lib.hid (show Bytes w8 w8.heap.size (.slice A n c) b from HB.out.alive HQ8.out HQ8.out.size)
 have H8 := Lib.hid (H56.out.below hb8 H56.out.lt)
 have HP8 := Lib.hid (HP6.out.below hb8)
 have HR8 := Lib.hid (HR6.out.below hb8)
 have h72 : ((ex : Int) != (E3 : Int)) = false := by rw [bne_eq_false_iff_eq, HEX.out]
 have HSA := Lib.hid (show Calls Tryz.prog 38 #[.slice am m cm, .slice A n c] w8 fun e w' => e = .returned (.bool true) ∧ w' = w8 from by
   have := same_is w8 _ _ b b HM8.out HI8.out
   rw [decide_eq_true rfl] at this
   exact this)
 clear hb8
 go_wp2_with fail
 refine HSA.out.mono ?_
 rintro _ x9 ⟨rfl, hx9⟩
 replace hx9 := hx9.symm
 subst hx9
 clear h72
 rcases HCASE.out with ⟨x, hR, hp, hq⟩ | ⟨u, v, hR, hp, hpx, hq, hqx, -⟩
 · have hnx := wdec_nz (ER.out.symm.trans hR)
   have hex : ex = x := by rw [EEX.out, hR]; rfl
   have hx2 : ((ex : Int) != 0) = true := by rw [bne_iff_ne, hex]; omega
   have hw := H8.out
   rw [ELW.out, hp, hq] at hw
   have c32 := (ways_off hw).1
   have c65 := (ways_off hw).2
   clear hR hp hq hnx hex hw
   go_wp2_with fail
   go_ret
   exact ⟨rfl, HQ8.out⟩
 · have hex : ex = 0 := by rw [EEX.out, hR]; rfl
   have hx2 : ((ex : Int) != 0) = false := by rw [hex]; rfl
   obtain ⟨k1, k2, k3, k4, k5⟩ := wdec_ok HBL.out (ER.out.symm.trans hR)
   have HEN := Lib.hid (coEnc_is w8 p q HP8.out HR8.out (by rw [← HP8.out.nodes.len, hpx]; exact decX_len u k4) (by rw [← HR8.out.nodes.len, hqx]; exact decX_len v k5) b (by
     unfold waysR
     rw [hp, hpx, hq, hqx, k1, k2]
     exact k3))
   rw [← ELW.out] at HEN
   clear hR hex k1 k2 k3 k4 k5 hp hpx hq hqx
   go_wp2_with (refine wpList_load_row rfl 41 (.tmp 4) rfl G1 rfl 41 LW.toArray (0, 0) _ H8.out Tryz.underlying41 rfl SZW.out ?_)
   refine HEN.out.mono ?_
   intro e9 w9 hmm
   obtain ⟨v9, rfl, ⟨sa, sc, rfl, ho9⟩, hb9⟩ := (show ∃ v', e9 = .returned (.tuple #[v', .int .i64 0]) ∧ BigW _ _ b v' w9 from hmm)
   have HS9 := Lib.hid (HQ8.out.trans (hb9.mono HQ8.out.size))
   have HSM9 := Lib.hid (show Calls Tryz.prog 38 #[.slice A n c, .slice sa b.length sc] w9 fun e w' => e = .returned (.bool true) ∧ w' = w9 from by
     have := same_is w9 _ _ b b (HB.out.alive HS9.out HS9.out.size) (own_bytes ho9 rfl HBL.out (Nat.le_refl _))
     rw [decide_eq_true rfl] at this
     exact this)
   clear hmm ho9 hb9
   go_wp2_with fail
   refine HSM9.out.mono ?_
   rintro _ x10 ⟨rfl, hx10⟩
   replace hx10 := hx10.symm
   subst hx10
   go_wp2_with fail
   go_ret
   exact ⟨rfl, HS9.out⟩
end Go.Proofs.YtknfbccbdiidjaaGreatDoor
/- How slices of structs among the arguments are read. -/
namespace Go.Proofs.YtknfbccbdiidjaaGreatDoor
set_option linter.unusedVariables false
set_option linter.unusedSimpArgs false
open Go.ChangeShapes Go.WideShapes Go.ChangeAt Go.RowKit

section
variable {H : Type} {enc : TypeId × Value → H} {P : Program} {w : World} {base : Nat} {spare : Nat → Bool} {held : Bool} {t e m : Nat} {cs : List Value} {y : Option (DataW H × List MemPlace)}

theorem take_one (cs : List Value) (i : Nat) (h : i < cs.length) : (cs.drop i).take 1 = [cs[i]] := by
 rw [List.drop_eq_getElem_cons h, List.take_succ_cons, List.take_zero]

end
end Go.Proofs.YtknfbccbdiidjaaGreatDoor

/- How bytes, digests, a leaf and a node are read off the arguments. -/
namespace Go.Proofs.YtknfbccbdiidjaaGreatDoor
set_option linter.unusedVariables false
set_option linter.unusedSimpArgs false
open Go.ChangeShapes Go.WideShapes Go.ChangeAt Go.RowKit Go.Maps

section
variable {H : Type} {enc : TypeId × Value → H} {P : Program} {w : World} {base : Nat} {spare : Nat → Bool} {held : Bool}
theorem open_bytes {t e m : Nat} {A : Option Addr} {n c : Nat} {z : DataW H × List MemPlace} (ht : P.underlying t = some (.slice e)) (he : P.underlying e = some (.int .u8)) (h1 : P.cellsOf e = 1) (h : DataW.trod enc P w base spare held m t [.slice A n c] = some z) :
   ∃ bs : List Nat, bs.length = n ∧ n ≤ 9223372036854775807 ∧ Bytes w w.heap.size (.slice A n c) bs := by
 rcases Deep.open_slice1 ht h1 h with ⟨e0, _⟩ | ⟨a, len, cap, m2, n2, V, D, Pl, e0, hb, hl, hm, hmm, _, hall⟩
 · injection e0 with e0 _
   injection e0 with e1 e2 e3
   subst e1; subst e2; subst e3
   exact ⟨[], rfl, by decide, none, 0, rfl, Nat.le_refl _, (fun x hx => by cases hx), fun h => absurd h (by decide)⟩
 · injection e0 with e0 _
   injection e0 with e1 e2 e3
   subst e1; subst e2; subst e3
   have hnm : n ≤ m2 := by rw [hmm]; split <;> omega
   have hV : ∀ i, i < n → ∃ x : Nat, V i = .int .u8 (x : Int) ∧ x < 256 := fun i hi => by
     obtain ⟨x, hx, _, hw⟩ := DataW.trod_int he (hall i (by omega)).2
     injection hx with hx _
     have hb := bounds_u8 hw
     exact ⟨x.toNat, by rw [hx, Int.toNat_of_nonneg hb.1], by omega⟩
   refine ⟨(List.range n).map fun i => u8Of (V i), by simp, by unfold maxLen at hm; omega, some a, c, by simp, by simpa using hl, fun x hx => ?_, fun h0 => ?_⟩
   · obtain ⟨i, hi, rfl⟩ := List.mem_map.1 hx
     obtain ⟨y, hy, hlt⟩ := hV i (List.mem_range.1 hi)
     rw [hy]
     simpa [u8Of] using hlt
   · have hn0 : 0 < n := by simpa using h0
     have hc0 := (hall 0 (by omega)).1
     have ea : a.add 0 = a := by simp [Addr.add]
     rw [ea] at hc0
     have hlt := World.block_lt_of_cell? w _ hc0
     have hsp : a.spot = none := by
      unfold World.cell? at hc0
      split at hc0
      · split at hc0
        · cases hc0
        · rename_i hs
          cases hsp : a.spot
          · rfl
          · rw [hsp] at hs; simp at hs
      · cases hc0
     refine ⟨a.block, a.off, by cases a; simp at hsp; simp [hsp], by omega, fun i hi => ?_⟩
     have hi' : i < n := by simpa using hi
     obtain ⟨y, hy, hyl⟩ := hV i hi'
     have hc := (hall i (by omega)).1
     rw [hy] at hc
     have e3 : a.add i = ⟨a.block, a.off + i, none⟩ := by
      cases a
      simp at hsp
      subst hsp
      unfold Addr.add
      by_cases h1 : i = 0 <;> simp [h1]
     rw [e3] at hc
     rw [hc]
     simp [List.getD, hi', hy, u8Of]
end
section
variable {H : Type} {enc : TypeId × Value → H} {w : World} {base : Nat} {spare : Nat → Bool} {held : Bool}
end
end Go.Proofs.YtknfbccbdiidjaaGreatDoor

/- How slices of structs are read off the arguments; nodes, a proof. -/
namespace Go.Proofs.YtknfbccbdiidjaaGreatDoor
set_option linter.unusedVariables false
set_option linter.unusedSimpArgs false
open Go.ChangeShapes Go.WideShapes Go.ChangeAt Go.RowKit Go.Maps

section
variable {H : Type} {enc : TypeId × Value → H} {w : World} {base : Nat} {spare : Nat → Bool} {held : Bool}
end
end Go.Proofs.YtknfbccbdiidjaaGreatDoor
