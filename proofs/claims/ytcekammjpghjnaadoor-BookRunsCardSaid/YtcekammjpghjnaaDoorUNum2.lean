/- The walks of the reference's numbers: trim, Of, Num. -/
import Derived.Test.YtcekammjpghjnaaDoorWs
import Derived.Test.YtcekammjpghjnaaDoorURef1
import Derived.Test.YtcekammjpghjnaaDoorUNum1
import Derived.Test.YtcekammjpghjnaaDoorUMem
import Derived.Test.YtcekammjpghjnaaDoorUMap4
namespace Go.Proofs.YtcekammjpghjnaaDoor
set_option linter.unusedVariables false
set_option linter.unusedSimpArgs false
open Go.ChangeShapes Go.WideShapes Go.ChangeAt Go.RowKit Go.Maps

def icells (ds : List Nat) : List Value := ds.map fun (n : Nat) => Value.int .i64 (n : Int)
theorem icells_length (ds : List Nat) : (icells ds).length = ds.length := by simp [icells]
theorem icells_get (ds : List Nat) (i : Nat) (h : i < ds.length) : (icells ds)[i]? = some (.int .i64 (ds.getD i 0 : Nat)) := by
 simp [icells, h]
theorem icells_one (ds : List Nat) : ∀ v ∈ icells ds, v.oneCell' = true := fun v hv => by
 obtain ⟨n, _, rfl⟩ := List.mem_map.1 hv; rfl
structure DigAt (w : World) (a : Option Addr) (n c : Nat) (ds : List Nat) : Prop where
 len : ds.length = n
 cap : n ≤ c
 at_ : 0 < n → ∃ b o, a = some ⟨b, o, none⟩ ∧ b < w.heap.size ∧ ∀ i, i < n → w.cell? ⟨b, o + i, none⟩ = some (.int .i64 (ds.getD i 0 : Nat))
def IsD (w : World) (v : Value) (ds : List Nat) : Prop := ∃ a c, v = .slice a ds.length c ∧ DigAt w a ds.length c ds
theorem DigAt.kept {S : Nat → Prop} {w w' : World} {a : Option Addr} {n c : Nat} {ds : List Nat} (h : DigAt w a n c ds) (hk : Kept S w w') (hs : ∀ b o, a = some ⟨b, o, none⟩ → ¬ S b) : DigAt w' a n c ds :=
 ⟨h.len, h.cap, fun hn => by
  obtain ⟨b, o, e, hb, hr⟩ := h.at_ hn
  exact ⟨b, o, e, by have := hk.size; omega, fun i hi => by
   have h1 := hr i hi
   have := World.block_lt_of_cell? w _ h1
   unfold World.cell? at h1 ⊢
   rw [hk.block _ this (hs b o e)]; exact h1⟩⟩
theorem DigAt.below {w w' : World} {a : Option Addr} {n c : Nat} {ds : List Nat} (h : DigAt w a n c ds) (hb : Below w.heap.size w w') : DigAt w' a n c ds := h.kept (S := fun _ => False) (Kept.of_below hb) (fun _ _ _ h => h)
theorem IsD.below {w w' : World} {v : Value} {ds : List Nat} (h : IsD w v ds) (hb : Below w.heap.size w w') : IsD w' v ds := by
 obtain ⟨a, c, e, h⟩ := h
 exact ⟨a, c, e, h.below hb⟩
theorem DigAt.of_own {w : World} {base n : Nat} {v : Value} {ds : List Nat} (h : w.ownsRow base 3 1 v n (icells ds)) (hn : ds.length = n) : IsD w v ds := by
 rcases h.2 with ⟨rfl, h0⟩ | ⟨g, cap, cur, rfl, hB, hh, h1, h2, h3, h4⟩
 · have e : ds = [] := List.eq_nil_of_length_eq_zero (by omega)
   subst e
   exact ⟨none, 0, rfl, rfl, Nat.le_refl _, fun h => absurd h (by decide)⟩
 · refine ⟨some ⟨g, 0, none⟩, cap, by rw [hn], rfl, by omega, fun h0 => ⟨g, 0, rfl, (Array.getElem?_eq_some_iff.1 hh).1, fun i hi => ?_⟩⟩
   have hg : Has w g 3 cur := hh
   refine hg.cell_is ?_
   rw [Nat.zero_add, ← Array.getElem?_toList]
   have e2 : cur.toList[i]? = (cur.toList.take (n * 1))[i]? := by rw [List.getElem?_take_of_lt (by omega)]
   rw [e2, h4]
   exact icells_get ds i hi
def lenD : Value → Nat
 | .slice _ n _ => n
 | _ => 0
theorem size_int (w : World) : (sizeOf 3).run Tryd.prog w = .ok 1 w := by kernel_rfl
theorem info_int : (Tryd.prog.info? 3).map (fun i => (i.zero, i.size, i.bytes)) = some (some (.int .i64 0), 1, 8) := by kernel_rfl
theorem DigAt.cut {w : World} {a : Option Addr} {n c : Nat} {ds : List Nat} (h : DigAt w a n c ds) (p : Nat) (hp : p ≤ n) :
  ∃ a1, (∀ w', (Instr.slice 101 (.slice a n c) none (some (.int .i64 (p : Int))) none).run Tryd.prog w' = .ok (.slice a1 p c) w') ∧ DigAt w a1 p c (ds.take p) := by
 have hu : Tryd.prog.underlying 101 = some (.slice (Tryd.prog.elem 101)) := by kernel_rfl
 have he : Tryd.prog.elem 101 = 3 := by kernel_rfl
 have hc := h.cap
 have hr : ∀ w', (Instr.slice 101 (.slice a n c) none (some (.int .i64 (p : Int))) none).run Tryd.prog w' = .ok (.slice (if c = 0 then a else a.map (·.add 0)) p c) w' := fun w' => by
  rw [run_slice_h w' 101 a n c hu .i64 (p : Int) (by omega) (by omega), he, size_int]
  simp only [Result.andThen, sliced, Int.toNat_natCast, Nat.zero_mul, Nat.sub_zero]
 refine ⟨_, hr, by rw [List.length_take, h.len]; omega, by omega, fun h0 => ?_⟩
 obtain ⟨b, o, rfl, hb, hcl⟩ := h.at_ (by omega)
 refine ⟨b, o, by rw [if_neg (by omega), Option.map_some, Addr.add_mid, Nat.add_zero], hb, fun i hi => ?_⟩
 rw [hcl i (by omega), List.getD_eq_getElem?_getD, List.getD_eq_getElem?_getD, List.getElem?_take_of_lt hi]
theorem at_dig (b o n c k : Nat) (hk : k < n) (w : World) : (Instr.indexAt 101 (.slice (some ⟨b, o, none⟩) n c) (.int .i64 (k : Int))).run Tryd.prog w = .ok (.pointer (some ⟨b, o + k, none⟩)) w := by
 have hu : Tryd.prog.underlying 101 = some (.slice (Tryd.prog.elem 101)) := by kernel_rfl
 have he : Tryd.prog.elem 101 = 3 := by kernel_rfl
 rw [run_indexAt_slice w 101 ⟨b, o, none⟩ n c .i64 (k : Int) hu, if_pos ⟨by omega, by omega⟩, he, size_int]
 simp only [Result.andThen, Int.toNat_natCast, Nat.mul_one, Addr.add_mid]

set_option maxRecDepth 100000 in
theorem trim_is (w : World) (a : Option Addr) (n c : Nat) (ds : List Nat) (hd : DigAt w a n c ds) (hn : n ≤ 1000000) (hlt : ∀ d ∈ ds, d < 256) :
  Calls Tryd.prog 61 #[.slice a n c] w fun e w' => (∃ v', e = .returned v' ∧ IsD w' v' (digs (valD ds))) ∧ w' = w := by
 have HD := Lib.hid hd
 have HLT := Lib.hid hlt
 clear hd hlt
 go_enter Tryd.func61, Tryd.ntmps61
 go_wp2_with fail
 go_loopw [0] (fun v wr => ∃ a' k, v = .slice a' k c ∧ k ≤ n ∧ DigAt w a' k c (ds.take k) ∧ valD (ds.take k) = valD ds ∧ wr = w) (fun v _ => lenD v)
 case atStart => exact ⟨a, n, rfl, Nat.le_refl _, by rw [List.take_of_length_le (by rw [HD.out.len]; exact Nat.le_refl _)]; exact HD.out, by rw [List.take_of_length_le (by rw [HD.out.len]; exact Nat.le_refl _)], rfl⟩
 case round =>
  obtain ⟨a', k, rfl, hk, hda, hv, rfl⟩ := hrel
  have HDA := Lib.hid hda
  have HV := Lib.hid hv
  clear hda hv
  rcases Nat.eq_zero_or_pos k with h0 | h0
  · subst h0
    go_wp2
    go_ret
    have e : digs (valD ds) = [] := by rw [← HV.out]; exact digs_zero
    rw [e]
    exact ⟨⟨_, rfl, a', c, rfl, HDA.out⟩, rfl⟩
  · obtain ⟨m, rfl⟩ : ∃ m, k = m + 1 := ⟨k - 1, by omega⟩
    obtain ⟨b, o, ha, hb, hcl⟩ := HDA.out.at_ (by omega)
    subst ha
    have hc0 := hcl m (by omega)
    have hg : (ds.take (m + 1)).getD m 0 = ds.getD m 0 := by
      rw [List.getD_eq_getElem?_getD, List.getD_eq_getElem?_getD, List.getElem?_take_of_lt (by omega)]
    rw [hg] at hc0
    have hat := at_dig b o (m + 1) c m (by omega)
    obtain ⟨d, hdd⟩ : ∃ d, d = ds.getD m 0 := ⟨_, rfl⟩
    rw [← hdd] at hc0
    have hlen : (0 : Int) < ((m + 1 : Nat) : Int) := by omega
    have hw : wrap64 (((m + 1 : Nat) : Int) - 1) = (m : Int) := by unfold wrap64; omega
    obtain ⟨a1, hcut, hda1⟩ := HDA.out.cut m (by omega)
    have HDA1 := Lib.hid hda1
    have HDD := Lib.hid hdd
    clear hda1 hcl hg hdd
    by_cases hz : d = 0
    · have hz' : (d : Int) = 0 := by omega
      go_wp2
      go_roundw
      case rel =>
       refine ⟨a1, m, rfl, by omega, ?_, ?_, by first | rfl | trivial⟩
       · have := HDA1.out
         rwa [List.take_take, Nat.min_eq_left (by omega)] at this
       · rw [← HV.out, val_take ds m (by have := HD.out.len; omega) (by rw [← HDD.out]; exact hz)]
      case measure => simp [lenD]
    · have hz' : ¬ (d : Int) = 0 := by omega
      go_wp2
      go_ret
      have e : digs (valD ds) = ds.take (m + 1) := by
       rw [← HV.out]
       refine val_digs _ (fun x hx => HLT.out x (List.mem_of_mem_take hx)) (fun _ => ?_)
       have hl : (ds.take (m + 1)).length = m + 1 := by rw [List.length_take, HD.out.len]; omega
       rw [hl, Nat.add_sub_cancel, List.getD_eq_getElem?_getD, List.getElem?_take_of_lt (by omega), ← List.getD_eq_getElem?_getD, ← HDD.out]
       exact hz
      have hl : (digs (valD ds)).length = m + 1 := by rw [e, List.length_take, HD.out.len]; omega
      exact ⟨⟨_, rfl, _, c, by rw [hl]; rfl, by rw [hl, e]; exact HDA.out⟩, rfl⟩

set_option maxRecDepth 100000 in
set_option maxHeartbeats 1000000 in
theorem of_is (w : World) (x : Nat) (hx : x < 18446744073709551616) :
  Calls Tryd.prog 45 #[.int .u64 (x : Int)] w fun e w' => (∃ v', e = .returned v' ∧ IsD w' v' (digs x)) ∧ Below w.heap.size w w' := by
 obtain ⟨ii, his, his0, his1, his2⟩ := info_parts info_int
 have hmade : (w.alloc (.cells #[] 3)).ownsRow w.heap.size 3 1 (.slice (some ⟨w.heap.size, 0, none⟩) 0 0) 0 (icells []) := World.ownsRow_made w #[] 0 (Nat.le_refl _) (by decide) rfl
 have HMADE := Lib.hid hmade
 clear hmade
 go_enter Tryd.func45, Tryd.ntmps45
 go_wp2_with fail
 go_loopw [3, 0] (fun ov v wr => ∃ l y, v = .int .u64 ((y : Nat) : Int) ∧ y ≤ x ∧ digs x = l ++ digs y ∧ (∃ oa on oc, ov = .slice oa on oc) ∧ wr.ownsRow w.heap.size 3 1 ov l.length (icells l) ∧ Below w.heap.size w wr) (fun _ v _ => (intOf v).toNat)
 case atStart => exact ⟨[], x, rfl, Nat.le_refl _, rfl, ⟨_, _, _, rfl⟩, HMADE.out, (Below.refl _ _).alloc (Nat.le_refl _) _⟩
 case round =>
  obtain ⟨l, y, rfl, hy, hl, ⟨oa, on, oc, rfl⟩, hown, hbel⟩ := hrel
  have hl8 : (digs x).length ≤ 8 := (digs_len x 8).2 (by omega)
  have HOWN := Lib.hid hown
  have HBEL := Lib.hid hbel
  have HL := Lib.hid hl
  clear hown hbel HMADE
  by_cases h0 : y = 0
  · subst h0
    go_wp2
    go_ret
    refine ⟨⟨_, rfl, ?_⟩, HBEL.out⟩
    have e := HL.out
    rw [digs_zero, List.append_nil] at e
    rw [e]
    exact DigAt.of_own HOWN.out rfl
  · have hpos : (0 : Int) < (y : Int) := by omega
    have hm : (y : Int) % 256 = ((y % 256 : Nat) : Int) := by omega
    have hq : (y : Int) / 256 = ((y / 256 : Nat) : Int) := by omega
    have HLL := Lib.hid (show l.length + 1 ≤ 8 by
     have h1 := hl8
     rw [HL.out, List.length_append, digs_pos h0] at h1
     simp at h1; omega)
    obtain ⟨d, hd⟩ : ∃ d, d = y % 256 := ⟨_, rfl⟩
    obtain ⟨z, hz⟩ : ∃ z, z = y / 256 := ⟨_, rfl⟩
    have hd256 : d < 256 := by omega
    rw [← hd] at hm
    rw [← hz] at hq
    have HN := Lib.hid (show digs x = (l ++ [d]) ++ digs z by rw [HL.out, digs_pos h0, hd, hz]; simp)
    have HZ := Lib.hid (show z < y by omega)
    clear hd hz
    have HML := Lib.hid (show l.length + 1 ≤ maxLen by unfold maxLen; have := HLL.out; omega)
    have HBY := Lib.hid (show (l.length + 1) * 8 ≤ 140737488355328 by have := HLL.out; omega)
    have HBS := Lib.hid (show w.heap.size ≤ (wr.alloc (.cells #[.int .i64 (d : Int)] 3)).heap.size by have := HBEL.out.size; simp; omega)
    go_wp2_with (at_builtin; refine wpList_append_lies _ rfl (.tmp 7) (.tmp 11) 101 rfl w.heap.size 3 ii (.int .i64 0) 1 8 Tryd.underlying101 his his0 his1 his2 rfl (by decide) _ l.length _ rfl (HOWN.out.alloc _) ⟨wr.heap.size, 0, none⟩ 1 1 [.int .i64 (d : Int)] rfl rfl (World.news_of_block (cs := #[.int .i64 (d : Int)]) (heap_alloc_new wr _)) (by intro v hv; rw [List.mem_singleton] at hv; rw [hv]; rfl) (by decide) HML.out HBY.out HBS.out _ rfl ?_; intro g6 cap6 w6 hown6 hgr6 hat6 hlt6)
    go_roundw
    case rel =>
     refine ⟨l ++ [d], z, rfl, by have := HZ.out; omega, HN.out, ⟨_, _, _, rfl⟩, ?_, ?_⟩
     · rw [List.length_append]
       have e : icells (l ++ [d]) = icells l ++ [.int .i64 (d : Int)] := by simp [icells]
       rw [e]
       exact hown6
     · exact (HBEL.out.alloc HBEL.out.size _).grown hgr6 HBS.out (own_blk HOWN.out)
    case measure => have := HZ.out; simp [intOf]; omega

set_option maxRecDepth 100000 in
set_option maxHeartbeats 1000000 in
theorem num_is (w : World) (a : Option Addr) (n c : Nat) (x : Nat) (hd : DigAt w a n c (digs x)) (hn : n ≤ 1000000) :
   Calls Tryd.prog 49 #[.slice a n c] w fun e w' => (∃ y : Nat, e = .returned (.tuple #[.int .u64 (y : Int), .bool (decide (x < 18446744073709551616))]) ∧ (x < 18446744073709551616 → y = x)) ∧ w' = w := by
 have hlen := hd.len
 have hfit := digs_len x 8
 rw [hlen, show (256 : Nat) ^ 8 = 18446744073709551616 by decide] at hfit
 have HD := Lib.hid hd
 have HFIT := Lib.hid hfit
 have HLEN := Lib.hid hlen
 clear hd hfit hlen
 go_enter Tryd.func49, Tryd.ntmps49
 by_cases h8 : 8 < n
 · have h8' : (8 : Int) < (n : Int) := by omega
   have hno : ¬ x < 18446744073709551616 := fun h => by have := HFIT.out.2 h; omega
   have HNO := Lib.hid hno
   clear hno
   go_wp2
   go_ret2
   refine ⟨⟨0, by rw [decide_eq_false HNO.out]; rfl, fun h => absurd h HNO.out⟩, rfl⟩
 · have h8' : ¬ (8 : Int) < (n : Int) := by omega
   have HFX := Lib.hid (HFIT.out.1 (by omega))
   have hw : wrap64 ((n : Int) - 1) = (n : Int) - 1 := by unfold wrap64; omega
   go_wp2_with fail
   go_loopw [5, 4] (fun iv xv wr => ∃ i : Int, iv = .int .i64 i ∧ -1 ≤ i ∧ i < n ∧ xv = .int .u64 ((x / 256 ^ (i + 1).toNat : Nat) : Int) ∧ wr = w) (fun iv _ _ => (intOf iv + 1).toNat)
   case atStart =>
    refine ⟨(n : Int) - 1, by go_num, by omega, by omega, ?_, rfl⟩
    have e : ((n : Int) - 1 + 1).toNat = n := by omega
    rw [e, digs_over (by rw [HLEN.out]; exact Nat.le_refl _)]
    rfl
   case round =>
    obtain ⟨i, rfl, hi1, hi2, rfl, rfl⟩ := hrel
    by_cases h0 : 0 ≤ i
    · obtain ⟨j, rfl⟩ : ∃ j : Nat, i = (j : Int) := ⟨i.toNat, by omega⟩
      obtain ⟨b, o, ha, hb, hcl⟩ := HD.out.at_ (by omega)
      subst ha
      have hc0 := hcl j (by omega)
      rw [digs_at] at hc0
      have hat := at_dig b o n c j (by omega)
      have e1 : ((j : Int) + 1).toNat = j + 1 := by omega
      have hns := num_step x j
      rw [e1]
      obtain ⟨d, hdd⟩ : ∃ d, d = x / 256 ^ j % 256 := ⟨_, rfl⟩
      obtain ⟨q, hqq⟩ : ∃ q, q = x / 256 ^ (j + 1) := ⟨_, rfl⟩
      obtain ⟨r, hrr⟩ : ∃ r, r = x / 256 ^ j := ⟨_, rfl⟩
      have hrx : r ≤ x := by rw [hrr]; exact Nat.div_le_self _ _
      rw [← hdd] at hc0 hns
      rw [← hqq] at hns ⊢
      rw [← hrr] at hns
      have hfx := HFX.out
      have hm1 : (q : Int) * 256 % 18446744073709551616 = ((q * 256 : Nat) : Int) := by omega
      have hm2 : IntKind.u64.wrap ((q : Int) * 256) = ((q * 256 : Nat) : Int) := by rw [IntKind.wrap_u64]; omega
      have hm3 : IntKind.u64.wrap (d : Int) = (d : Int) := by rw [IntKind.wrap_u64]; omega
      have hm4 : (((q * 256 : Nat) : Int) + (d : Int)) % 18446744073709551616 = (r : Int) := by omega
      have hm5 : IntKind.u64.wrap (((q * 256 : Nat) : Int) + (d : Int)) = (r : Int) := by rw [IntKind.wrap_u64]; omega
      have hm6 : (d : Int) % 18446744073709551616 = (d : Int) := by omega
      have HRR := Lib.hid hrr
      have hw2 : wrap64 ((j : Int) - 1) = (j : Int) - 1 := by unfold wrap64; omega
      clear hdd hqq hrr hcl e1 hfx hrx
      go_wp2
      go_roundw
      case rel =>
       refine ⟨(j : Int) - 1, by go_num, by omega, by omega, ?_, by first | rfl | trivial⟩
       have e : ((j : Int) - 1 + 1).toNat = j := by omega
       rw [e, ← HRR.out]
       congr 1
       omega
      case measure => first | (simp [intOf]; done) | (simp [intOf]; omega)
    · have e : i = -1 := by omega
      subst e
      go_wp2
      go_ret2
      refine ⟨⟨x, ?_, fun _ => rfl⟩, rfl⟩
      rw [decide_eq_true HFX.out]
      try simp
end Go.Proofs.YtcekammjpghjnaaDoor

