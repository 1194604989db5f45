/- The walk of the reference's digest of bytes. -/
import Derived.Test.YtknfbccbdiidjaaGreatDoorWu
import Derived.Test.YtknfbccbdiidjaaGreatDoorLTv6
import Derived.Test.YtknfbccbdiidjaaGreatDoorLNum7
import Derived.Test.YtknfbccbdiidjaaGreatDoorLLb2
import Derived.StillTailTactics
namespace Go.Proofs.YtknfbccbdiidjaaGreatDoor
set_option linter.unusedVariables false
set_option linter.unusedSimpArgs false
open Go.ChangeShapes Go.WideShapes Go.ChangeAt Go.RowKit Go.Maps

theorem zero_h32 : ∃ Z : Array Value, (∀ w, (zeroValue 26).run Tryz.prog w = .ok (.agg Z) w) ∧ (∀ w, (Instr.build 26 #[]).run Tryz.prog w = .ok (.agg Z) w) ∧ Z.size = 32 ∧ ¬ Z = #[] ∧ Z.all (·.oneCell') = true := by
 have hs : (List.replicate 32 (Value.int .u8 0)).toArray.size = 32 := by kernel_rfl
 exact ⟨_, fun w => by kernel_rfl, fun w => by kernel_rfl, hs, (fun e => by rw [e] at hs; cases hs), by kernel_rfl⟩
theorem rem_facts {n r : Nat} (hr : r = n % 64) : Int.tmod (n : Int) 64 = (r : Int) ∧ (n : Int) % 64 = (r : Int) := by
 refine ⟨by rw [Int.tmod_eq_emod_of_nonneg (Int.natCast_nonneg _)]; omega, by omega⟩
def padTo (m : List Nat) (j : Nat) : List Nat := m ++ 128 :: List.replicate j 0
theorem padTo_succ (m : List Nat) (j : Nat) : padTo m (j + 1) = padTo m j ++ [0] := by
 unfold padTo
 rw [List.replicate_succ', List.append_assoc, List.cons_append]
theorem padTo_full (m : List Nat) : padTo m (padZ m.length) ++ eight (8 * m.length) = padL m := by
 unfold padTo padL
 rw [List.append_assoc, List.cons_append]
theorem bytes_lt {w : World} {g : Nat} {v : Value} {b : List Nat} (h : Bytes w g v b) : ∀ x ∈ b, x < 256 := by obtain ⟨_, _, _, _, h, _⟩ := h; exact h
theorem byte_own {w : World} {base : Nat} (hb : base ≤ w.heap.size) (d : Nat) (v : Value) (hv : v = .int .u8 (d : Int)) : (w.alloc (.cells #[v] 5)).ownsRow base 5 1 (.slice (some ⟨w.heap.size, 0, none⟩) 1 1) 1 (bcells [d]) ∧ (w.alloc (.cells #[v] 5)).cell? ⟨w.heap.size, 0, none⟩ = some (.int .u8 (d : Int)) := by
 subst hv
 refine ⟨⟨rfl, .inr ⟨w.heap.size, 1, #[.int .u8 (d : Int)], rfl, hb, heap_alloc_new w _, Nat.le_refl _, by decide, rfl, rfl⟩⟩, ?_⟩
 unfold World.cell?
 rw [heap_alloc_new]; rfl
theorem byte_one {w : World} (d : Nat) (hd : d < 256) (v : Value) (hv : v = .int .u8 (d : Int)) : Bytes (w.alloc (.cells #[v] 5)) (w.alloc (.cells #[v] 5)).heap.size (.slice (some ⟨w.heap.size, 0, none⟩) 1 1) [d] :=
 ⟨_, _, rfl, Nat.le_refl _, (fun x hx => by rw [List.mem_singleton] at hx; omega), fun _ => ⟨w.heap.size, 0, rfl, by simp, fun i hi => by
  obtain rfl : i = 0 := by simpa using hi
  exact (byte_own (Nat.le_refl _) d v hv).2⟩⟩
theorem own_below {w w' : World} {base : Nat} {e : TypeId} {size n : Nat} {v : Value} {xs : List Value} (h : w.ownsRow base e size v n xs) (hb : Below w.heap.size w w') : w'.ownsRow base e size v n xs := by
 refine ⟨h.1, ?_⟩
 rcases h.2 with h0 | ⟨g, cap, cur, e1, hB, hh, h1, h2, h3, h4⟩
 · exact .inl h0
 · have hg : Has w g e cur := hh
   exact .inr ⟨g, cap, cur, e1, hB, hg.below hb hg.lt, h1, h2, h3, h4⟩
theorem mul8_facts {ml x : Nat} (hm : ml ≤ 1000000) (hx : x = 8 * ml) : IntKind.u64.wrap (ml : Int) = (ml : Int) ∧ (ml : Int) % 18446744073709551616 = (ml : Int) ∧ IntKind.u64.wrap (8 * (ml : Int)) = (x : Int) ∧ 8 * (ml : Int) % 18446744073709551616 = (x : Int) := by
 refine ⟨by rw [IntKind.wrap_u64]; omega, by omega, by rw [IntKind.wrap_u64]; omega, by omega⟩
theorem at_word (b n c k : Nat) (hk : k < n) (w : World) : (Instr.indexAt 205 (.slice (some ⟨b, 0, none⟩) n c) (.int .i64 (k : Int))).run Tryz.prog w = .ok (.pointer (some ⟨b, k, none⟩)) w := by
 have hu : Tryz.prog.underlying 205 = some (.slice (Tryz.prog.elem 205)) := by kernel_rfl
 have he : Tryz.prog.elem 205 = 52 := by kernel_rfl
 have hz : ∀ w, (sizeOf 52).run Tryz.prog w = .ok 1 w := fun w => by kernel_rfl
 rw [run_indexAt_slice w 205 ⟨b, 0, none⟩ n c .i64 (k : Int) hu, if_pos ⟨by omega, by omega⟩, he, hz]
 simp only [Result.andThen, Int.toNat_natCast, Nat.mul_one, Addr.add_mid, Nat.zero_add]
theorem word_facts {b0 b1 b2 b3 e1 e2 e3 e4 e5 e6 : Nat} (l0 : b0 < 256) (l1 : b1 < 256) (l2 : b2 < 256) (l3 : b3 < 256) (h1 : e1 = b0 * 256) (h2 : e2 = e1 + b1) (h3 : e3 = e2 * 256) (h4 : e4 = e3 + b2) (h5 : e5 = e4 * 256) (h6 : e6 = e5 + b3) :
  (IntKind.u32.wrap ((b0 : Int) * 256) = (e1 : Int) ∧ IntKind.u32.wrap ((e1 : Int) + (b1 : Int)) = (e2 : Int) ∧ IntKind.u32.wrap ((e2 : Int) * 256) = (e3 : Int) ∧ IntKind.u32.wrap ((e3 : Int) + (b2 : Int)) = (e4 : Int) ∧ IntKind.u32.wrap ((e4 : Int) * 256) = (e5 : Int) ∧ IntKind.u32.wrap ((e5 : Int) + (b3 : Int)) = (e6 : Int)) ∧
  (IntKind.u32.wrap (b0 : Int) = (b0 : Int) ∧ IntKind.u32.wrap (b1 : Int) = (b1 : Int) ∧ IntKind.u32.wrap (b2 : Int) = (b2 : Int) ∧ IntKind.u32.wrap (b3 : Int) = (b3 : Int)) ∧ e6 < 4294967296 := by
 refine ⟨⟨?_, ?_, ?_, ?_, ?_, ?_⟩, ⟨?_, ?_, ?_, ?_⟩, by omega⟩ <;> (rw [IntKind.wrap_u32]; omega)
theorem i64_1 (a : Nat) (h : a < 4611686018427387900) : IntKind.i64.wrap ((a : Int) + 1) = ((a + 1 : Nat) : Int) := by rw [IntKind.wrap_i64]; omega
theorem i64_2 (a : Nat) (h : a < 4611686018427387900) : IntKind.i64.wrap ((a : Int) + 2) = ((a + 2 : Nat) : Int) := by rw [IntKind.wrap_i64]; omega
theorem i64_3 (a : Nat) (h : a < 4611686018427387900) : IntKind.i64.wrap ((a : Int) + 3) = ((a + 3 : Nat) : Int) := by rw [IntKind.wrap_i64]; omega
theorem wrap64_4 (a : Nat) (h : a < 4611686018427387900) : wrap64 ((a : Int) + 4) = ((a + 4 : Nat) : Int) := by unfold wrap64; omega
theorem wrap64_64 (a : Nat) (h : a < 4611686018427387800) : wrap64 ((a : Int) + 64) = ((a + 64 : Nat) : Int) := by unfold wrap64; omega
theorem turn_all (x : Wd) (n : Nat) (hn : 0 < n) (hn2 : n < 32) (k : Int) (hk : k = (n : Int)) : ∀ w, Calls Tryz.prog 109 #[.int .u32 (x.toNat : Int), .int .u64 k] w fun e w' => e = .returned (.int .u32 ((rotr n x).toNat : Int)) ∧ w' = w := fun w => turn_is w x n hn hn2 k hk
theorem bytes_at (x : Wd) (j : Nat) (hj : j < 4) : (bytesOf x).getD j 0 = x.toNat / 256 ^ (3 - j) % 256 := by
 have hx := x.isLt
 have : j = 0 ∨ j = 1 ∨ j = 2 ∨ j = 3 := by omega
 rcases this with rfl | rfl | rfl | rfl
 · show x.toNat / 16777216 = x.toNat / 16777216 % 256
   omega
 · rfl
 · show x.toNat / 256 % 256 = x.toNat / (256 ^ 1) % 256
   rw [Nat.pow_one]
 · show x.toNat % 256 = x.toNat / 1 % 256
   rw [Nat.div_one]
theorem flat_bytes (l : List Wd) (i j : Nat) (hi : i < l.length) (hj : j < 4) : (l.flatMap bytesOf).getD (4 * i + j) 0 = (bytesOf (l.getD i 0)).getD j 0 := by
 induction l generalizing i with
 | nil => cases hi
 | cons x l ih =>
  have hl : (bytesOf x).length = 4 := rfl
  rw [List.flatMap_cons]
  cases i with
  | zero =>
   rw [List.getD_eq_getElem?_getD, List.getElem?_append_left (by rw [hl]; omega), ← List.getD_eq_getElem?_getD, Nat.mul_zero, Nat.zero_add]
   rfl
  | succ i =>
   have := ih i (by simpa using hi)
   rw [List.getD_eq_getElem?_getD, List.getElem?_append_right (by rw [hl]; omega), hl, show 4 * (i + 1) + j - 4 = 4 * i + j by omega, ← List.getD_eq_getElem?_getD, this]
   rfl
theorem wbyte_facts {y d q : Nat} (hy : y < 4294967296) (hd : d = y % 256) (hq : q = y / 256) : (y : Int) % 256 = (d : Int) ∧ (y : Int) / 256 = (q : Int) ∧ IntKind.u32.wrap (q : Int) = (q : Int) ∧ IntKind.u8.wrap (d : Int) = (d : Int) := by
 refine ⟨by omega, by omega, by rw [IntKind.wrap_u32]; omega, by rw [IntKind.wrap_u8]; omega⟩
theorem wrap64_pred (a : Nat) (h : a < 4611686018427387904) : wrap64 ((a : Int) - 1) = (a : Int) - 1 := by unfold wrap64; omega
theorem back_facts2 {k : Nat} (h0 : 16 ≤ k) (h1 : k < 64) :
  IntKind.i64.wrap ((k : Int) - 16) = (k : Int) - 16 ∧ IntKind.i64.wrap ((k : Int) - 15) = (k : Int) - 15 ∧ IntKind.i64.wrap ((k : Int) - 7) = (k : Int) - 7 ∧ IntKind.i64.wrap ((k : Int) - 2) = (k : Int) - 2 := by
 refine ⟨by rw [IntKind.wrap_i64]; omega, by rw [IntKind.wrap_i64]; omega, by rw [IntKind.wrap_i64]; omega, by rw [IntKind.wrap_i64]; omega⟩
theorem wcells_snoc (l : List Wd) (x : Wd) : wcells (l ++ [x]) = wcells l ++ [.int .u32 (x.toNat : Int)] := by simp [wcells]
set_option maxRecDepth 100000 in
set_option maxHeartbeats 16000000 in
theorem hash_is (K s0 : List Wd) (hK : K.length = 64) (hs0 : s0.length = 8) (w : World) (pa : Option Addr) (ml pc : Nat) (m : List Nat) (hml : ml = m.length) (hb : Bytes w w.heap.size (.slice pa ml pc) m) (hm : ml ≤ 1000000) :
  Calls Tryz.prog 88 #[.slice pa ml pc, .agg (wcells s0).toArray, .agg (wcells K).toArray] w fun e w' => e = .returned (arr (digest K s0 m)) ∧ Below w.heap.size w w' := by
 obtain ⟨Z, hzv, hbd, hZs, hZn, hZo⟩ := zero_h32
 obtain ⟨iu, hiu, Cu, Cv, Cw⟩ := info_parts info_u32
 obtain ⟨CS, hCS⟩ : ∃ C, C = (wcells s0).toArray := ⟨_, rfl⟩
 obtain ⟨CK, hCK⟩ : ∃ C, C = (wcells K).toArray := ⟨_, rfl⟩
 rw [← hCS, ← hCK]
 have s1 : ∀ (x : World) o, (x.alloc o).heap.size = x.heap.size + 1 := fun x o => by simp
 have b0 := ((Has.new w 53 CS).alloc (.cells CK 54)).alloc (.cells Z 26)
 have b1 := (Has.new (w.alloc (.cells CS 53)) 54 CK).alloc (.cells Z 26)
 have b2 := Has.new ((w.alloc (.cells CS 53)).alloc (.cells CK 54)) 26 Z
 rw [s1] at b1
 rw [s1, s1] at b2
 have Ac := (((Below.refl w.heap.size w).alloc (Nat.le_refl _) (.cells CS 53)).alloc (by rw [s1]; omega) (.cells CK 54)).alloc (by rw [s1, s1]; omega) (.cells Z 26)
 have hsz : (((w.alloc (.cells CS 53)).alloc (.cells CK 54)).alloc (.cells Z 26)).heap.size = w.heap.size + 3 := by rw [s1, s1, s1]
 have B4 := Hh b0
 have B5 := Hh b1
 have B6 := Hh b2
 have Aa := Hh Ac
 have D7 := Hh hsz
 have HB := Hh (hb.alive Ac Ac.size)
 have D3 := Hh (bytes_lt hb)
 have C5 := Hh hml
 have Eb := Hh hCS
 have Ea := Hh hCK
 have EZ := Hh (And.intro hZs hZo)
 have Eg := Hh hbd
 have HL := Hh (And.intro hK hs0)
 have HM := Hh hm
 clear b0 b1 b2 Ac hsz hb hml hCS hCK hZs hZo hbd s1 hK hs0 hm
 go_enter Tryz.func88, Tryz.ntmps88
 go_upto_region 1 with (fail)
 generalize ((w.alloc (.cells CS 53)).alloc (.cells CK 54)).alloc (.cells Z 26) = W0 at B4 B5 B6 Aa D7 HB ⊢
 obtain ⟨S0, hS0⟩ : ∃ B, B = w.heap.size := ⟨_, rfl⟩
 obtain ⟨S1, hS1⟩ : ∃ B, B = w.heap.size + 1 := ⟨_, rfl⟩
 obtain ⟨S2, hS2⟩ : ∃ B, B = w.heap.size + 2 := ⟨_, rfl⟩
 rw [← hS1] at B5 ⊢
 rw [← hS2] at B6
 rw [show S1 + 1 = S2 by omega]
 rw [← hS0] at B4 ⊢
 have EB := Hh (And.intro hS0 (And.intro hS1 hS2))
 clear hS0 hS1 hS2
 obtain ⟨G, hG⟩ : ∃ G, G = W0.heap.size := ⟨_, rfl⟩
 clear hG
 have As : (W0.alloc (.cells #[] 5)).ownsRow W0.heap.size 5 1 (.slice (some ⟨W0.heap.size, 0, none⟩) 0 0) 0 [] := World.ownsRow_made W0 #[] 0 (Nat.le_refl _) (by decide) rfl
 have Bb : Below W0.heap.size W0 (W0.alloc (.cells #[] 5)) := (Below.refl _ _).alloc (Nat.le_refl _) _
 have Ao := Hh As
 have Ap := Hh (HB.o.alive Bb Bb.size)
 have A1 := Hh (show 0 + m.length ≤ 100000000 by have := HM.o; have := C5.o; omega)
 have Aq := Hh (show ∀ z, W0.heap.size ≤ (W0.alloc (.cells z 5)).heap.size from fun z => by simp)
 have B2 := Hh Bb
 clear As Bb
 go_upto_region 2 with (at_builtin; refine wpList_append_bytes rfl (.tmp 34) (.tmp 35) rfl W0.heap.size _ 0 _ rfl Ao.o _ _ m rfl Ap.o A1.o (Aq.o _) ?_; intro oa1 oc1 w1 Ax Cr)
 rw [Nat.zero_add] at Ax
 try rw [Nat.zero_add]
 have Co : Below W0.heap.size W0 w1 := B2.o.grown Cr (Aq.o _) (own_blk Ao.o)
 rw [← C5.o] at Ax ⊢
 have A4 := Hh (show w1.ownsRow W0.heap.size 5 1 (.slice oa1 ml oc1) ml (bcells m) from Ax)
 have A8 := Hh Co
 clear Ax Cr Co Ao Ap A1 Aq B2
 have Aw := Hh (A4.o.alloc (.cells #[.int .u8 128] 5))
 have Ap := Hh (byte_one (w := w1) 128 (by decide) (.int .u8 128) rfl)
 have A1 := Hh (show ml + [128].length ≤ 100000000 by have := HM.o; simp; omega)
 have Aq := Hh (show ∀ z, W0.heap.size ≤ (w1.alloc (.cells z 5)).heap.size from fun z => by have := A8.o.size; simp; omega)
 go_wp2_with (at_builtin; refine wpList_append_bytes rfl (.tmp 37) (.tmp 38) rfl W0.heap.size _ ml _ rfl Aw.o _ _ [128] rfl Ap.o A1.o (Aq.o _) ?_; intro oa2 oc2 w2 Bk Cs)
 have Cp : Below W0.heap.size W0 w2 := (A8.o.alloc A8.o.size _).grown Cs (Aq.o _) (own_blk A4.o)
 have Bg := Hh (show w2.ownsRow W0.heap.size 5 1 (.slice oa2 (ml + 1) oc2) (ml + 1) (bcells (padTo m 0)) by
  have e : bcells (padTo m 0) = bcells m ++ bcells [128] := by simp [padTo, bcells]
  rw [e]; exact Bk)
 have B7 := Hh Cp
 clear Bk Cs Cp A4 Aw Ap A1 Aq A8
 go_loopw [7] (fun mv wr => ∃ (j n : Nat) (oa : Option Addr) (oc : Nat), mv = .slice oa n oc ∧ n = ml + 1 + j ∧ j ≤ padZ ml ∧ wr.ownsRow W0.heap.size 5 1 (.slice oa n oc) n (bcells (padTo m j)) ∧ Below W0.heap.size W0 wr) (fun mv _ => ml + 100 - lenD mv)
 case atStart => exact ⟨0, ml + 1, oa2, oc2, by first | rfl | simp, rfl, Nat.zero_le _, Bg.o, B7.o⟩
 case round =>
  clear Bg B7
  obtain ⟨j, n, oa, oc, rfl, hn, hj, Aj, Ac⟩ := hrel
  have Ab := Hh Aj
  have Al := Hh Ac
  clear Aj Ac
  obtain ⟨r, hr⟩ : ∃ r, r = n % 64 := ⟨_, rfl⟩
  obtain ⟨-, hr2⟩ := rem_facts hr
  by_cases hjz : j < padZ ml
  · have hne : ¬ r = 56 := by rw [hr, hn]; exact padZ_first ml j hjz
    have hne' : ¬ (r : Int) = 56 := by omega
    have A1 := Hh (show n + [0].length ≤ 100000000 by have := padZ_lt ml; have := HM.o; simp; omega)
    have Aq := Hh (show ∀ z, W0.heap.size ≤ (wr.alloc (.cells z 5)).heap.size from fun z => by have := Al.o.size; simp; omega)
    have Aw := Hh (Ab.o.alloc (.cells #[.int .u8 0] 5))
    have Ap := Hh (byte_one (w := wr) 0 (by decide) (.int .u8 0) rfl)
    have HJ := Hh (show n + 1 = ml + 1 + (j + 1) ∧ j + 1 ≤ padZ ml ∧ ml + 100 - (n + 1) < ml + 100 - n by have := padZ_lt ml; omega)
    clear hr hne hn
    go_wp2_with (at_builtin; refine wpList_append_bytes rfl (.tmp 44) (.tmp 45) rfl W0.heap.size _ n _ rfl Aw.o _ _ [0] rfl Ap.o A1.o (Aq.o _) ?_; intro oa6 oc6 w6 Ad Ai)
    have Au := Hh ((Al.o.alloc Al.o.size _).grown Ai (Aq.o _) (own_blk Ab.o))
    have Ag := Hh (show w6.ownsRow W0.heap.size 5 1 (.slice oa6 (n + 1) oc6) (n + 1) (bcells (padTo m (j + 1))) by
     have e : bcells (padTo m (j + 1)) = bcells (padTo m j) ++ bcells [0] := by rw [padTo_succ]; simp [bcells]
     rw [e]; exact Ad)
    clear Ad Ai
    go_roundw
    case rel => exact ⟨j + 1, n + 1, oa6, oc6, by first | rfl | simp, HJ.o.1, HJ.o.2.1, Ag.o, Au.o⟩
    case measure => exact HJ.o.2.2
  · have Bd : j = padZ ml := by omega
    have Dw : r = 56 := by rw [hr, hn, Bd]; exact padZ_mod ml
    subst Dw
    obtain ⟨x8, hx8⟩ : ∃ x, x = 8 * ml := ⟨_, rfl⟩
    have C2 : x8 < 18446744073709551616 := by have := HM.o; omega
    have Do := Hh (And.intro hx8 C2)
    have Bh := Hh (show wr.ownsRow W0.heap.size 5 1 (.slice oa n oc) n (bcells (padTo m (padZ ml))) by rw [← Bd]; exact Ab.o)
    have D4 := Hh (show n = ml + 1 + padZ ml by rw [hn, Bd])
    obtain ⟨m1, m2, m3, m4⟩ := mul8_facts HM.o hx8
    clear hx8 C2 Bd hr hn hjz Ab
    go_wp2_with fail
    clear m1 m2 m3 m4 hr2
    go_loopw [8, 9, 10] (fun xv ov iv wy => ∃ (i y : Nat) (ta : Option Addr) (tc : Nat), iv = .int .i64 (i : Int) ∧ xv = .int .u64 (y : Int) ∧ ov = .slice ta i tc ∧ i ≤ 8 ∧ y = x8 / 256 ^ i ∧ Bytes wy wy.heap.size (.slice ta i tc) (eightR x8 i) ∧ Below wr.heap.size wr wy) (fun _ _ iv _ => 8 - (intOf iv).toNat)
    case atStart => exact ⟨0, x8, _, _, rfl, rfl, rfl, Nat.zero_le _, by simp, ⟨_, _, rfl, Nat.le_refl _, (fun z hz => by cases hz), fun h => absurd h (by simp [eightR])⟩, (Below.refl _ _).alloc (Nat.le_refl _) _⟩
    case round =>
     obtain ⟨i, y, ta, tc, rfl, rfl, rfl, hi, hy, hb, Ac⟩ := hrel
     have HB := Hh hb
     have Aa := Hh Ac
     clear hb Ac
     by_cases hlt : i < 8
     · have C4 : y < 18446744073709551616 := by rw [hy]; exact Nat.lt_of_le_of_lt (Nat.div_le_self _ _) Do.o.2
       obtain ⟨d, hd⟩ : ∃ d, d = y % 256 := ⟨_, rfl⟩
       obtain ⟨q, hq⟩ : ∃ q, q = y / 256 := ⟨_, rfl⟩
       have HQ := Hh (show q = x8 / 256 ^ (i + 1) by rw [hq, hy, div_step])
       have HE := Hh (show eightR x8 (i + 1) = d :: eightR x8 i by rw [hd, hy]; rfl)
       have Aj : (wr.alloc (.cells #[.int .u8 (d : Int)] 5)).ownsRow wr.heap.size 5 1 (.slice (some ⟨wr.heap.size, 0, none⟩) 1 1) 1 (bcells [d]) := (byte_own (Nat.le_refl _) d _ rfl).1
       have hal : Below wr.heap.size wr (wr.alloc (.cells #[.int .u8 (d : Int)] 5)) := (Below.refl _ _).alloc (Nat.le_refl _) _
       have Ab := Hh Aj
       have Ap := Hh (HB.o.alive hal hal.size)
       have Aq := Hh (show ∀ z, wr.heap.size ≤ (wr.alloc (.cells z 5)).heap.size from fun z => by simp)
       have A1 := Hh (show 1 + (eightR x8 i).length ≤ 100000000 by rw [eightR_len]; omega)
       have D2 := Hh (eightR_len x8 i)
       have hlt' : (i : Int) < 8 := by omega
       have Am := Hh (And.intro (show i + 1 ≤ 8 from hlt) (show 8 - (i + 1) < 8 - i from Nat.sub_lt_sub_left hlt (Nat.lt_succ_self i)))
       have hib : i < 4611686018427387904 := Nat.lt_trans hlt (by decide)
       obtain ⟨-, g2, -, g4, -, -, g7, -, -, -⟩ := byte_facts C4 hd hq
       have Em := Hh g7
       have hiw := wrap64_succ i hib
       have D0 := Hh hiw
       clear g7 C4 hd hq Aj hy hal hib
       go_wp2_with (at_builtin; refine wpList_append_bytes rfl (.tmp 59) (.tmp 60) rfl wr.heap.size _ 1 _ rfl Ab.o _ _ (eightR x8 i) rfl Ap.o A1.o (Aq.o _) ?_; intro oa6 oc6 w6 Ad Ai)
       have Au := Hh ((Aa.o.alloc Aa.o.size _).grown Ai (Nat.le_trans Aa.o.size (Aq.o _)) (fun k hk => Nat.le_trans Aa.o.size (own_blk Ab.o k hk)))
       have Ag := Hh Ad
       clear Ad Ai
       go_roundw
       case rel =>
        have e : bcells [d] ++ bcells (eightR x8 i) = bcells (eightR x8 (i + 1)) := by rw [HE.o]; rfl
        have h6 := Ag.o
        rw [e, D2.o] at h6
        have hl : 1 + i = i + 1 := Nat.add_comm 1 i
        rw [hl] at h6
        exact ⟨i + 1, q, oa6, oc6, by first | exact congrArg (Value.int .i64) D0.o | rfl, by first | exact congrArg (Value.int .u64) Em.o | rfl, by rw [D2.o, hl], Am.o.1, HQ.o, own_bytes h6 (eightR_len x8 (i + 1)) (eightR_lt x8 (i + 1)) (Nat.le_refl _), Au.o⟩
       case measure =>
        first | exact Am.o.2 | (show 8 - (intOf (Value.int .i64 (wrap64 ((i : Int) + 1)))).toNat < _; rw [D0.o]; exact Am.o.2)
     · obtain rfl : i = 8 := by omega
       have hb := HB.o
       rw [eightR_full] at hb
       have Dx := Hh hb
       have Ab := Hh (own_below Bh.o Aa.o)
       have Bo := Hh (Al.o.trans (Aa.o.mono Al.o.size))
       have A1 := Hh (show n + (eight x8).length ≤ 100000000 by rw [eight_length]; have := HM.o; have := padZ_lt ml; have := D4.o; omega)
       have Aq := Hh (show W0.heap.size ≤ wr.heap.size from Bo.o.size)
       clear hb hy hlt HB Aa Bh Al
       go_wp2_with (at_builtin; refine wpList_append_bytes rfl (.tmp 64) (.tmp 65) rfl W0.heap.size _ n _ rfl Ab.o _ _ (eight x8) rfl Dx.o A1.o Aq.o ?_; intro oaP ocP wP hownP hgrP)
       have hbP : Below W0.heap.size W0 wP := Bo.o.grown hgrP Aq.o (own_blk Ab.o)
       obtain ⟨N, hN⟩ : ∃ N, N = n + (eight x8).length := ⟨_, rfl⟩
       rw [← hN] at hownP ⊢
       obtain ⟨P, hP⟩ : ∃ P, P = padL m := ⟨_, rfl⟩
       have ecell : bcells (padTo m (padZ ml)) ++ bcells (eight x8) = bcells P := by
        rw [hP, ← padTo_full, ← C5.o, ← Do.o.1]
        simp [bcells]
       rw [ecell] at hownP
       have hPl : P.length = N := by
        have := hownP.1
        rw [bcells_length, Nat.mul_one] at this
        exact this
       have Av : Bytes wP wP.heap.size (.slice oaP N ocP) P := own_bytes hownP hPl (by rw [hP]; exact padL_lt m D3.o) (Nat.le_refl _)
       obtain ⟨Q, hQ⟩ : ∃ Q, Q = N / 64 := ⟨_, rfl⟩
       have hNQ : N = 64 * Q := by
        have := padL_len m
        rw [← hP, hPl] at this
        rw [hQ, this]
        split <;> omega
       have hN1 : N ≤ 1001000 := by
        have := padL_len m
        rw [← hP, hPl] at this
        have h1 := HM.o
        have h2 := C5.o
        rw [this]
        split <;> omega
       have Eh := Hh Av
       have Dz := Hh hbP
       have A3 := Hh (And.intro hNQ hN1)
       have El := Hh (show digest K s0 m = (eat K Q s0 P).flatMap bytesOf by rw [digest_pad, ← hP, hPl, ← hQ])
       have Dk := Hh hPl
       have D5 := Hh (B4.o.below hbP B4.o.lt)
       have D6 := Hh (B5.o.below hbP B5.o.lt)
       have Et := Hh (B6.o.below hbP B6.o.lt)
       have Cy : 0 < N := by rw [← hPl, hP]; unfold padL; simp; omega
       obtain ⟨ya, yc, ye, _, _, Cq⟩ := id Av
       obtain ⟨mb, mo, hya, _, hcl⟩ := Cq (by rw [hPl]; exact Cy)
       injection ye with ye1 ye2 ye3
       subst ye1 hya
       have Eq := Hh (show mb ≠ S0 ∧ W0.heap.size ≤ mb from by
        rcases hownP.2 with ⟨e, _⟩ | ⟨gg, cap, cur, e, hB, _⟩
        · injection e with e; cases e
        · injection e with e
          injection e with e
          injection e with e1 e2
          rw [e1]
          exact ⟨by have := EB.o; have := D7.o; omega, hB⟩)
       have Ej := Hh hcl
       clear hownP hgrP hbP hN hP ecell hPl Av hQ hNQ hN1 Cy hcl Cq ye2 ye3 Dx Ab Bo A1 Aq B4 B5 B6 Do D4 HB D3
       go_wp2_with fail
       go_loopw [11] (fun v wr => ∃ j : Nat, v = .int .i64 ((64 * j : Nat) : Int) ∧ j ≤ Q ∧ Has wr S0 53 (wcells (eat K j s0 P)).toArray ∧ Kept (· = S0) wP wr) (fun v _ => N - (intOf v).toNat)
       case atStart => exact ⟨0, rfl, Nat.zero_le _, by rw [show eat K 0 s0 P = s0 from rfl, ← Eb.o]; exact D5.o, Kept.refl _ _⟩
       case round =>
        clear D5
        obtain ⟨j, rfl, hj, hst, hkp⟩ := hrel
        have C9 := Hh hst
        have Bf := Hh hkp
        clear hst hkp
        obtain ⟨wJ, hwJ⟩ : ∃ y, y = wr := ⟨_, rfl⟩
        subst hwJ
        obtain ⟨p0, hp0⟩ : ∃ p, p = 64 * j := ⟨_, rfl⟩
        rw [← hp0]
        by_cases hjq : j < Q
        · have hpn : (p0 : Int) < (N : Int) := by have := A3.o; omega
          obtain ⟨bs, hbs⟩ : ∃ b, b = (P.drop (64 * j)).take 64 := ⟨_, rfl⟩
          have hbl : bs.length = 64 := by rw [hbs, List.length_take, List.length_drop, Dk.o]; have := A3.o; omega
          have hbg : ∀ i, i < 64 → bs.getD i 0 = P.getD (p0 + i) 0 := fun i hi => by
           rw [hbs, List.getD_eq_getElem?_getD, List.getD_eq_getElem?_getD, List.getElem?_take_of_lt hi, List.getElem?_drop, hp0]
          have As : (wJ.alloc (.cells #[] 52)).ownsRow wJ.heap.size 52 1 (.slice (some ⟨wJ.heap.size, 0, none⟩) 0 0) 0 (wcells (sched bs 0)) := World.ownsRow_made wJ #[] 0 (Nat.le_refl _) (by decide) rfl
          have Ao := Hh As
          have Dy := Hh hbg
          have B1 := Hh hp0
          have D9 := Hh hbs
          have Cf := Hh hjq
          have B3 := Hh (show Below wJ.heap.size wJ (wJ.alloc (.cells #[] 52)) from (Below.refl _ _).alloc (Nat.le_refl _) _)
          clear As hbg hbl hp0 hbs hjq
          go_wp2_with fail
          go_loopw [12, 13] (fun ov iv wy => ∃ (k : Nat) (oa : Option Addr) (oc : Nat), iv = .int .i64 ((4 * k : Nat) : Int) ∧ ov = .slice oa k oc ∧ k ≤ 16 ∧ wy.ownsRow wJ.heap.size 52 1 (.slice oa k oc) k (wcells (sched bs k)) ∧ Below wJ.heap.size wJ wy) (fun _ iv _ => 64 - (intOf iv).toNat)
          case atStart => exact ⟨0, _, _, rfl, rfl, Nat.zero_le _, Ao.o, B3.o⟩
          case round =>
           clear Ao B3
           obtain ⟨k, oa, oc, rfl, rfl, hk, Aj, Ac⟩ := hrel
           have Ab := Hh Aj
           have Aa := Hh Ac
           clear Aj Ac
           by_cases hk16 : k < 16
           · obtain ⟨q0, hq0⟩ : ∃ q, q = 4 * k := ⟨_, rfl⟩
             rw [← hq0]
             have Ah : ∀ v, Below wJ.heap.size wJ v → ∀ i, i < 64 → v.cell? ⟨mb, mo + (p0 + i), none⟩ = some (.int .u8 (bs.getD i 0 : Nat)) := fun v hv i hi => by
               rw [Dy.o i hi]
               refine cell_held (Kept.of_below (S := fun _ => False) hv) (cell_held Bf.o (Ej.o (p0 + i) (by rw [Dk.o]; have := A3.o; have := B1.o; have := Cf.o; omega)) Eq.o.1) (fun h => h)
             have hbv : ∀ i, i < 64 → bs.getD i 0 < 256 := fun i hi => by
               rw [Dy.o i hi, List.getD_eq_getElem?_getD, List.getElem?_eq_getElem (by rw [Dk.o]; have := A3.o; have := B1.o; have := Cf.o; omega)]
               exact bytes_lt Eh.o _ (List.getElem_mem _)
             have c0 := fun v (hv : Below wJ.heap.size wJ v) => Ah v hv q0 (by omega)
             have c1 := fun v (hv : Below wJ.heap.size wJ v) => Ah v hv (q0 + 1) (by omega)
             have c2 := fun v (hv : Below wJ.heap.size wJ v) => Ah v hv (q0 + 2) (by omega)
             have c3 := fun v (hv : Below wJ.heap.size wJ v) => Ah v hv (q0 + 3) (by omega)
             have l0 := hbv q0 (by omega)
             have l1 := hbv (q0 + 1) (by omega)
             have l2 := hbv (q0 + 2) (by omega)
             have l3 := hbv (q0 + 3) (by omega)
             obtain ⟨r0, hr0⟩ : ∃ r, r = p0 + q0 := ⟨_, rfl⟩
             obtain ⟨r1, hr1⟩ : ∃ r, r = r0 + 1 := ⟨_, rfl⟩
             obtain ⟨r2, hr2⟩ : ∃ r, r = r0 + 2 := ⟨_, rfl⟩
             obtain ⟨r3, hr3⟩ : ∃ r, r = r0 + 3 := ⟨_, rfl⟩
             simp only [← hr0] at c0
             simp only [show p0 + (q0 + 1) = r1 by omega] at c1
             simp only [show p0 + (q0 + 2) = r2 by omega] at c2
             simp only [show p0 + (q0 + 3) = r3 by omega] at c3
             obtain ⟨b0, hb0⟩ : ∃ b, b = bs.getD q0 0 := ⟨_, rfl⟩
             obtain ⟨b1, hb1⟩ : ∃ b, b = bs.getD (q0 + 1) 0 := ⟨_, rfl⟩
             obtain ⟨b2, hb2⟩ : ∃ b, b = bs.getD (q0 + 2) 0 := ⟨_, rfl⟩
             obtain ⟨b3, hb3⟩ : ∃ b, b = bs.getD (q0 + 3) 0 := ⟨_, rfl⟩
             rw [← hb0] at l0
             simp only [← hb0] at c0
             rw [← hb1] at l1
             simp only [← hb1] at c1
             rw [← hb2] at l2
             simp only [← hb2] at c2
             rw [← hb3] at l3
             simp only [← hb3] at c3
             obtain ⟨e1, h1⟩ : ∃ e, e = b0 * 256 := ⟨_, rfl⟩
             obtain ⟨e2, h2⟩ : ∃ e, e = e1 + b1 := ⟨_, rfl⟩
             obtain ⟨e3, h3⟩ : ∃ e, e = e2 * 256 := ⟨_, rfl⟩
             obtain ⟨e4, h4⟩ : ∃ e, e = e3 + b2 := ⟨_, rfl⟩
             obtain ⟨e5, h5⟩ : ∃ e, e = e4 * 256 := ⟨_, rfl⟩
             obtain ⟨e6, h6⟩ : ∃ e, e = e5 + b3 := ⟨_, rfl⟩
             have Bm : (word bs k).toNat = e6 := by
               unfold word
               rw [← hq0, ← hb0, ← hb1, ← hb2, ← hb3, BitVec.toNat_ofNat, Nat.mod_eq_of_lt (by omega)]
               omega
             have A6 : sched bs (k + 1) = sched bs k ++ [word bs k] := by
               show sched bs k ++ [nextWord bs (sched bs k) k] = _
               unfold nextWord
               rw [if_pos hk16]
             have hrN : r3 < N := by have := A3.o; have := B1.o; have := Cf.o; omega
             have a0 := at_byte mb mo N ocP r0 (by omega)
             have a1 := at_byte mb mo N ocP r1 (by omega)
             have a2 := at_byte mb mo N ocP r2 (by omega)
             have a3 := at_byte mb mo N ocP r3 hrN
             have w0 := i64_add p0 q0 (by have := A3.o; omega)
             have hq64 : (q0 : Int) < 64 := by omega
             have B0 := Hh (show 4 * (k + 1) = q0 + 4 ∧ k + 1 ≤ 16 ∧ 64 - (q0 + 4) < 64 - q0 by omega)
             have Du : r0 < 4611686018427387904 := by have := A3.o; omega
             have Ds : q0 < 4611686018427387904 := by omega
             have Ez := Hh Bm
             have Bs := Hh A6
             have Dv : r0 < 2000000 := by have := A3.o; omega
             have Dt : q0 < 64 := by omega
             have D8 := Hh (wrap64_4 q0 (by omega))
             have w1 := i64_1 r0 (by omega)
             have w2 := i64_2 r0 (by omega)
             have w3 := i64_3 r0 (by omega)
             rw [← hr0] at w0
             rw [← hr1] at w1
             rw [← hr2] at w2
             rw [← hr3] at w3
             obtain ⟨⟨f1, f2, f3, f4, f5, f6⟩, ⟨f7, f8, f9, f10⟩, -⟩ := word_facts l0 l1 l2 l3 h1 h2 h3 h4 h5 h6
             have HC := Hh (show ∀ v, Below wJ.heap.size wJ v → v.cell? ⟨mb, mo + r0, none⟩ = some (.int .u8 (b0 : Int)) ∧ v.cell? ⟨mb, mo + r1, none⟩ = some (.int .u8 (b1 : Int)) ∧ v.cell? ⟨mb, mo + r2, none⟩ = some (.int .u8 (b2 : Int)) ∧ v.cell? ⟨mb, mo + r3, none⟩ = some (.int .u8 (b3 : Int)) from fun v hv => ⟨c0 v hv, c1 v hv, c2 v hv, c3 v hv⟩)
             have Ak : ((wr.alloc (.cells #[.int .u32 (e6 : Int)] 52)).drew).ownsRow wJ.heap.size 52 1 (.slice oa k oc) k (wcells (sched bs k)) := (Ab.o.alloc _).drew
             have Ae := Hh Ak
             have Af := Hh (show Below wJ.heap.size wJ ((wr.alloc (.cells #[.int .u32 (e6 : Int)] 52)).drew) from (Aa.o.alloc Aa.o.size _).drew)
             have C8 := Hh (show k + 1 ≤ maxLen by unfold maxLen; omega)
             have A9 := Hh (show (k + 1) * 4 ≤ 140737488355328 by omega)
             have hS0 := HC.o wr Aa.o
             have hSb := HC.o _ Af.o
             have Bj : wJ.heap.size ≤ ((wr.alloc (.cells #[.int .u32 (e6 : Int)] 52)).drew).heap.size := Af.o.size
             have An := Hh Bj
             clear Ak Bj c0 c1 c2 c3 Ah hbv hr0 hr1 hr2 hr3 hb0 hb1 hb2 hb3 h1 h2 h3 h4 h5 h6 Bm A6 hrN Du Ds Dv Dt l0 l1 l2 l3 hq0 hk hk16
             as_aux_lemma =>
               go_upto_region 20 with (fail)
               refine wp_region_noPanic ?_
               refine wp_region_held_drew (S := (fun v => v.cell? ⟨mb, mo + r0, none⟩ = some (.int .u8 (b0 : Int)) ∧ v.cell? ⟨mb, mo + r1, none⟩ = some (.int .u8 (b1 : Int)) ∧ v.cell? ⟨mb, mo + r2, none⟩ = some (.int .u8 (b2 : Int)) ∧ v.cell? ⟨mb, mo + r3, none⟩ = some (.int .u8 (b3 : Int)))) (by kernel_rfl) hS0 (fun hH0 => ?_)
               refine tl 0 (v := ((.slice oa k oc))) rfl (by intro w' hS; obtain ⟨z0, z1, z2, z3⟩ := hS; go_simp) hH0 ?_
               simp only [qc]
               refine tl 1 (v := ((.slice (some ⟨mb, mo, none⟩) N ocP))) rfl (by intro w' hS; obtain ⟨z0, z1, z2, z3⟩ := hS; go_simp) hH0 ?_
               simp only [qc]
               refine tl 2 (v := (.int .i64 (p0 : Int))) rfl (by intro w' hS; obtain ⟨z0, z1, z2, z3⟩ := hS; go_simp) hH0 ?_
               simp only [qc]
               refine tl 3 (v := (.int .i64 (q0 : Int))) rfl (by intro w' hS; obtain ⟨z0, z1, z2, z3⟩ := hS; go_simp) hH0 ?_
               simp only [qc]
               refine tl 4 (v := (.int .i64 (r0 : Int))) rfl (by intro w' hS; obtain ⟨z0, z1, z2, z3⟩ := hS; go_simp) hH0 ?_
               simp only [qc]
               refine tl 5 (v := ((.pointer (some ⟨mb, mo + r0, none⟩)))) rfl (by intro w' hS; obtain ⟨z0, z1, z2, z3⟩ := hS; go_simp) hH0 ?_
               simp only [qc]
               refine tl 6 (v := (.int .u8 (b0 : Int))) rfl (by intro w' hS; obtain ⟨z0, z1, z2, z3⟩ := hS; go_simp) hH0 ?_
               simp only [qc]
               refine tl 7 (v := (.int .u32 (b0 : Int))) rfl (by intro w' hS; obtain ⟨z0, z1, z2, z3⟩ := hS; go_simp) hH0 ?_
               simp only [qc]
               refine tl 8 (v := (.int .u32 (e1 : Int))) rfl (by intro w' hS; obtain ⟨z0, z1, z2, z3⟩ := hS; go_simp) hH0 ?_
               simp only [qc]
               refine tl 9 (v := ((.slice (some ⟨mb, mo, none⟩) N ocP))) rfl (by intro w' hS; obtain ⟨z0, z1, z2, z3⟩ := hS; go_simp) hH0 ?_
               simp only [qc]
               refine tl 10 (v := (.int .i64 (p0 : Int))) rfl (by intro w' hS; obtain ⟨z0, z1, z2, z3⟩ := hS; go_simp) hH0 ?_
               simp only [qc]
               refine tl 11 (v := (.int .i64 (q0 : Int))) rfl (by intro w' hS; obtain ⟨z0, z1, z2, z3⟩ := hS; go_simp) hH0 ?_
               simp only [qc]
               refine tl 12 (v := (.int .i64 (r0 : Int))) rfl (by intro w' hS; obtain ⟨z0, z1, z2, z3⟩ := hS; go_simp) hH0 ?_
               simp only [qc]
               refine tl 13 (v := (.int .i64 (r1 : Int))) rfl (by intro w' hS; obtain ⟨z0, z1, z2, z3⟩ := hS; go_simp) hH0 ?_
               simp only [qc]
               refine tl 14 (v := ((.pointer (some ⟨mb, mo + r1, none⟩)))) rfl (by intro w' hS; obtain ⟨z0, z1, z2, z3⟩ := hS; go_simp) hH0 ?_
               simp only [qc]
               refine tl 15 (v := (.int .u8 (b1 : Int))) rfl (by intro w' hS; obtain ⟨z0, z1, z2, z3⟩ := hS; go_simp) hH0 ?_
               simp only [qc]
               refine tl 16 (v := (.int .u32 (b1 : Int))) rfl (by intro w' hS; obtain ⟨z0, z1, z2, z3⟩ := hS; go_simp) hH0 ?_
               simp only [qc]
               refine tl 17 (v := (.int .u32 (e2 : Int))) rfl (by intro w' hS; obtain ⟨z0, z1, z2, z3⟩ := hS; go_simp) hH0 ?_
               simp only [qc]
               refine tl 18 (v := (.int .u32 (e3 : Int))) rfl (by intro w' hS; obtain ⟨z0, z1, z2, z3⟩ := hS; go_simp) hH0 ?_
               simp only [qc]
               refine tl 19 (v := ((.slice (some ⟨mb, mo, none⟩) N ocP))) rfl (by intro w' hS; obtain ⟨z0, z1, z2, z3⟩ := hS; go_simp) hH0 ?_
               simp only [qc]
               refine tl 20 (v := (.int .i64 (p0 : Int))) rfl (by intro w' hS; obtain ⟨z0, z1, z2, z3⟩ := hS; go_simp) hH0 ?_
               simp only [qc]
               refine tl 21 (v := (.int .i64 (q0 : Int))) rfl (by intro w' hS; obtain ⟨z0, z1, z2, z3⟩ := hS; go_simp) hH0 ?_
               simp only [qc]
               refine tl 22 (v := (.int .i64 (r0 : Int))) rfl (by intro w' hS; obtain ⟨z0, z1, z2, z3⟩ := hS; go_simp) hH0 ?_
               simp only [qc]
               refine tl 23 (v := (.int .i64 (r2 : Int))) rfl (by intro w' hS; obtain ⟨z0, z1, z2, z3⟩ := hS; go_simp) hH0 ?_
               simp only [qc]
               refine tl 24 (v := ((.pointer (some ⟨mb, mo + r2, none⟩)))) rfl (by intro w' hS; obtain ⟨z0, z1, z2, z3⟩ := hS; go_simp) hH0 ?_
               simp only [qc]
               refine tl 25 (v := (.int .u8 (b2 : Int))) rfl (by intro w' hS; obtain ⟨z0, z1, z2, z3⟩ := hS; go_simp) hH0 ?_
               simp only [qc]
               refine tl 26 (v := (.int .u32 (b2 : Int))) rfl (by intro w' hS; obtain ⟨z0, z1, z2, z3⟩ := hS; go_simp) hH0 ?_
               simp only [qc]
               refine tl 27 (v := (.int .u32 (e4 : Int))) rfl (by intro w' hS; obtain ⟨z0, z1, z2, z3⟩ := hS; go_simp) hH0 ?_
               simp only [qc]
               refine tl 28 (v := (.int .u32 (e5 : Int))) rfl (by intro w' hS; obtain ⟨z0, z1, z2, z3⟩ := hS; go_simp) hH0 ?_
               simp only [qc]
               refine tl 29 (v := ((.slice (some ⟨mb, mo, none⟩) N ocP))) rfl (by intro w' hS; obtain ⟨z0, z1, z2, z3⟩ := hS; go_simp) hH0 ?_
               simp only [qc]
               refine tl 30 (v := (.int .i64 (p0 : Int))) rfl (by intro w' hS; obtain ⟨z0, z1, z2, z3⟩ := hS; go_simp) hH0 ?_
               simp only [qc]
               refine tl 31 (v := (.int .i64 (q0 : Int))) rfl (by intro w' hS; obtain ⟨z0, z1, z2, z3⟩ := hS; go_simp) hH0 ?_
               simp only [qc]
               refine tl 32 (v := (.int .i64 (r0 : Int))) rfl (by intro w' hS; obtain ⟨z0, z1, z2, z3⟩ := hS; go_simp) hH0 ?_
               simp only [qc]
               refine tl 33 (v := (.int .i64 (r3 : Int))) rfl (by intro w' hS; obtain ⟨z0, z1, z2, z3⟩ := hS; go_simp) hH0 ?_
               simp only [qc]
               refine tl 34 (v := ((.pointer (some ⟨mb, mo + r3, none⟩)))) rfl (by intro w' hS; obtain ⟨z0, z1, z2, z3⟩ := hS; go_simp) hH0 ?_
               simp only [qc]
               refine tl 35 (v := (.int .u8 (b3 : Int))) rfl (by intro w' hS; obtain ⟨z0, z1, z2, z3⟩ := hS; go_simp) hH0 ?_
               simp only [qc]
               refine tl 36 (v := (.int .u32 (b3 : Int))) rfl (by intro w' hS; obtain ⟨z0, z1, z2, z3⟩ := hS; go_simp) hH0 ?_
               simp only [qc]
               refine tl 37 (v := (.int .u32 (e6 : Int))) rfl (by intro w' hS; obtain ⟨z0, z1, z2, z3⟩ := hS; go_simp) hH0 ?_
               simp only [qc]
               refine rdy [38] (ar1 rfl fun K hK => ?_)
               go_simp
               refine hK _ _ hSb fun hH1 => ?_
               clear hK K
               try simp only [qc]
               refine rdy [39] (ar1 rfl fun K hK => ?_)
               refine step_append_lies _ (by rfl) _ _ 205 (by rfl) wJ.heap.size 52 iu (.int .u32 0) 1 4 Tryz.underlying205 hiu Cu Cv Cw rfl (by decide) (.slice oa k oc) k (wcells (sched bs k)) (by rfl) Ae.o ⟨wr.heap.size, 0, none⟩ 1 1 [.int .u32 (e6 : Int)] (by rfl) (by rfl) (World.news_of_block (w := (wr.alloc (.cells #[.int .u32 (e6 : Int)] 52)).drew) (cs := #[.int .u32 (e6 : Int)]) (t := 52) (fr := (0, 0)) (heap_alloc_new wr _)) (by intro v hv; rw [List.mem_singleton] at hv; rw [hv]; rfl) (by decide) C8.o A9.o An.o _ rfl ?_
               intro g6 cap6 w6 Ad Ai Bt Bx
               have Az : Below wJ.heap.size wJ w6 := Af.o.grown Ai An.o (own_blk Ae.o)
               have hS6 := HC.o w6 Az
               clear Ai Bt Bx
               refine hK _ _ hS6 fun hH2 => ?_
               clear hK K
               try simp only [qc]
               refine tl 40 (v := ((.slice (some ⟨g6, 0, none⟩) (k + 1) cap6))) rfl (by intro w' hS; obtain ⟨z0, z1, z2, z3⟩ := hS; go_simp) hH2 ?_
               simp only [qc]
               refine wpAnyH_done (by kernel_rfl) ?_ _
               refine NoPanic.normal ?_
               have Ag := Hh (show w6.ownsRow wJ.heap.size 52 1 (.slice (some ⟨g6, 0, none⟩) (k + 1) cap6) (k + 1) (wcells (sched bs (k + 1))) by
                 rw [Bs.o, wcells_snoc, Ez.o]; exact Ad)
               have Au := Hh Az
               clear Ad Az hS0 hSb hS6 hH0 hH1 hH2 HC Ae Af A9 C8 An
               clear f1 f2 f3 f4 f5 f6 f7 f8 f9 f10 w0 w1 w2 w3 a0 a1 a2 a3
               have w4 := D8.o
               go_wp2
               go_roundw
               case rel => exact ⟨k + 1, some ⟨g6, 0, none⟩, cap6, by rw [B0.o.1]; first | rfl | exact congrArg (Value.int .i64) D8.o, rfl, B0.o.2.1, Ag.o, Au.o⟩
               case measure =>
                 first | exact B0.o.2.2 | (show 64 - (intOf (Value.int .i64 (wrap64 ((q0 : Int) + 4)))).toNat < _; rw [w4]; exact B0.o.2.2)
           · have ek : k = 16 := by omega
             subst ek
             rw [show ((4 * 16 : Nat) : Int) = 64 from rfl]
             have Cg := Hh Ab.o
             have Ca := Hh Aa.o
             clear Ab Aa
             go_wp2_with fail
             go_loopw [12, 14] (fun ov iv wy => ∃ (k : Nat) (oa : Option Addr) (oc : Nat), iv = .int .i64 (k : Int) ∧ ov = .slice oa k oc ∧ 16 ≤ k ∧ k ≤ 64 ∧ wy.ownsRow wJ.heap.size 52 1 (.slice oa k oc) k (wcells (sched bs k)) ∧ Below wJ.heap.size wJ wy) (fun _ iv _ => 64 - (intOf iv).toNat)
             case atStart => exact ⟨16, _, _, rfl, rfl, Nat.le_refl _, by omega, Cg.o, Ca.o⟩
             case round =>
               clear Cg Ca
               obtain ⟨k, oa, oc, rfl, rfl, hk0, hk, Aj, Ac⟩ := hrel
               have Ab := Hh Aj
               have Aa := Hh Ac
               clear Aj Ac
               by_cases hk64 : k < 64
               · obtain ⟨gw, cap, cur, ew, hB, hh, z1, z2, z3, z4⟩ := own_open Ab.o (by omega)
                 injection ew with ew1 ew2 ew3
                 subst ew1
                 have Ah : ∀ i, i < k → wr.cell? ⟨gw, i, none⟩ = some (.int .u32 (((sched bs k).getD i 0).toNat : Int)) := fun i hi => by
                   refine hh.cell_is ?_
                   rw [z4 i (by omega)]
                   exact wcells_get _ i (by rw [sched_length]; exact hi)
                 have c16 := Ah (k - 16) (by omega)
                 have c15 := Ah (k - 15) (by omega)
                 have c7 := Ah (k - 7) (by omega)
                 have c2 := Ah (k - 2) (by omega)
                 obtain ⟨i16, Bw⟩ : ∃ i, i = k - 16 := ⟨_, rfl⟩
                 obtain ⟨i15, Ct⟩ : ∃ i, i = k - 15 := ⟨_, rfl⟩
                 obtain ⟨i7, hi7⟩ : ∃ i, i = k - 7 := ⟨_, rfl⟩
                 obtain ⟨i2, hi2⟩ : ∃ i, i = k - 2 := ⟨_, rfl⟩
                 obtain ⟨x16, h16⟩ : ∃ x, x = (sched bs k).getD (k - 16) 0 := ⟨_, rfl⟩
                 obtain ⟨x15, h15⟩ : ∃ x, x = (sched bs k).getD (k - 15) 0 := ⟨_, rfl⟩
                 obtain ⟨x7, h7⟩ : ∃ x, x = (sched bs k).getD (k - 7) 0 := ⟨_, rfl⟩
                 obtain ⟨x2, h2⟩ : ∃ x, x = (sched bs k).getD (k - 2) 0 := ⟨_, rfl⟩
                 rw [← h16, ← Bw] at c16
                 rw [← h15, ← Ct] at c15
                 rw [← h7, ← hi7] at c7
                 rw [← h2, ← hi2] at c2
                 obtain ⟨y0, hy0⟩ : ∃ x, x = lil0 x15 := ⟨_, rfl⟩
                 obtain ⟨y1, hy1⟩ : ∃ x, x = lil1 x2 := ⟨_, rfl⟩
                 obtain ⟨s1, hs1⟩ : ∃ x, x = x16 + y0 := ⟨_, rfl⟩
                 obtain ⟨s2, hs2⟩ : ∃ x, x = s1 + x7 := ⟨_, rfl⟩
                 obtain ⟨s3, hs3⟩ : ∃ x, x = s2 + y1 := ⟨_, rfl⟩
                 have A6 : sched bs (k + 1) = sched bs k ++ [s3] := by
                   show sched bs k ++ [nextWord bs (sched bs k) k] = _
                   unfold nextWord
                   rw [if_neg (by omega), ← h16, ← h15, ← h7, ← h2, hs3, hs2, hs1, hy0, hy1]
                 have Bs := Hh A6
                 have Ce := Hh (show (wcells (sched bs k))[i16]? = some (.int .u32 (x16.toNat : Int)) ∧ (wcells (sched bs k))[i7]? = some (.int .u32 (x7.toNat : Int)) by rw [Bw, hi7, h16, h7]; exact ⟨wcells_get _ _ (by rw [sched_length]; omega), wcells_get _ _ (by rw [sched_length]; omega)⟩)
                 have a16 : ∀ w, (Instr.indexAt 205 (.slice (some ⟨gw, 0, none⟩) k oc) (.int .i64 ((k : Int) - 16))).run Tryz.prog w = .ok (.pointer (some ⟨gw, i16, none⟩)) w := fun w => by
                   have := at_word gw k oc i16 (by omega) w
                   rwa [show ((i16 : Nat) : Int) = (k : Int) - 16 by omega] at this
                 have a15 : ∀ w, (Instr.indexAt 205 (.slice (some ⟨gw, 0, none⟩) k oc) (.int .i64 ((k : Int) - 15))).run Tryz.prog w = .ok (.pointer (some ⟨gw, i15, none⟩)) w := fun w => by
                   have := at_word gw k oc i15 (by omega) w
                   rwa [show ((i15 : Nat) : Int) = (k : Int) - 15 by omega] at this
                 have a7 : ∀ w, (Instr.indexAt 205 (.slice (some ⟨gw, 0, none⟩) k oc) (.int .i64 ((k : Int) - 7))).run Tryz.prog w = .ok (.pointer (some ⟨gw, i7, none⟩)) w := fun w => by
                   have := at_word gw k oc i7 (by omega) w
                   rwa [show ((i7 : Nat) : Int) = (k : Int) - 7 by omega] at this
                 have a2 : ∀ w, (Instr.indexAt 205 (.slice (some ⟨gw, 0, none⟩) k oc) (.int .i64 ((k : Int) - 2))).run Tryz.prog w = .ok (.pointer (some ⟨gw, i2, none⟩)) w := fun w => by
                   have := at_word gw k oc i2 (by omega) w
                   rwa [show ((i2 : Nat) : Int) = (k : Int) - 2 by omega] at this
                 have hk64' : (k : Int) < 64 := by omega
                 have Am := Hh (show 16 ≤ k + 1 ∧ k + 1 ≤ 64 ∧ 64 - (k + 1) < 64 - k by omega)
                 have C8 := Hh (show k + 1 ≤ maxLen by unfold maxLen; omega)
                 have A9 := Hh (show (k + 1) * 4 ≤ 140737488355328 by omega)
                 have hl0 := lil0_num x15
                 have hl1 := lil1_num x2
                 rw [← hy0] at hl0
                 rw [← hy1] at hl1
                 have d1 := wadd_wd x16 y0
                 have d2 := wadd_wd s1 x7
                 have d3 := wadd_wd s2 y1
                 rw [← hs1] at d1
                 rw [← hs2] at d2
                 rw [← hs3] at d3
                 obtain ⟨v16, v15, v7, v2⟩ := back_facts2 hk0 hk64
                 have hkb : k < 4611686018427387904 := Nat.lt_trans hk64 (by decide)
                 have Cl := Hh (wrap64_succ k hkb)
                 clear Ah Bw Ct hi7 hi2 h16 h15 h7 h2 hy0 hy1 hs1 hs2 hs3 A6 hB hh z1 z2 z3 z4 ew2 ew3 hkb hk0 hk hk64
                 have Ev := Hh (turn_all x15 7 (by decide) (by decide) 7 rfl)
                 have Ew := Hh (turn_all x15 18 (by decide) (by decide) 18 rfl)
                 have Ex := Hh (turn_all x2 17 (by decide) (by decide) 17 rfl)
                 have Ey := Hh (turn_all x2 19 (by decide) (by decide) 19 rfl)
                 have Dc := Hh (And.intro d1 (And.intro d2 d3))
                 clear d1 d2 d3
                 have hS0 : wr.cell? ⟨gw, i15, none⟩ = some (.int .u32 (x15.toNat : Int)) := c15
                 go_upto_region 24 with (fail)
                 as_aux_lemma =>
                   refine wp_region_noPanic ?_
                   refine wp_region_held_drew (S := (fun v => v.cell? ⟨gw, i15, none⟩ = some (.int .u32 (x15.toNat : Int)))) (by kernel_rfl) hS0 (fun hH0 => ?_)
                   refine tl 0 (v := ((.slice (some ⟨gw, 0, none⟩) k oc))) rfl (by intro w' hS; go_simp) hH0 ?_
                   simp only [qc]
                   refine tl 1 (v := (.int .i64 (k : Int))) rfl (by intro w' hS; go_simp) hH0 ?_
                   simp only [qc]
                   refine tl 2 (v := (.int .i64 ((k : Int) - 15))) rfl (by intro w' hS; go_simp) hH0 ?_
                   simp only [qc]
                   refine tl 3 (v := ((.pointer (some ⟨gw, i15, none⟩)))) rfl (by intro w' hS; go_simp) hH0 ?_
                   simp only [qc]
                   refine tl 4 (v := (.int .u32 (x15.toNat : Int))) rfl (by intro w' hS; go_simp) hH0 ?_
                   simp only [qc]
                   refine tl 6 (v := ((.slice (some ⟨gw, 0, none⟩) k oc))) rfl (by intro w' hS; go_simp) hH0 ?_
                   simp only [qc]
                   refine tl 7 (v := (.int .i64 (k : Int))) rfl (by intro w' hS; go_simp) hH0 ?_
                   simp only [qc]
                   refine tl 8 (v := (.int .i64 ((k : Int) - 15))) rfl (by intro w' hS; go_simp) hH0 ?_
                   simp only [qc]
                   refine tl 9 (v := ((.pointer (some ⟨gw, i15, none⟩)))) rfl (by intro w' hS; go_simp) hH0 ?_
                   simp only [qc]
                   refine tl 10 (v := (.int .u32 (x15.toNat : Int))) rfl (by intro w' hS; go_simp) hH0 ?_
                   simp only [qc]
                   refine tl 13 (v := ((.slice (some ⟨gw, 0, none⟩) k oc))) rfl (by intro w' hS; go_simp) hH0 ?_
                   simp only [qc]
                   refine tl 14 (v := (.int .i64 (k : Int))) rfl (by intro w' hS; go_simp) hH0 ?_
                   simp only [qc]
                   refine tl 15 (v := (.int .i64 ((k : Int) - 15))) rfl (by intro w' hS; go_simp) hH0 ?_
                   simp only [qc]
                   refine tl 16 (v := ((.pointer (some ⟨gw, i15, none⟩)))) rfl (by intro w' hS; go_simp) hH0 ?_
                   simp only [qc]
                   refine tl 17 (v := (.int .u32 (x15.toNat : Int))) rfl (by intro w' hS; go_simp) hH0 ?_
                   simp only [qc]
                   refine tl 18 (v := (.int .u32 ((x15.toNat : Int) / 8))) rfl (by intro w' hS; go_simp) hH0 ?_
                   simp only [qc]
                   refine rdy [5] (ar1 rfl fun K hK => ?_)
                   go_simp
                   refine (Ev.o _).mono ?_
                   rintro _ _ ⟨rfl, rfl⟩
                   refine hK _ _ hH0 fun hH1 => ?_
                   clear hK K
                   try simp only [qc]
                   refine rdy [11] (ar1 rfl fun K hK => ?_)
                   go_simp
                   refine (Ew.o _).mono ?_
                   rintro _ _ ⟨rfl, rfl⟩
                   refine hK _ _ hH1 fun hH2 => ?_
                   clear hK K
                   try simp only [qc]
                   refine tl 12 (v := (.int .u32 (bits .xor .u32 ((rotr 7 x15).toNat : Int) ((rotr 18 x15).toNat : Int)))) rfl (by intro w' hS; go_simp) hH2 ?_
                   simp only [qc]
                   refine tl 19 (v := (.int .u32 (y0.toNat : Int))) rfl (by intro w' hS; go_simp) hH2 ?_
                   simp only [qc]
                   refine tl 20 (v := (.int .u32 (y0.toNat : Int))) rfl (by intro w' hS; go_simp) hH2 ?_
                   simp only [qc]
                   refine wpAnyH_done (by kernel_rfl) ?_ _
                   refine NoPanic.normal ?_
                   clear hS0 hH0 hH1 hH2
                   have hS0 : wr.drew.cell? ⟨gw, i2, none⟩ = some (.int .u32 (x2.toNat : Int)) := c2
                   go_upto_region 25 with (fail)
                   refine wp_region_noPanic ?_
                   refine wp_region_held_drew (S := (fun v => v.cell? ⟨gw, i2, none⟩ = some (.int .u32 (x2.toNat : Int)))) (by kernel_rfl) hS0 (fun hH0 => ?_)
                   refine tl 0 (v := ((.slice (some ⟨gw, 0, none⟩) k oc))) rfl (by intro w' hS; go_simp) hH0 ?_
                   simp only [qc]
                   refine tl 1 (v := (.int .i64 (k : Int))) rfl (by intro w' hS; go_simp) hH0 ?_
                   simp only [qc]
                   refine tl 2 (v := (.int .i64 ((k : Int) - 2))) rfl (by intro w' hS; go_simp) hH0 ?_
                   simp only [qc]
                   refine tl 3 (v := ((.pointer (some ⟨gw, i2, none⟩)))) rfl (by intro w' hS; go_simp) hH0 ?_
                   simp only [qc]
                   refine tl 4 (v := (.int .u32 (x2.toNat : Int))) rfl (by intro w' hS; go_simp) hH0 ?_
                   simp only [qc]
                   refine tl 6 (v := ((.slice (some ⟨gw, 0, none⟩) k oc))) rfl (by intro w' hS; go_simp) hH0 ?_
                   simp only [qc]
                   refine tl 7 (v := (.int .i64 (k : Int))) rfl (by intro w' hS; go_simp) hH0 ?_
                   simp only [qc]
                   refine tl 8 (v := (.int .i64 ((k : Int) - 2))) rfl (by intro w' hS; go_simp) hH0 ?_
                   simp only [qc]
                   refine tl 9 (v := ((.pointer (some ⟨gw, i2, none⟩)))) rfl (by intro w' hS; go_simp) hH0 ?_
                   simp only [qc]
                   refine tl 10 (v := (.int .u32 (x2.toNat : Int))) rfl (by intro w' hS; go_simp) hH0 ?_
                   simp only [qc]
                   refine tl 13 (v := ((.slice (some ⟨gw, 0, none⟩) k oc))) rfl (by intro w' hS; go_simp) hH0 ?_
                   simp only [qc]
                   refine tl 14 (v := (.int .i64 (k : Int))) rfl (by intro w' hS; go_simp) hH0 ?_
                   simp only [qc]
                   refine tl 15 (v := (.int .i64 ((k : Int) - 2))) rfl (by intro w' hS; go_simp) hH0 ?_
                   simp only [qc]
                   refine tl 16 (v := ((.pointer (some ⟨gw, i2, none⟩)))) rfl (by intro w' hS; go_simp) hH0 ?_
                   simp only [qc]
                   refine tl 17 (v := (.int .u32 (x2.toNat : Int))) rfl (by intro w' hS; go_simp) hH0 ?_
                   simp only [qc]
                   refine tl 18 (v := (.int .u32 ((x2.toNat : Int) / 1024))) rfl (by intro w' hS; go_simp) hH0 ?_
                   simp only [qc]
                   refine rdy [5] (ar1 rfl fun K hK => ?_)
                   go_simp
                   refine (Ex.o _).mono ?_
                   rintro _ _ ⟨rfl, rfl⟩
                   refine hK _ _ hH0 fun hH1 => ?_
                   clear hK K
                   try simp only [qc]
                   refine rdy [11] (ar1 rfl fun K hK => ?_)
                   go_simp
                   refine (Ey.o _).mono ?_
                   rintro _ _ ⟨rfl, rfl⟩
                   refine hK _ _ hH1 fun hH2 => ?_
                   clear hK K
                   try simp only [qc]
                   refine tl 12 (v := (.int .u32 (bits .xor .u32 ((rotr 17 x2).toNat : Int) ((rotr 19 x2).toNat : Int)))) rfl (by intro w' hS; go_simp) hH2 ?_
                   simp only [qc]
                   refine tl 19 (v := (.int .u32 (y1.toNat : Int))) rfl (by intro w' hS; go_simp) hH2 ?_
                   simp only [qc]
                   refine tl 20 (v := (.int .u32 (y1.toNat : Int))) rfl (by intro w' hS; go_simp) hH2 ?_
                   simp only [qc]
                   refine wpAnyH_done (by kernel_rfl) ?_ _
                   refine NoPanic.normal ?_
                   clear hS0 hH0 hH1 hH2 hl0 hl1 a15 a2 c15 c2 v15 v2
                   have d1 := Dc.o.1
                   have d2 := Dc.o.2.1
                   have d3 := Dc.o.2.2
                   have d16 : wr.drew.drew.cell? ⟨gw, i16, none⟩ = some (.int .u32 (x16.toNat : Int)) := c16
                   have d7 : wr.drew.drew.cell? ⟨gw, i7, none⟩ = some (.int .u32 (x7.toNat : Int)) := c7
                   have hownV : wr.drew.drew.ownsRow wJ.heap.size 52 1 (.slice (some ⟨gw, 0, none⟩) k oc) k (wcells (sched bs k)) := (Ab.o.drew).drew
                   have hbelV : Below wJ.heap.size wJ wr.drew.drew := (Aa.o.drew).drew
                   clear c16 c7 Ab Aa
                   generalize wr.drew.drew = wV at d16 d7 hownV hbelV ⊢
                   have hS0 := And.intro d16 d7
                   have hkV := Kept.of_below (S := fun _ => False) (show Below wV.heap.size wV ((wV.alloc (.cells #[.int .u32 (s3.toNat : Int)] 52)).drew) from ((Below.refl _ _).alloc (Nat.le_refl _) _).drew)
                   have hSb := And.intro (cell_held hkV d16 (fun h => h)) (cell_held hkV d7 (fun h => h))
                   have Ak : ((wV.alloc (.cells #[.int .u32 (s3.toNat : Int)] 52)).drew).ownsRow wJ.heap.size 52 1 (.slice (some ⟨gw, 0, none⟩) k oc) k (wcells (sched bs k)) := (hownV.alloc _).drew
                   have Ae := Hh Ak
                   have Af := Hh (show Below wJ.heap.size wJ ((wV.alloc (.cells #[.int .u32 (s3.toNat : Int)] 52)).drew) from (hbelV.alloc hbelV.size _).drew)
                   have An := Hh Af.o.size
                   clear Ak hownV hbelV hkV d16 d7
                   go_upto_region 26 with (fail)
                   refine wp_region_noPanic ?_
                   refine wp_region_held_drew (S := (fun v => v.cell? ⟨gw, i16, none⟩ = some (.int .u32 (x16.toNat : Int)) ∧ v.cell? ⟨gw, i7, none⟩ = some (.int .u32 (x7.toNat : Int)))) (by kernel_rfl) hS0 (fun hH0 => ?_)
                   refine tl 0 (v := ((.slice (some ⟨gw, 0, none⟩) k oc))) rfl (by intro w' hS; obtain ⟨z0, z1⟩ := hS; go_simp) hH0 ?_
                   simp only [qc]
                   refine tl 1 (v := ((.slice (some ⟨gw, 0, none⟩) k oc))) rfl (by intro w' hS; obtain ⟨z0, z1⟩ := hS; go_simp) hH0 ?_
                   simp only [qc]
                   refine tl 2 (v := (.int .i64 (k : Int))) rfl (by intro w' hS; obtain ⟨z0, z1⟩ := hS; go_simp) hH0 ?_
                   simp only [qc]
                   refine tl 3 (v := (.int .i64 ((k : Int) - 16))) rfl (by intro w' hS; obtain ⟨z0, z1⟩ := hS; go_simp) hH0 ?_
                   simp only [qc]
                   refine tl 4 (v := ((.pointer (some ⟨gw, i16, none⟩)))) rfl (by intro w' hS; obtain ⟨z0, z1⟩ := hS; go_simp) hH0 ?_
                   simp only [qc]
                   refine tl 5 (v := (.int .u32 (x16.toNat : Int))) rfl (by intro w' hS; obtain ⟨z0, z1⟩ := hS; go_simp) hH0 ?_
                   simp only [qc]
                   refine tl 6 (v := (.int .u32 (y0.toNat : Int))) rfl (by intro w' hS; obtain ⟨z0, z1⟩ := hS; go_simp) hH0 ?_
                   simp only [qc]
                   refine tl 7 (v := (.int .u32 (s1.toNat : Int))) rfl (by intro w' hS; obtain ⟨z0, z1⟩ := hS; go_simp) hH0 ?_
                   simp only [qc]
                   refine tl 8 (v := ((.slice (some ⟨gw, 0, none⟩) k oc))) rfl (by intro w' hS; obtain ⟨z0, z1⟩ := hS; go_simp) hH0 ?_
                   simp only [qc]
                   refine tl 9 (v := (.int .i64 (k : Int))) rfl (by intro w' hS; obtain ⟨z0, z1⟩ := hS; go_simp) hH0 ?_
                   simp only [qc]
                   refine tl 10 (v := (.int .i64 ((k : Int) - 7))) rfl (by intro w' hS; obtain ⟨z0, z1⟩ := hS; go_simp) hH0 ?_
                   simp only [qc]
                   refine tl 11 (v := ((.pointer (some ⟨gw, i7, none⟩)))) rfl (by intro w' hS; obtain ⟨z0, z1⟩ := hS; go_simp) hH0 ?_
                   simp only [qc]
                   refine tl 12 (v := (.int .u32 (x7.toNat : Int))) rfl (by intro w' hS; obtain ⟨z0, z1⟩ := hS; go_simp) hH0 ?_
                   simp only [qc]
                   refine tl 13 (v := (.int .u32 (s2.toNat : Int))) rfl (by intro w' hS; obtain ⟨z0, z1⟩ := hS; go_simp) hH0 ?_
                   simp only [qc]
                   refine tl 14 (v := (.int .u32 (y1.toNat : Int))) rfl (by intro w' hS; obtain ⟨z0, z1⟩ := hS; go_simp) hH0 ?_
                   simp only [qc]
                   refine tl 15 (v := (.int .u32 (s3.toNat : Int))) rfl (by intro w' hS; obtain ⟨z0, z1⟩ := hS; go_simp) hH0 ?_
                   simp only [qc]
                   refine rdy [16] (ar1 rfl fun K hK => ?_)
                   go_simp
                   refine hK _ _ hSb fun hH1 => ?_
                   clear hK K
                   try simp only [qc]
                   refine rdy [17] (ar1 rfl fun K hK => ?_)
                   refine step_append_stays (by rfl) _ _ 205 (by rfl) wJ.heap.size 52 iu (.int .u32 0) 1 4 Tryz.underlying205 hiu Cu Cv Cw rfl (by decide) (.slice (some ⟨gw, 0, none⟩) k oc) k (wcells (sched bs k)) (by rfl) Ae.o ⟨wV.heap.size, 0, none⟩ 1 1 [.int .u32 (s3.toNat : Int)] (by rfl) (by rfl) (World.news_of_block (w := (wV.alloc (.cells #[.int .u32 (s3.toNat : Int)] 52)).drew) (cs := #[.int .u32 (s3.toNat : Int)]) (t := 52) (fr := (0, 0)) (heap_alloc_new wV _)) (by intro v hv; rw [List.mem_singleton] at hv; rw [hv]; rfl) (by decide) C8.o A9.o An.o _ rfl ?_
                   intro g6 cap6 w6 Ad Ai Bt Bx Bz
                   have Az : Below wJ.heap.size wJ w6 := Af.o.grown Ai An.o (own_blk Ae.o)
                   have hS6 := And.intro (Bz gw rfl i16 _ Ce.o.1) (Bz gw rfl i7 _ Ce.o.2)
                   clear Ai Bt Bx Bz
                   refine hK _ _ hS6 fun hH2 => ?_
                   clear hK K
                   try simp only [qc]
                   refine tl 18 (v := ((.slice (some ⟨g6, 0, none⟩) (k + 1) cap6))) rfl (by intro w' hS; obtain ⟨z0, z1⟩ := hS; go_simp) hH2 ?_
                   simp only [qc]
                   refine wpAnyH_done (by kernel_rfl) ?_ _
                   refine NoPanic.normal ?_
                   have Ag := Hh (show w6.ownsRow wJ.heap.size 52 1 (.slice (some ⟨g6, 0, none⟩) (k + 1) cap6) (k + 1) (wcells (sched bs (k + 1))) by rw [Bs.o, wcells_snoc]; exact Ad)
                   have Au := Hh Az
                   clear Ad Az hS0 hSb hS6 hH0 hH1 hH2 d1 d2 d3 v16 v7 a16 a7
                   go_wp2
                   go_roundw
                   case rel => exact ⟨k + 1, some ⟨g6, 0, none⟩, cap6, by first | exact congrArg (Value.int .i64) Cl.o | rfl, rfl, Am.o.1, Am.o.2.1, Ag.o, Au.o⟩
                   case measure =>
                     first | exact Am.o.2.2 | (show 64 - (intOf (Value.int .i64 (wrap64 ((k : Int) + 1)))).toNat < _; rw [Cl.o]; exact Am.o.2.2)
               · have ek : k = 64 := by omega
                 subst ek
                 obtain ⟨gw, cap, cur, ew, hB, hh, z1, z2, z3, z4⟩ := own_open Ab.o (by decide)
                 injection ew with ew1 ew2 ew3
                 subst ew1
                 obtain ⟨WS, hWS⟩ : ∃ x, x = sched bs 64 := ⟨_, rfl⟩
                 have hwl : WS.length = 64 := by rw [hWS, sched_length]
                 obtain ⟨ST, hST⟩ : ∃ x, x = eat K j s0 P := ⟨_, rfl⟩
                 have A7 : ST.length = 8 := by rw [hST]; exact eat_length K s0 HL.o.2 j P
                 have hst := C9.o.below Aa.o C9.o.lt
                 rw [← hST] at hst
                 have cellG : ∀ i, i < 8 → wr.cell? ⟨S0, i, none⟩ = some (.int .u32 ((ST.getD i 0).toNat : Int)) := fun i hi => hst.cell_is (by rw [List.getElem?_toArray]; exact wcells_get _ _ (by omega))
                 have g0 := cellG 0 (by decide)
                 have g1 := cellG 1 (by decide)
                 have g2 := cellG 2 (by decide)
                 have g3 := cellG 3 (by decide)
                 have g4 := cellG 4 (by decide)
                 have g5 := cellG 5 (by decide)
                 have g6 := cellG 6 (by decide)
                 have g7 := cellG 7 (by decide)
                 obtain ⟨x0, e0⟩ : ∃ x, x = ST.getD 0 0 := ⟨_, rfl⟩
                 obtain ⟨x1, e1⟩ : ∃ x, x = ST.getD 1 0 := ⟨_, rfl⟩
                 obtain ⟨x2, e2⟩ : ∃ x, x = ST.getD 2 0 := ⟨_, rfl⟩
                 obtain ⟨x3, e3⟩ : ∃ x, x = ST.getD 3 0 := ⟨_, rfl⟩
                 obtain ⟨x4, e4⟩ : ∃ x, x = ST.getD 4 0 := ⟨_, rfl⟩
                 obtain ⟨x5, e5⟩ : ∃ x, x = ST.getD 5 0 := ⟨_, rfl⟩
                 obtain ⟨x6, e6⟩ : ∃ x, x = ST.getD 6 0 := ⟨_, rfl⟩
                 obtain ⟨x7, e7⟩ : ∃ x, x = ST.getD 7 0 := ⟨_, rfl⟩
                 have Ar : Hid (rnds K WS (St.of ST) 0 = ⟨x0, x1, x2, x3, x4, x5, x6, x7⟩) := Hh (by show St.of ST = _; unfold St.of; rw [← e0, ← e1, ← e2, ← e3, ← e4, ← e5, ← e6, ← e7])
                 rw [← e0] at g0
                 rw [← e1] at g1
                 rw [← e2] at g2
                 rw [← e3] at g3
                 rw [← e4] at g4
                 rw [← e5] at g5
                 rw [← e6] at g6
                 rw [← e7] at g7
                 have hcw : ∀ v, Below wr.heap.size wr v → ∀ i, i < 64 → v.cell? ⟨gw, i, none⟩ = some (.int .u32 ((WS.getD i 0).toNat : Int)) := fun v hv i hi => by
                   refine (hh.below hv hh.lt).cell_is ?_
                   rw [z4 i (by omega), ← hWS]
                   exact wcells_get _ i (by omega)
                 have hck : ∀ v, Below wr.heap.size wr v → ∀ i, i < 64 → v.cell? ⟨S1, i, none⟩ = some (.int .u32 ((K.getD i 0).toNat : Int)) := fun v hv i hi => by
                   have h1 := ((D6.o.kept Bf.o (by have := EB.o; omega)).below Aa.o (D6.o.kept Bf.o (by have := EB.o; omega)).lt)
                   refine (h1.below hv h1.lt).cell_is ?_
                   rw [Ea.o, List.getElem?_toArray]
                   exact wcells_get _ i (by rw [HL.o.1]; exact hi)
                 have Ek := Hh hcw
                 have Ei := Hh hck
                 have Ba := Hh (And.intro hst A7)
                 have Ee := Hh hWS
                 have Ed := Hh hST
                 have Cb := Hh Aa.o
                 obtain ⟨wL, hwL⟩ : ∃ y, y = wr := ⟨_, rfl⟩
                 subst hwL
                 clear cellG hst hcw hck hWS hST hwl A7 hB hh z1 z2 z3 z4 ew2 ew3 e0 e1 e2 e3 e4 e5 e6 e7 Ab Aa hk64 hk hk0
                 go_upto_region 27 with (fail)
                 go_quiet (fail)
                 clear g0 g1 g2 g3 g4 g5 g6 g7
                 go_wp2_with fail
                 go_loopw [25, 17, 18, 19, 20, 21, 22, 23, 24] (fun i a b c d e f g' h wy => ∃ k : Nat, k ≤ 64 ∧ i = .int .i64 (k : Int) ∧
                   a = .int .u32 ((rnds K WS (St.of ST) k).a.toNat : Int) ∧ b = .int .u32 ((rnds K WS (St.of ST) k).b.toNat : Int) ∧ c = .int .u32 ((rnds K WS (St.of ST) k).c.toNat : Int) ∧ d = .int .u32 ((rnds K WS (St.of ST) k).d.toNat : Int) ∧
                   e = .int .u32 ((rnds K WS (St.of ST) k).e.toNat : Int) ∧ f = .int .u32 ((rnds K WS (St.of ST) k).f.toNat : Int) ∧ g' = .int .u32 ((rnds K WS (St.of ST) k).g.toNat : Int) ∧ h = .int .u32 ((rnds K WS (St.of ST) k).h.toNat : Int) ∧
                   Below wL.heap.size wL wy) (fun i _ _ _ _ _ _ _ _ _ => 64 - (intOf i).toNat)
                 case atStart => exact ⟨0, by omega, rfl, by rw [Ar.out], by rw [Ar.out], by rw [Ar.out], by rw [Ar.out], by rw [Ar.out], by rw [Ar.out], by rw [Ar.out], by rw [Ar.out], below_drewN (Below.refl _ _) _⟩
                 case round =>
                   obtain ⟨k, hk, rfl, rfl, rfl, rfl, rfl, rfl, rfl, rfl, rfl, Ac⟩ := hrel
                   have Aa := Hh Ac
                   clear Ac
                   by_cases hlt : k < 64
                   · have ck := Ei.o wr Aa.o k hlt
                     have cw := Ek.o wr Aa.o k hlt
                     have hnx : rnds K WS (St.of ST) (k + 1) = rnd (rnds K WS (St.of ST) k) (K.getD k 0) (WS.getD k 0) := rfl
                     obtain ⟨kk, hkk⟩ : ∃ x, x = K.getD k 0 := ⟨_, rfl⟩
                     obtain ⟨ww, hww⟩ : ∃ x, x = WS.getD k 0 := ⟨_, rfl⟩
                     rw [← hkk, ← hww] at hnx
                     rw [← hkk] at ck
                     rw [← hww] at cw
                     clear hkk hww
                     generalize rnds K WS (St.of ST) k = SS at hnx ⊢
                     obtain ⟨a1, b1, c1, d1, e1, f1, g1, h1⟩ := SS
                     obtain ⟨n1, hn1⟩ : ∃ x, x = ~~~e1 := ⟨_, rfl⟩
                     obtain ⟨p1, hp1⟩ : ∃ x, x = e1 &&& f1 := ⟨_, rfl⟩
                     obtain ⟨p2, hp2⟩ : ∃ x, x = n1 &&& g1 := ⟨_, rfl⟩
                     obtain ⟨ch, hch⟩ : ∃ x, x = p1 ^^^ p2 := ⟨_, rfl⟩
                     obtain ⟨bg, hbg⟩ : ∃ x, x = big1 e1 := ⟨_, rfl⟩
                     obtain ⟨u1, hu1⟩ : ∃ x, x = h1 + bg := ⟨_, rfl⟩
                     obtain ⟨u2, hu2⟩ : ∃ x, x = u1 + ch := ⟨_, rfl⟩
                     obtain ⟨u3, hu3⟩ : ∃ x, x = u2 + kk := ⟨_, rfl⟩
                     obtain ⟨u4, hu4⟩ : ∃ x, x = u3 + ww := ⟨_, rfl⟩
                     obtain ⟨b0, hb0⟩ : ∃ x, x = big0 a1 := ⟨_, rfl⟩
                     obtain ⟨mj, hmj⟩ : ∃ x, x = maj a1 b1 c1 := ⟨_, rfl⟩
                     obtain ⟨yu, hyu⟩ : ∃ x, x = b0 + mj := ⟨_, rfl⟩
                     obtain ⟨dt, hdt⟩ : ∃ x, x = d1 + u4 := ⟨_, rfl⟩
                     obtain ⟨tu, htu⟩ : ∃ x, x = u4 + yu := ⟨_, rfl⟩
                     have Cx : rnds K WS (St.of ST) (k + 1) = ⟨tu, a1, b1, c1, dt, e1, f1, g1⟩ := by
                       rw [hnx]
                       unfold rnd tee you cho
                       simp only
                       rw [htu, hdt, hyu, hu4, hu3, hu2, hu1, hch, hp2, hp1, hn1, hbg, hb0, hmj]
                     have Er := Hh Cx
                     have q1 : IntKind.u32.wrap (4294967295 - (e1.toNat : Int)) = (n1.toNat : Int) := by rw [not_wd, hn1, wrap_wd]
                     have q2 := and_wd e1 f1
                     have q3 := and_wd n1 g1
                     have q4 := xor_wd p1 p2
                     have q5 := big1_num e1
                     have q6 := wadd_wd h1 bg
                     have q7 := wadd_wd u1 ch
                     have q8 := wadd_wd u2 kk
                     have q9 := wadd_wd u3 ww
                     rw [← hp1] at q2
                     rw [← hp2] at q3
                     rw [← hch] at q4
                     rw [← hbg] at q5
                     rw [← hu1] at q6
                     rw [← hu2] at q7
                     rw [← hu3] at q8
                     rw [← hu4] at q9
                     have r1 := big0_num a1
                     have r2 := maj_num a1 b1 c1
                     have r3 := wadd_wd b0 mj
                     have r4 := wadd_wd d1 u4
                     have r5 := wadd_wd u4 yu
                     have r6 := add_wd b0 mj
                     have r7 := add_wd d1 u4
                     have r8 := add_wd u4 yu
                     rw [← hb0] at r1
                     rw [← hmj] at r2
                     rw [← hyu] at r3 r6
                     rw [← hdt] at r4 r7
                     rw [← htu] at r5 r8
                     have HR := Hh (And.intro r1 (And.intro r2 (And.intro r3 (And.intro r4 (And.intro r5 (And.intro r6 (And.intro r7 r8)))))))
                     have T1 := Hh (turn_all e1 6 (by decide) (by decide) 6 rfl)
                     have T2 := Hh (turn_all e1 11 (by decide) (by decide) 11 rfl)
                     have T3 := Hh (turn_all e1 25 (by decide) (by decide) 25 rfl)
                     have T4 := Hh (turn_all a1 2 (by decide) (by decide) 2 rfl)
                     have T5 := Hh (turn_all a1 13 (by decide) (by decide) 13 rfl)
                     have T6 := Hh (turn_all a1 22 (by decide) (by decide) 22 rfl)
                     have aw := at_word gw 64 oc k hlt
                     have hlt' : (k : Int) < 64 := by omega
                     have Am := Hh (show k + 1 ≤ 64 ∧ 64 - (k + 1) < 64 - k by omega)
                     have hkb : k < 4611686018427387904 := Nat.lt_trans hlt (by decide)
                     have Cl := Hh (wrap64_succ k hkb)
                     have hS0 : wr.cell? ⟨S1, k, none⟩ = some (.int .u32 (kk.toNat : Int)) ∧ wr.cell? ⟨gw, k, none⟩ = some (.int .u32 (ww.toNat : Int)) := ⟨ck, cw⟩
                     clear hn1 hp1 hp2 hch hbg hu1 hu2 hu3 hu4 hb0 hmj hyu hdt htu hnx Cx r1 r2 r3 r4 r5 r6 r7 r8 hkb hk
                     as_aux_lemma =>
                       go_upto_region 31 with (fail)
                       refine wp_region_noPanic ?_
                       refine wp_region_held_drew (S := (fun v => v.cell? ⟨S1, k, none⟩ = some (.int .u32 (kk.toNat : Int)) ∧ v.cell? ⟨gw, k, none⟩ = some (.int .u32 (ww.toNat : Int)))) (by kernel_rfl) hS0 (fun hH0 => ?_)
                       refine tl 0 (v := (.int .u32 (h1.toNat : Int))) rfl (by intro w' hS; obtain ⟨z0, z1⟩ := hS; go_simp) hH0 ?_
                       simp only [qc]
                       refine tl 1 (v := (.int .u32 (e1.toNat : Int))) rfl (by intro w' hS; obtain ⟨z0, z1⟩ := hS; go_simp) hH0 ?_
                       simp only [qc]
                       refine tl 3 (v := (.int .u32 (e1.toNat : Int))) rfl (by intro w' hS; obtain ⟨z0, z1⟩ := hS; go_simp) hH0 ?_
                       simp only [qc]
                       refine tl 6 (v := (.int .u32 (e1.toNat : Int))) rfl (by intro w' hS; obtain ⟨z0, z1⟩ := hS; go_simp) hH0 ?_
                       simp only [qc]
                       refine tl 10 (v := (.int .u32 (e1.toNat : Int))) rfl (by intro w' hS; obtain ⟨z0, z1⟩ := hS; go_simp) hH0 ?_
                       simp only [qc]
                       refine tl 11 (v := (.int .u32 (f1.toNat : Int))) rfl (by intro w' hS; obtain ⟨z0, z1⟩ := hS; go_simp) hH0 ?_
                       simp only [qc]
                       refine tl 12 (v := (.int .u32 (p1.toNat : Int))) rfl (by intro w' hS; obtain ⟨z0, z1⟩ := hS; go_simp) hH0 ?_
                       simp only [qc]
                       refine tl 13 (v := (.int .u32 (e1.toNat : Int))) rfl (by intro w' hS; obtain ⟨z0, z1⟩ := hS; go_simp) hH0 ?_
                       simp only [qc]
                       refine tl 14 (v := (.int .u32 (n1.toNat : Int))) rfl (by intro w' hS; obtain ⟨z0, z1⟩ := hS; go_simp) hH0 ?_
                       simp only [qc]
                       refine tl 15 (v := (.int .u32 (g1.toNat : Int))) rfl (by intro w' hS; obtain ⟨z0, z1⟩ := hS; go_simp) hH0 ?_
                       simp only [qc]
                       refine tl 16 (v := (.int .u32 (p2.toNat : Int))) rfl (by intro w' hS; obtain ⟨z0, z1⟩ := hS; go_simp) hH0 ?_
                       simp only [qc]
                       refine tl 17 (v := (.int .u32 (ch.toNat : Int))) rfl (by intro w' hS; obtain ⟨z0, z1⟩ := hS; go_simp) hH0 ?_
                       simp only [qc]
                       refine tl 19 (v := (.int .i64 (k : Int))) rfl (by intro w' hS; obtain ⟨z0, z1⟩ := hS; go_simp) hH0 ?_
                       simp only [qc]
                       refine tl 20 (v := ((.pointer (some ⟨S1, k, none⟩)))) rfl (by intro w' hS; obtain ⟨z0, z1⟩ := hS; go_simp) hH0 ?_
                       simp only [qc]
                       refine tl 21 (v := (.int .u32 (kk.toNat : Int))) rfl (by intro w' hS; obtain ⟨z0, z1⟩ := hS; go_simp) hH0 ?_
                       simp only [qc]
                       refine tl 23 (v := ((.slice (some ⟨gw, 0, none⟩) 64 oc))) rfl (by intro w' hS; obtain ⟨z0, z1⟩ := hS; go_simp) hH0 ?_
                       simp only [qc]
                       refine tl 24 (v := (.int .i64 (k : Int))) rfl (by intro w' hS; obtain ⟨z0, z1⟩ := hS; go_simp) hH0 ?_
                       simp only [qc]
                       refine tl 25 (v := ((.pointer (some ⟨gw, k, none⟩)))) rfl (by intro w' hS; obtain ⟨z0, z1⟩ := hS; go_simp) hH0 ?_
                       simp only [qc]
                       refine tl 26 (v := (.int .u32 (ww.toNat : Int))) rfl (by intro w' hS; obtain ⟨z0, z1⟩ := hS; go_simp) hH0 ?_
                       simp only [qc]
                       refine rdy [2] (ar1 rfl fun K hK => ?_)
                       go_simp
                       refine (T1.o _).mono ?_
                       rintro _ _ ⟨rfl, rfl⟩
                       refine hK _ _ hH0 fun hH1 => ?_
                       clear hK K
                       try simp only [qc]
                       refine rdy [4] (ar1 rfl fun K hK => ?_)
                       go_simp
                       refine (T2.o _).mono ?_
                       rintro _ _ ⟨rfl, rfl⟩
                       refine hK _ _ hH1 fun hH2 => ?_
                       clear hK K
                       try simp only [qc]
                       refine tl 5 (v := (.int .u32 (bits .xor .u32 ((rotr 6 e1).toNat : Int) ((rotr 11 e1).toNat : Int)))) rfl (by intro w' hS; obtain ⟨z0, z1⟩ := hS; go_simp) hH2 ?_
                       simp only [qc]
                       refine rdy [7] (ar1 rfl fun K hK => ?_)
                       go_simp
                       refine (T3.o _).mono ?_
                       rintro _ _ ⟨rfl, rfl⟩
                       refine hK _ _ hH2 fun hH3 => ?_
                       clear hK K
                       try simp only [qc]
                       refine tl 8 (v := (.int .u32 (bg.toNat : Int))) rfl (by intro w' hS; obtain ⟨z0, z1⟩ := hS; go_simp) hH3 ?_
                       simp only [qc]
                       refine tl 9 (v := (.int .u32 (u1.toNat : Int))) rfl (by intro w' hS; obtain ⟨z0, z1⟩ := hS; go_simp) hH3 ?_
                       simp only [qc]
                       refine tl 18 (v := (.int .u32 (u2.toNat : Int))) rfl (by intro w' hS; obtain ⟨z0, z1⟩ := hS; go_simp) hH3 ?_
                       simp only [qc]
                       refine tl 22 (v := (.int .u32 (u3.toNat : Int))) rfl (by intro w' hS; obtain ⟨z0, z1⟩ := hS; go_simp) hH3 ?_
                       simp only [qc]
                       refine tl 27 (v := (.int .u32 (u4.toNat : Int))) rfl (by intro w' hS; obtain ⟨z0, z1⟩ := hS; go_simp) hH3 ?_
                       simp only [qc]
                       refine tl 28 (v := (.int .u32 (u4.toNat : Int))) rfl (by intro w' hS; obtain ⟨z0, z1⟩ := hS; go_simp) hH3 ?_
                       simp only [qc]
                       refine wpAnyH_done (by kernel_rfl) ?_ _
                       refine NoPanic.normal ?_
                       have Da := Hh (show Below wL.heap.size wL wr.drew from Aa.o.drew)
                       clear hS0 hH0 hH1 hH2 hH3 q1 q2 q3 q4 q5 q6 q7 q8 q9 aw ck cw
                       obtain ⟨r1, r2, r3, r4, r5, r6, r7, r8⟩ := HR.o
                       go_wp2_with fail
                       refine (T4.o _).mono ?_
                       rintro _ _ ⟨rfl, rfl⟩
                       go_wp2_with fail
                       refine (T5.o _).mono ?_
                       rintro _ _ ⟨rfl, rfl⟩
                       go_wp2_with fail
                       refine (T6.o _).mono ?_
                       rintro _ _ ⟨rfl, rfl⟩
                       go_wp2
                       go_roundw
                       case rel =>
                         have Bv : ∃ k' : Nat, k' ≤ 64 ∧ Value.int .i64 ((k + 1 : Nat) : Int) = .int .i64 (k' : Int) ∧ Value.int .u32 (tu.toNat : Int) = .int .u32 ((rnds K WS (St.of ST) k').a.toNat : Int) ∧ Value.int .u32 (a1.toNat : Int) = .int .u32 ((rnds K WS (St.of ST) k').b.toNat : Int) ∧ Value.int .u32 (b1.toNat : Int) = .int .u32 ((rnds K WS (St.of ST) k').c.toNat : Int) ∧ Value.int .u32 (c1.toNat : Int) = .int .u32 ((rnds K WS (St.of ST) k').d.toNat : Int) ∧ Value.int .u32 (dt.toNat : Int) = .int .u32 ((rnds K WS (St.of ST) k').e.toNat : Int) ∧ Value.int .u32 (e1.toNat : Int) = .int .u32 ((rnds K WS (St.of ST) k').f.toNat : Int) ∧ Value.int .u32 (f1.toNat : Int) = .int .u32 ((rnds K WS (St.of ST) k').g.toNat : Int) ∧ Value.int .u32 (g1.toNat : Int) = .int .u32 ((rnds K WS (St.of ST) k').h.toNat : Int) ∧ Below wL.heap.size wL wr.drew := by
                          refine ⟨k + 1, Am.o.1, rfl, ?_⟩
                          rw [Er.o]
                          exact ⟨rfl, rfl, rfl, rfl, rfl, rfl, rfl, rfl, Da.o⟩
                         have A5 := Bv
                         rw [← Cl.o] at A5
                         first | exact Bv | exact A5 | ((repeat apply Exists.intro); exact ⟨Bv, rfl⟩) | ((repeat apply Exists.intro); exact ⟨A5, rfl⟩)
                       case measure =>
                         first | exact Am.o.2 | (show 64 - (intOf (Value.int .i64 (wrap64 ((k : Int) + 1)))).toNat < _; rw [Cl.o]; exact Am.o.2)
                   · have ek : k = 64 := by omega
                     have Be : eat K (j + 1) s0 P = addTo ST (rnds K WS (St.of ST) k).list 8 := by
                       rw [eat_succ, ← Ed.o, ← D9.o]
                       unfold mixF
                       rw [← Ee.o, ek]
                     have hklt' : ¬ (k : Int) < 64 := by omega
                     generalize rnds K WS (St.of ST) k = SS at Be ⊢
                     obtain ⟨a1, b1, c1, d1, e1, f1, g1, h1⟩ := SS
                     obtain ⟨L, hL⟩ : ∃ L, L = St.list ⟨a1, b1, c1, d1, e1, f1, g1, h1⟩ := ⟨_, rfl⟩
                     rw [← hL] at Be
                     obtain ⟨X, hX⟩ : ∃ X : Array Value, X = #[Value.int .u32 (a1.toNat : Int), .int .u32 (b1.toNat : Int), .int .u32 (c1.toNat : Int), .int .u32 (d1.toNat : Int), .int .u32 (e1.toNat : Int), .int .u32 (f1.toNat : Int), .int .u32 (g1.toNat : Int), .int .u32 (h1.toNat : Int)] := ⟨_, rfl⟩
                     have hix : ∀ i, i < 8 → X[i]? = some (.int .u32 ((L.getD i 0).toNat : Int)) := fun i hi => by
                       have : i = 0 ∨ i = 1 ∨ i = 2 ∨ i = 3 ∨ i = 4 ∨ i = 5 ∨ i = 6 ∨ i = 7 := by omega
                       rw [hX, hL]
                       rcases this with rfl | rfl | rfl | rfl | rfl | rfl | rfl | rfl <;> rfl
                     have Bu : Below wL.heap.size wL (wr.alloc (.cells X 52)) := Aa.o.alloc Aa.o.size _
                     have h8 := Has.new wr 52 X
                     have C1 := Ba.o.1.below Bu Ba.o.1.lt
                     have En := Hh hix
                     have Di := Hh Be
                     have Cc := Hh Bu
                     have H8 := Hh h8
                     have Br := Hh C1
                     have Bq := Hh (show wr.heap.size ≠ S0 by have := Ba.o.1.lt; have := Aa.o.size; omega)
                     have Ef := Hh hX
                     clear hix Be Bu h8 C1 hX hL hk hlt Aa
                     go_wp2_with fail
                     rw [← Ef.o]
                     generalize wr.alloc (.cells X 52) = W8 at Cc H8 Br ⊢
                     generalize wr.heap.size = B8 at H8 Bq ⊢
                     go_loopw [270] (fun v wy => ∃ i : Nat, v = .int .i64 (i : Int) ∧ i ≤ 8 ∧ Has wy S0 53 (wcells (addTo ST L i)).toArray ∧ Kept (· = S0) W8 wy) (fun v _ => 8 - (intOf v).toNat)
                     case atStart => exact ⟨0, rfl, Nat.zero_le _, by rw [addTo_zero _ _ Ba.o.2]; exact Br.o, Kept.refl _ _⟩
                     case round =>
                       clear Br
                       obtain ⟨i, rfl, hi, hs, hkp⟩ := hrel
                       have HS := Hh hs
                       have Bp := Hh hkp
                       clear hs hkp
                       by_cases hi8 : i < 8
                       · have cx : wr.cell? ⟨B8, i, none⟩ = some (.int .u32 ((L.getD i 0).toNat : Int)) := (H8.o.kept Bp.o Bq.o).cell_is (En.o i hi8)
                         have cg : wr.cell? ⟨S0, i, none⟩ = some (.int .u32 ((ST.getD i 0).toNat : Int)) := HS.o.cell_is (by
                          rw [List.getElem?_toArray, wcells_get _ _ (by rw [addTo_length]; omega)]
                          simp [addTo, hi8])
                         have hf : wr.frozen? ⟨S0, i, none⟩ = false := HS.o.free i
                         have A0 : Has (wr.setCell ⟨S0, i, none⟩ (.int .u32 ((ST.getD i 0 + L.getD i 0).toNat : Int))) S0 53 (wcells (addTo ST L (i + 1))).toArray := by
                          have h := HS.o.set i (.int .u32 ((ST.getD i 0 + L.getD i 0).toNat : Int))
                          rw [List.setIfInBounds_toArray, wcells_set, addTo_set ST L i hi8] at h
                          exact h
                         obtain ⟨xs, hxs⟩ : ∃ x, x = ST.getD i 0 := ⟨_, rfl⟩
                         obtain ⟨xl, hxl⟩ : ∃ x, x = L.getD i 0 := ⟨_, rfl⟩
                         obtain ⟨xo, hxo⟩ : ∃ x, x = ST.getD i 0 + L.getD i 0 := ⟨_, rfl⟩
                         have Dr := add_wd xs xl
                         rw [hxs, hxl, ← hxo, ← hxs, ← hxl] at Dr
                         rw [← hxo] at A0
                         rw [← hxs] at cg
                         rw [← hxl] at cx
                         have hat := at_word B8 8 8 i hi8
                         have hi8' : (i : Int) < 8 := by omega
                         have Am := Hh (show i + 1 ≤ 8 ∧ 8 - (i + 1) < 8 - i by omega)
                         have Ay := Hh A0
                         have Dh := Hh (Bp.o.set (p := ⟨S0, i, none⟩) (.inl rfl) (.int .u32 (xo.toNat : Int)))
                         have hib : i < 4611686018427387904 := Nat.lt_trans hi8 (by decide)
                         have Ck := Hh (wrap64_succ i hib)
                         clear hxs hxl hxo A0 hib hi8 hi
                         go_wp2
                         go_roundw
                         case rel => exact ⟨i + 1, by first | exact congrArg (Value.int .i64) Ck.o | rfl, Am.o.1, Ay.o, Dh.o⟩
                         case measure =>
                          first | exact Am.o.2 | (show 8 - (intOf (Value.int .i64 (wrap64 ((i : Int) + 1)))).toNat < _; rw [Ck.o]; exact Am.o.2)
                       · have ei : i = 8 := by omega
                         have hin : ¬ (i : Int) < 8 := by omega
                         have Df := Hh (show Has wr S0 53 (wcells (eat K (j + 1) s0 P)).toArray ∧ Kept (· = S0) wP wr by
                          refine ⟨by rw [Di.o, ← ei]; exact HS.o, ?_⟩
                          exact (((Bf.o.trans (Kept.of_below Cb.o)).trans (Kept.of_below Cc.o)).trans Bp.o))
                         have C7 := Hh (show 64 * (j + 1) = p0 + 64 ∧ j + 1 ≤ Q ∧ N - (p0 + 64) < N - p0 by have := A3.o; have := B1.o; have := Cf.o; omega)
                         have hpb : p0 < 4611686018427387800 := by have := A3.o; have := B1.o; have := Cf.o; omega
                         have Cn := Hh (wrap64_64 p0 hpb)
                         clear ei hi8 hi hpb
                         go_wp2
                         go_roundw
                         case rel => exact ⟨j + 1, by rw [C7.o.1]; first | exact congrArg (Value.int .i64) Cn.o | rfl, C7.o.2.1, Df.o⟩
                         case measure =>
                          first | exact C7.o.2.2 | (show N - (intOf (Value.int .i64 (wrap64 ((p0 : Int) + 64)))).toNat < _; rw [Cn.o]; exact C7.o.2.2)
        · have hpn : ¬ (p0 : Int) < (N : Int) := by have := A3.o; omega
          as_aux_lemma =>
           have EJ := Hh (show j = Q by omega)
           obtain ⟨ST, hST⟩ : ∃ x, x = eat K j s0 P := ⟨_, rfl⟩
           have A7 : ST.length = 8 := by rw [hST]; exact eat_length K s0 HL.o.2 j P
           obtain ⟨D, hD⟩ : ∃ D, D = ST.flatMap bytesOf := ⟨_, rfl⟩
           have Bc : digest K s0 m = D := by rw [El.o, ← EJ.o, ← hST, hD]
           have hst := C9.o
           rw [← hST] at hst
           have Dd := Hh Bc
           have hdl : D.length = 32 := by rw [← Bc]; exact digest_length K s0 HL.o.2 m
           have Bi : ∀ x ∈ D, x < 256 := by rw [← Bc]; exact (digest_hash K s0 HL.o.2 m).2
           have hby : ∀ i j, i < 8 → j < 4 → D.getD (4 * i + j) 0 = (ST.getD i 0).toNat / 256 ^ (3 - j) % 256 := fun i j hi hj => by
             rw [hD, flat_bytes ST i j (by omega) hj, bytes_at _ j hj]
           have hs2 := Et.o.kept Bf.o (show ¬ S2 = S0 by have := EB.o; omega)
           have h9 := Has.new wJ 26 Z
           have hb9 : Below wJ.heap.size wJ (wJ.alloc (.cells Z 26)) := (Below.refl _ _).alloc (Nat.le_refl _) _
           have Cj := Hh (hst.below hb9 hst.lt)
           have Ci := Hh (hs2.below hb9 hs2.lt)
           have Bn := Hh (show Below w.heap.size w (wJ.alloc (.cells Z 26)) from by
             have h1 := Aa.o.trans (Dz.o.mono Aa.o.size)
             have h2 := h1.trans (Bf.o.below h1.size (fun k e => by have e' : k = S0 := e; have := EB.o; omega))
             exact h2.trans (hb9.mono h2.size))
           have Bq := Hh (show wJ.heap.size ≠ S0 ∧ wJ.heap.size ≠ S2 ∧ w.heap.size ≤ wJ.heap.size from ⟨by have := hst.lt; omega, by have := hs2.lt; omega, by have h1 := Aa.o.size; have h2 := Dz.o.size; have h3 := Bf.o.size; omega⟩)
           have H9 := Hh h9
           have Db := Hh hby
           have De := Hh (And.intro hdl Bi)
           have Eu := Hh A7
           have SZ := Hh (show (Tryz.prog.info? 26).map (·.size) = some Z.size by rw [EZ.o.1]; kernel_rfl)
           have E1 := Hh EZ.o.2
           have Bl := World.setRow_alloc_new wJ Z Z 26
           have Ch := Hh Bl
           clear hST A7 hD Bc hst hdl Bi hby hs2 h9 hb9 Bl hjq hj C9 Bf
           go_upto_region 40 with (first
             | (refine wpList_build_run (by kernel_rfl) 26 _ rfl #[] (by kernel_rfl) (.agg Z) (Eg.o _) ?_)
             | (refine wpList_store_row rfl 26 (.tmp 30) (.tmp 282) rfl wJ.heap.size Z rfl rfl 26 Z H9.o SZ.o rfl E1.o ?_))
           rw [Ch.o]
           generalize wJ.alloc (.cells Z 26) = W9 at H9 Cj Ci Bn ⊢
           generalize wJ.heap.size = B9 at H9 Bq ⊢
           go_wp2_with fail
           go_loopw [31] (fun v wy => ∃ (i : Nat) (cs : Array Value), v = .int .i64 (i : Int) ∧ i ≤ 8 ∧ Has wy B9 26 cs ∧ cs.size = 32 ∧ (∀ q, q < 4 * i → cs[q]? = some (.int .u8 (D.getD q 0 : Nat))) ∧ Kept (· = B9) W9 wy) (fun v _ => 8 - (intOf v).toNat)
           case atStart => exact ⟨0, Z, rfl, Nat.zero_le _, H9.o, EZ.o.1, fun q hq => absurd hq (by omega), Kept.refl _ _⟩
           case round =>
             clear H9
             obtain ⟨i, cs, rfl, hi, hcs, hcz, hcq, hkp⟩ := hrel
             have Cd := Hh (And.intro hcs (And.intro hcz hcq))
             have A2 := Hh hkp
             clear hcs hcz hcq hkp
             by_cases hi8 : i < 8
             · have cg : wr.cell? ⟨S0, i, none⟩ = some (.int .u32 ((ST.getD i 0).toNat : Int)) := (Cj.o.kept A2.o (fun e => Bq.o.1 e.symm)).cell_is (by rw [List.getElem?_toArray]; exact wcells_get _ _ (by rw [Eu.o]; exact hi8))
               obtain ⟨X, hX⟩ : ∃ X, X = (ST.getD i 0).toNat := ⟨_, rfl⟩
               have hX32 : X < 4294967296 := by rw [hX]; exact (ST.getD i 0).isLt
               rw [← hX] at cg
               have E0 := Hh (show ∀ j, j < 4 → D.getD (4 * i + j) 0 = X / 256 ^ (3 - j) % 256 from fun j hj => by rw [Db.o i j hi8 hj, hX])
               have Dn := Hh hX32
               have hi8' : (i : Int) < 8 := by omega
               have Dg := Hh hi8
               clear hX hX32
               go_wp2_with fail
               go_loopw [32, 33] (fun xv jv wz => ∃ (jj : Int) (y : Nat) (cs : Array Value), jv = .int .i64 jj ∧ xv = .int .u32 (y : Int) ∧ -1 ≤ jj ∧ jj ≤ 3 ∧ y = X / 256 ^ (3 - jj).toNat ∧ Has wz B9 26 cs ∧ cs.size = 32 ∧ (∀ q, q < 4 * i → cs[q]? = some (.int .u8 (D.getD q 0 : Nat))) ∧ (∀ q : Nat, jj < (q : Int) → q < 4 → cs[4 * i + q]? = some (.int .u8 (D.getD (4 * i + q) 0 : Nat))) ∧ Kept (· = B9) W9 wz) (fun _ jv _ => (intOf jv + 1).toNat)
               case atStart => exact ⟨3, X, cs, rfl, rfl, by decide, by decide, by rw [show (3 - (3 : Int)).toNat = 0 from rfl, Nat.pow_zero, Nat.div_one], Cd.o.1, Cd.o.2.1, Cd.o.2.2, fun q h1 h2 => absurd h1 (by omega), A2.o⟩
               case round =>
                 clear Cd A2 cg
                 obtain ⟨jj, y, ct, rfl, rfl, hj1, hj2, hy, h1, h2, h3, h4, h5⟩ := hrel
                 have HC := Hh (And.intro h1 (And.intro h2 (And.intro h3 h4)))
                 have D1 := Hh h5
                 clear h1 h2 h3 h4 h5
                 by_cases hj0 : 0 ≤ jj
                 · obtain ⟨jn, rfl⟩ : ∃ n : Nat, jj = (n : Int) := ⟨jj.toNat, by omega⟩
                   have hjn : jn < 4 := by omega
                   have ejn : (3 - (jn : Int)).toNat = 3 - jn := by omega
                   rw [ejn] at hy
                   obtain ⟨d, hd⟩ : ∃ d, d = y % 256 := ⟨_, rfl⟩
                   obtain ⟨q, hq⟩ : ∃ q, q = y / 256 := ⟨_, rfl⟩
                   have hi88 := Dg.o
                   have By : 4 * i + jn < 32 := by omega
                   have hdd : d = D.getD (4 * i + jn) 0 := by rw [E0.o jn hjn, hd, hy]
                   have hqq : q = X / 256 ^ (3 - ((jn : Int) - 1)).toNat := by
                     rw [hq, hy, show (3 - ((jn : Int) - 1)).toNat = (3 - jn) + 1 by omega, div_step]
                   have C3 : y < 4294967296 := by rw [hy]; exact Nat.lt_of_le_of_lt (Nat.div_le_self _ _) Dn.o
                   have hco : ∃ v, wr.cell? ⟨B9, 4 * i + jn, none⟩ = some v := ⟨_, HC.o.1.cell_is (Array.getElem?_eq_getElem (by rw [HC.o.2.1]; exact By))⟩
                   obtain ⟨v0, hv0⟩ := hco
                   have hf0 : wr.frozen? ⟨B9, 4 * i + jn, none⟩ = false := HC.o.1.free _
                   have A0 := HC.o.1.set (4 * i + jn) (.int .u8 (d : Int))
                   have Ay := Hh (show Has (wr.setCell ⟨B9, 4 * i + jn, none⟩ (.int .u8 (d : Int))) B9 26 (ct.setIfInBounds (4 * i + jn) (.int .u8 (d : Int))) ∧ (ct.setIfInBounds (4 * i + jn) (.int .u8 (d : Int))).size = 32 ∧ (∀ q, q < 4 * i → (ct.setIfInBounds (4 * i + jn) (.int .u8 (d : Int)))[q]? = some (.int .u8 (D.getD q 0 : Nat))) ∧ (∀ q : Nat, (jn : Int) - 1 < (q : Int) → q < 4 → (ct.setIfInBounds (4 * i + jn) (.int .u8 (d : Int)))[4 * i + q]? = some (.int .u8 (D.getD (4 * i + q) 0 : Nat))) from by
                     refine ⟨A0, by simp [HC.o.2.1], fun q hq => ?_, fun q hq1 hq2 => ?_⟩
                     · rw [Array.getElem?_setIfInBounds_ne (by omega)]
                       exact HC.o.2.2.1 q hq
                     · by_cases e : q = jn
                       · rw [e, Array.getElem?_setIfInBounds_self_of_lt (by rw [HC.o.2.1]; exact By), hdd]
                       · rw [Array.getElem?_setIfInBounds_ne (by omega)]
                         exact HC.o.2.2.2 q (by omega) hq2)
                   have Dh := Hh (D1.o.set (p := ⟨B9, 4 * i + jn, none⟩) (.inl rfl) (.int .u8 (d : Int)))
                   have B0 := Hh hqq
                   have hjn' : (jn : Int) < 4 := by omega
                   have hj00 : (0 : Int) ≤ (jn : Int) := by omega
                   have C6 := Hh (show -1 ≤ (jn : Int) - 1 ∧ (jn : Int) - 1 ≤ 3 ∧ ((jn : Int) - 1 + 1).toNat < ((jn : Int) + 1).toNat by omega)
                   have hjb : jn < 4611686018427387904 := Nat.lt_trans hjn (by decide)
                   obtain ⟨m1, m2, m3, m4⟩ := wbyte_facts C3 hd hq
                   have Cn := Hh (wrap64_pred jn hjb)
                   have Ep := Hh m3
                   clear hj1 hj2 hy ejn hd hq By hdd hqq C3 A0 hjb m3 m4 hj0
                   go_wp2
                   go_roundw
                   case rel => exact ⟨(jn : Int) - 1, q, _, by first | exact congrArg (Value.int .i64) Cn.o | rfl, by first | exact congrArg (Value.int .u32) Ep.o | rfl, C6.o.1, C6.o.2.1, B0.o, Ay.o.1, Ay.o.2.1, Ay.o.2.2.1, Ay.o.2.2.2, Dh.o⟩
                   case measure =>
                     first | exact C6.o.2.2 | (show (intOf (Value.int .i64 (wrap64 ((jn : Int) - 1))) + 1).toNat < _; rw [Cn.o]; exact C6.o.2.2)
                 · have ej : jj = -1 := by omega
                   have Dj := Hh (show ∀ q, q < 4 * (i + 1) → ct[q]? = some (.int .u8 (D.getD q 0 : Nat)) from fun q hq => by
                     rcases Nat.lt_or_ge q (4 * i) with h | h
                     · exact HC.o.2.2.1 q h
                     · have := HC.o.2.2.2 (q - 4 * i) (by omega) (by omega)
                       rwa [show 4 * i + (q - 4 * i) = q by omega] at this)
                   have Am := Hh (show i + 1 ≤ 8 ∧ 8 - (i + 1) < 8 - i by have := Dg.o; omega)
                   have hib : i < 4611686018427387904 := Nat.lt_trans Dg.o (by decide)
                   have Ck := Hh (wrap64_succ i hib)
                   clear ej hj1 hj2 hy hib
                   go_wp2
                   go_roundw
                   case rel => exact ⟨i + 1, ct, by first | exact congrArg (Value.int .i64) Ck.o | rfl, Am.o.1, HC.o.1, HC.o.2.1, Dj.o, D1.o⟩
                   case measure =>
                     first | exact Am.o.2 | (show 8 - (intOf (Value.int .i64 (wrap64 ((i : Int) + 1)))).toNat < _; rw [Ck.o]; exact Am.o.2)
             · have ei : i = 8 := by omega
               have hin : ¬ (i : Int) < 8 := by omega
               obtain ⟨q1, q2, q3⟩ := Cd.o
               have ecs : cs = (bcells D).toArray := by
                 apply Array.toList_inj.1
                 apply List.ext_getElem?
                 intro q
                 rw [Array.getElem?_toList]
                 rcases Nat.lt_or_ge q 32 with hq | hq
                 · rw [q3 q (by omega)]
                   exact (bcells_get D q (by rw [De.o.1]; exact hq)).symm
                 · rw [Array.getElem?_eq_none (by omega), List.getElem?_eq_none (by show (bcells D).length ≤ q; rw [bcells_length, De.o.1]; exact hq)]
               rw [ecs] at q1
               obtain ⟨LD, hLD⟩ : ∃ L, L = (bcells D).toArray := ⟨_, rfl⟩
               rw [← hLD] at q1
               have ld : LD.size = 32 := by rw [hLD, List.size_toArray, bcells_length, De.o.1]
               have Dq := Hh (show (Tryz.prog.info? 26).map (·.size) = some LD.size by rw [ld]; kernel_rfl)
               have Dp := Hh (show LD.all (·.oneCell') = true by rw [hLD]; exact all_oneCell_toArray (bcells_oneC D))
               have Eo := Hh (show Z.size = LD.size by rw [ld, EZ.o.1])
               have hs2 := Ci.o.kept A2.o (fun e => Bq.o.2.1 e.symm)
               have hbw := Bn.o.trans (A2.o.below Bn.o.size (fun k e => by have e' : k = B9 := e; have := Bq.o.2.2; omega))
               have C0 : Has (wr.setRow S2 LD) S2 26 LD := hs2.setRow
               have hbf : Below w.heap.size w (wr.setRow S2 LD) := hbw.trans ((kept_setRow (g := S2) wr LD).below hbw.size (fun k e => by have e' : k = S2 := e; have := EB.o; omega))
               have Es := Hh q1
               have Dm := Hh hs2
               have Dl := Hh C0
               have Da := Hh hbf
               have Ec := Hh hLD
               clear q1 q2 q3 ecs ld hs2 hbw C0 hbf hLD ei hi hi8
               go_wp2_with (first
                 | (refine wpList_load_row rfl 26 (.tmp 30) rfl B9 rfl 26 LD (0, 0) _ Es.o Tryz.underlying26 rfl Dq.o ?_)
                 | (refine wpList_store_row rfl 26 (.tmp 6) (.tmp 304) rfl S2 LD rfl rfl 26 Z Dm.o Dq.o Eo.o Dp.o ?_))
               refine bodyPost_ret (results_cell_row rfl _ _ S2 26 LD (0, 0) _ rfl Dl.o Tryz.underlying26 rfl Dq.o) rfl ?_
               exact ⟨by rw [Dd.o, Ec.o]; rfl, Da.o⟩
end Go.Proofs.YtknfbccbdiidjaaGreatDoor
