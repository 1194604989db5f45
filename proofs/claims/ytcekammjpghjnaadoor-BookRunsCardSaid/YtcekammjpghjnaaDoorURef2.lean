/- The walk of the reference's digest of bytes. -/
import Derived.Test.YtcekammjpghjnaaDoorWs
import Derived.Test.YtcekammjpghjnaaDoorURef1
import Derived.Test.YtcekammjpghjnaaDoorUNum7
import Derived.Test.YtcekammjpghjnaaDoorURg3
import Derived.StillTailTactics
namespace Go.Proofs.YtcekammjpghjnaaDoor
set_option linter.unusedVariables false
set_option linter.unusedSimpArgs false
open Go.ChangeShapes Go.WideShapes Go.ChangeAt Go.RowKit Go.Maps

theorem zero_h32 : ∃ Z : Array Value, (∀ w, (zeroValue 38).run Tryd.prog w = .ok (.agg Z) w) ∧ (∀ w, (Instr.build 38 #[]).run Tryd.prog w = .ok (.agg Z) w) ∧ Z.size = 32 ∧ ¬ Z = #[] ∧ Z.all (·.oneCell') = true := by
 have hs : (List.replicate 32 (Value.int .u8 0)).toArray.size = 32 := by kernel_rfl
 exact ⟨_, fun w => by kernel_rfl, fun w => by kernel_rfl, hs, (fun e => by rw [e] at hs; cases hs), by kernel_rfl⟩
theorem rem_facts {n r : Nat} (hr : r = n % 64) : Int.tmod (n : Int) 64 = (r : Int) ∧ (n : Int) % 64 = (r : Int) := by
 refine ⟨by rw [Int.tmod_eq_emod_of_nonneg (Int.natCast_nonneg _)]; omega, by omega⟩
def padTo (m : List Nat) (j : Nat) : List Nat := m ++ 128 :: List.replicate j 0
theorem padTo_succ (m : List Nat) (j : Nat) : padTo m (j + 1) = padTo m j ++ [0] := by
 unfold padTo
 rw [List.replicate_succ', List.append_assoc, List.cons_append]
theorem padTo_full (m : List Nat) : padTo m (padZ m.length) ++ eight (8 * m.length) = padL m := by
 unfold padTo padL
 rw [List.append_assoc, List.cons_append]
theorem bytes_lt {w : World} {g : Nat} {v : Value} {b : List Nat} (h : Bytes w g v b) : ∀ x ∈ b, x < 256 := by obtain ⟨_, _, _, _, h, _⟩ := h; exact h
theorem byte_own {w : World} {base : Nat} (hb : base ≤ w.heap.size) (d : Nat) (v : Value) (hv : v = .int .u8 (d : Int)) : (w.alloc (.cells #[v] 5)).ownsRow base 5 1 (.slice (some ⟨w.heap.size, 0, none⟩) 1 1) 1 (bcells [d]) ∧ (w.alloc (.cells #[v] 5)).cell? ⟨w.heap.size, 0, none⟩ = some (.int .u8 (d : Int)) := by
 subst hv
 refine ⟨⟨rfl, .inr ⟨w.heap.size, 1, #[.int .u8 (d : Int)], rfl, hb, heap_alloc_new w _, Nat.le_refl _, by decide, rfl, rfl⟩⟩, ?_⟩
 unfold World.cell?
 rw [heap_alloc_new]; rfl
theorem byte_one {w : World} (d : Nat) (hd : d < 256) (v : Value) (hv : v = .int .u8 (d : Int)) : Bytes (w.alloc (.cells #[v] 5)) (w.alloc (.cells #[v] 5)).heap.size (.slice (some ⟨w.heap.size, 0, none⟩) 1 1) [d] :=
 ⟨_, _, rfl, Nat.le_refl _, (fun x hx => by rw [List.mem_singleton] at hx; omega), fun _ => ⟨w.heap.size, 0, rfl, by simp, fun i hi => by
  obtain rfl : i = 0 := by simpa using hi
  exact (byte_own (Nat.le_refl _) d v hv).2⟩⟩
theorem own_below {w w' : World} {base : Nat} {e : TypeId} {size n : Nat} {v : Value} {xs : List Value} (h : w.ownsRow base e size v n xs) (hb : Below w.heap.size w w') : w'.ownsRow base e size v n xs := by
 refine ⟨h.1, ?_⟩
 rcases h.2 with h0 | ⟨g, cap, cur, e1, hB, hh, h1, h2, h3, h4⟩
 · exact .inl h0
 · have hg : Has w g e cur := hh
   exact .inr ⟨g, cap, cur, e1, hB, hg.below hb hg.lt, h1, h2, h3, h4⟩
theorem mul8_facts {ml x : Nat} (hm : ml ≤ 1000000) (hx : x = 8 * ml) : IntKind.u64.wrap (ml : Int) = (ml : Int) ∧ (ml : Int) % 18446744073709551616 = (ml : Int) ∧ IntKind.u64.wrap (8 * (ml : Int)) = (x : Int) ∧ 8 * (ml : Int) % 18446744073709551616 = (x : Int) := by
 refine ⟨by rw [IntKind.wrap_u64]; omega, by omega, by rw [IntKind.wrap_u64]; omega, by omega⟩
theorem at_byte (b o n c k : Nat) (hk : k < n) (w : World) : (Instr.indexAt 87 (.slice (some ⟨b, o, none⟩) n c) (.int .i64 (k : Int))).run Tryd.prog w = .ok (.pointer (some ⟨b, o + k, none⟩)) w := by
 have hu : Tryd.prog.underlying 87 = some (.slice (Tryd.prog.elem 87)) := by kernel_rfl
 have he : Tryd.prog.elem 87 = 5 := by kernel_rfl
 have hz : ∀ w, (sizeOf 5).run Tryd.prog w = .ok 1 w := fun w => by kernel_rfl
 rw [run_indexAt_slice w 87 ⟨b, o, none⟩ n c .i64 (k : Int) hu, if_pos ⟨by omega, by omega⟩, he, hz]
 simp only [Result.andThen, Int.toNat_natCast, Nat.mul_one, Addr.add_mid]
theorem at_word (b n c k : Nat) (hk : k < n) (w : World) : (Instr.indexAt 128 (.slice (some ⟨b, 0, none⟩) n c) (.int .i64 (k : Int))).run Tryd.prog w = .ok (.pointer (some ⟨b, k, none⟩)) w := by
 have hu : Tryd.prog.underlying 128 = some (.slice (Tryd.prog.elem 128)) := by kernel_rfl
 have he : Tryd.prog.elem 128 = 32 := by kernel_rfl
 have hz : ∀ w, (sizeOf 32).run Tryd.prog w = .ok 1 w := fun w => by kernel_rfl
 rw [run_indexAt_slice w 128 ⟨b, 0, none⟩ n c .i64 (k : Int) hu, if_pos ⟨by omega, by omega⟩, he, hz]
 simp only [Result.andThen, Int.toNat_natCast, Nat.mul_one, Addr.add_mid, Nat.zero_add]
theorem word_facts {b0 b1 b2 b3 e1 e2 e3 e4 e5 e6 : Nat} (l0 : b0 < 256) (l1 : b1 < 256) (l2 : b2 < 256) (l3 : b3 < 256) (h1 : e1 = b0 * 256) (h2 : e2 = e1 + b1) (h3 : e3 = e2 * 256) (h4 : e4 = e3 + b2) (h5 : e5 = e4 * 256) (h6 : e6 = e5 + b3) :
  (IntKind.u32.wrap ((b0 : Int) * 256) = (e1 : Int) ∧ IntKind.u32.wrap ((e1 : Int) + (b1 : Int)) = (e2 : Int) ∧ IntKind.u32.wrap ((e2 : Int) * 256) = (e3 : Int) ∧ IntKind.u32.wrap ((e3 : Int) + (b2 : Int)) = (e4 : Int) ∧ IntKind.u32.wrap ((e4 : Int) * 256) = (e5 : Int) ∧ IntKind.u32.wrap ((e5 : Int) + (b3 : Int)) = (e6 : Int)) ∧
  (IntKind.u32.wrap (b0 : Int) = (b0 : Int) ∧ IntKind.u32.wrap (b1 : Int) = (b1 : Int) ∧ IntKind.u32.wrap (b2 : Int) = (b2 : Int) ∧ IntKind.u32.wrap (b3 : Int) = (b3 : Int)) ∧ e6 < 4294967296 := by
 refine ⟨⟨?_, ?_, ?_, ?_, ?_, ?_⟩, ⟨?_, ?_, ?_, ?_⟩, by omega⟩ <;> (rw [IntKind.wrap_u32]; omega)
theorem i64_1 (a : Nat) (h : a < 4611686018427387900) : IntKind.i64.wrap ((a : Int) + 1) = ((a + 1 : Nat) : Int) := by rw [IntKind.wrap_i64]; omega
theorem i64_2 (a : Nat) (h : a < 4611686018427387900) : IntKind.i64.wrap ((a : Int) + 2) = ((a + 2 : Nat) : Int) := by rw [IntKind.wrap_i64]; omega
theorem i64_3 (a : Nat) (h : a < 4611686018427387900) : IntKind.i64.wrap ((a : Int) + 3) = ((a + 3 : Nat) : Int) := by rw [IntKind.wrap_i64]; omega
theorem wrap64_4 (a : Nat) (h : a < 4611686018427387900) : wrap64 ((a : Int) + 4) = ((a + 4 : Nat) : Int) := by unfold wrap64; omega
theorem wrap64_64 (a : Nat) (h : a < 4611686018427387800) : wrap64 ((a : Int) + 64) = ((a + 64 : Nat) : Int) := by unfold wrap64; omega
theorem turn_all (x : Wd) (n : Nat) (hn : 0 < n) (hn2 : n < 32) (k : Int) (hk : k = (n : Int)) : ∀ w, Calls Tryd.prog 63 #[.int .u32 (x.toNat : Int), .int .u64 k] w fun e w' => e = .returned (.int .u32 ((rotr n x).toNat : Int)) ∧ w' = w := fun w => turn_is w x n hn hn2 k hk
theorem bytes_at (x : Wd) (j : Nat) (hj : j < 4) : (bytesOf x).getD j 0 = x.toNat / 256 ^ (3 - j) % 256 := by
 have hx := x.isLt
 have : j = 0 ∨ j = 1 ∨ j = 2 ∨ j = 3 := by omega
 rcases this with rfl | rfl | rfl | rfl
 · show x.toNat / 16777216 = x.toNat / 16777216 % 256
   omega
 · rfl
 · show x.toNat / 256 % 256 = x.toNat / (256 ^ 1) % 256
   rw [Nat.pow_one]
 · show x.toNat % 256 = x.toNat / 1 % 256
   rw [Nat.div_one]
theorem flat_bytes (l : List Wd) (i j : Nat) (hi : i < l.length) (hj : j < 4) : (l.flatMap bytesOf).getD (4 * i + j) 0 = (bytesOf (l.getD i 0)).getD j 0 := by
 induction l generalizing i with
 | nil => cases hi
 | cons x l ih =>
  have hl : (bytesOf x).length = 4 := rfl
  rw [List.flatMap_cons]
  cases i with
  | zero =>
   rw [List.getD_eq_getElem?_getD, List.getElem?_append_left (by rw [hl]; omega), ← List.getD_eq_getElem?_getD, Nat.mul_zero, Nat.zero_add]
   rfl
  | succ i =>
   have := ih i (by simpa using hi)
   rw [List.getD_eq_getElem?_getD, List.getElem?_append_right (by rw [hl]; omega), hl, show 4 * (i + 1) + j - 4 = 4 * i + j by omega, ← List.getD_eq_getElem?_getD, this]
   rfl
theorem wbyte_facts {y d q : Nat} (hy : y < 4294967296) (hd : d = y % 256) (hq : q = y / 256) : (y : Int) % 256 = (d : Int) ∧ (y : Int) / 256 = (q : Int) ∧ IntKind.u32.wrap (q : Int) = (q : Int) ∧ IntKind.u8.wrap (d : Int) = (d : Int) := by
 refine ⟨by omega, by omega, by rw [IntKind.wrap_u32]; omega, by rw [IntKind.wrap_u8]; omega⟩
theorem wrap64_pred (a : Nat) (h : a < 4611686018427387904) : wrap64 ((a : Int) - 1) = (a : Int) - 1 := by unfold wrap64; omega
theorem back_facts2 {k : Nat} (h0 : 16 ≤ k) (h1 : k < 64) :
  IntKind.i64.wrap ((k : Int) - 16) = (k : Int) - 16 ∧ IntKind.i64.wrap ((k : Int) - 15) = (k : Int) - 15 ∧ IntKind.i64.wrap ((k : Int) - 7) = (k : Int) - 7 ∧ IntKind.i64.wrap ((k : Int) - 2) = (k : Int) - 2 := by
 refine ⟨by rw [IntKind.wrap_i64]; omega, by rw [IntKind.wrap_i64]; omega, by rw [IntKind.wrap_i64]; omega, by rw [IntKind.wrap_i64]; omega⟩
theorem wcells_snoc (l : List Wd) (x : Wd) : wcells (l ++ [x]) = wcells l ++ [.int .u32 (x.toNat : Int)] := by simp [wcells]
set_option maxRecDepth 100000 in
set_option maxHeartbeats 16000000 in
theorem hash_is (K s0 : List Wd) (hK : K.length = 64) (hs0 : s0.length = 8) (w : World) (pa : Option Addr) (ml pc : Nat) (m : List Nat) (hml : ml = m.length) (hb : Bytes w w.heap.size (.slice pa ml pc) m) (hm : ml ≤ 1000000) :
  Calls Tryd.prog 57 #[.slice pa ml pc, .agg (wcells s0).toArray, .agg (wcells K).toArray] w fun e w' => e = .returned (arr (digest K s0 m)) ∧ Below w.heap.size w w' := by
 obtain ⟨Z, hzv, hbd, hZs, hZn, hZo⟩ := zero_h32
 obtain ⟨iu, hiu, hiu0, hiu1, hiu2⟩ := info_parts info_u32
 obtain ⟨CS, hCS⟩ : ∃ C, C = (wcells s0).toArray := ⟨_, rfl⟩
 obtain ⟨CK, hCK⟩ : ∃ C, C = (wcells K).toArray := ⟨_, rfl⟩
 rw [← hCS, ← hCK]
 have s1 : ∀ (x : World) o, (x.alloc o).heap.size = x.heap.size + 1 := fun x o => by simp
 have b0 := ((Has.new w 33 CS).alloc (.cells CK 34)).alloc (.cells Z 38)
 have b1 := (Has.new (w.alloc (.cells CS 33)) 34 CK).alloc (.cells Z 38)
 have b2 := Has.new ((w.alloc (.cells CS 33)).alloc (.cells CK 34)) 38 Z
 rw [s1] at b1
 rw [s1, s1] at b2
 have hbel := (((Below.refl w.heap.size w).alloc (Nat.le_refl _) (.cells CS 33)).alloc (by rw [s1]; omega) (.cells CK 34)).alloc (by rw [s1, s1]; omega) (.cells Z 38)
 have hsz : (((w.alloc (.cells CS 33)).alloc (.cells CK 34)).alloc (.cells Z 38)).heap.size = w.heap.size + 3 := by rw [s1, s1, s1]
 have HB0 := Lib.hid b0
 have HB1 := Lib.hid b1
 have HB2 := Lib.hid b2
 have HBEL := Lib.hid hbel
 have HSZ := Lib.hid hsz
 have HB := Lib.hid (hb.alive hbel hbel.size)
 have HLT := Lib.hid (bytes_lt hb)
 have EML := Lib.hid hml
 have ECS := Lib.hid hCS
 have ECK := Lib.hid hCK
 have EZ := Lib.hid (And.intro hZs hZo)
 have HBD := Lib.hid hbd
 have HL := Lib.hid (And.intro hK hs0)
 have HM := Lib.hid hm
 clear b0 b1 b2 hbel hsz hb hml hCS hCK hZs hZo hbd s1 hK hs0 hm
 go_enter Tryd.func57, Tryd.ntmps57
 go_upto_region 1 with (fail)
 generalize ((w.alloc (.cells CS 33)).alloc (.cells CK 34)).alloc (.cells Z 38) = W0 at HB0 HB1 HB2 HBEL HSZ HB ⊢
 obtain ⟨S0, hS0⟩ : ∃ B, B = w.heap.size := ⟨_, rfl⟩
 obtain ⟨S1, hS1⟩ : ∃ B, B = w.heap.size + 1 := ⟨_, rfl⟩
 obtain ⟨S2, hS2⟩ : ∃ B, B = w.heap.size + 2 := ⟨_, rfl⟩
 rw [← hS1] at HB1 ⊢
 rw [← hS2] at HB2
 rw [show S1 + 1 = S2 by omega]
 rw [← hS0] at HB0 ⊢
 have EB := Lib.hid (And.intro hS0 (And.intro hS1 hS2))
 clear hS0 hS1 hS2
 obtain ⟨G, hG⟩ : ∃ G, G = W0.heap.size := ⟨_, rfl⟩
 have HG := Lib.hid hG
 clear hG
 have hown0 : (W0.alloc (.cells #[] 5)).ownsRow W0.heap.size 5 1 (.slice (some ⟨W0.heap.size, 0, none⟩) 0 0) 0 [] := World.ownsRow_made W0 #[] 0 (Nat.le_refl _) (by decide) rfl
 have hal0 : Below W0.heap.size W0 (W0.alloc (.cells #[] 5)) := (Below.refl _ _).alloc (Nat.le_refl _) _
 have HOWN0 := Lib.hid hown0
 have HSRC := Lib.hid (HB.out.alive hal0 hal0.size)
 have HLN := Lib.hid (show 0 + m.length ≤ 100000000 by have := HM.out; have := EML.out; omega)
 have HBS := Lib.hid (show ∀ z, W0.heap.size ≤ (W0.alloc (.cells z 5)).heap.size from fun z => by simp)
 have HAL0 := Lib.hid hal0
 clear hown0 hal0
 go_upto_region 2 with (at_builtin; refine wpList_append_bytes rfl (.tmp 34) (.tmp 35) rfl W0.heap.size _ 0 _ rfl HOWN0.out _ _ m rfl HSRC.out HLN.out (HBS.out _) ?_; intro oa1 oc1 w1 hown1 hgr1)
 rw [Nat.zero_add] at hown1
 try rw [Nat.zero_add]
 have hbe1 : Below W0.heap.size W0 w1 := HAL0.out.grown hgr1 (HBS.out _) (own_blk HOWN0.out)
 rw [← EML.out] at hown1 ⊢
 have HOWN1 := Lib.hid (show w1.ownsRow W0.heap.size 5 1 (.slice oa1 ml oc1) ml (bcells m) from hown1)
 have HBE1 := Lib.hid hbe1
 clear hown1 hgr1 hbe1 HOWN0 HSRC HLN HBS HAL0
 have HOWN2 := Lib.hid (HOWN1.out.alloc (.cells #[.int .u8 128] 5))
 have HSRC := Lib.hid (byte_one (w := w1) 128 (by decide) (.int .u8 128) rfl)
 have HLN := Lib.hid (show ml + [128].length ≤ 100000000 by have := HM.out; simp; omega)
 have HBS := Lib.hid (show ∀ z, W0.heap.size ≤ (w1.alloc (.cells z 5)).heap.size from fun z => by have := HBE1.out.size; simp; omega)
 go_wp2_with (at_builtin; refine wpList_append_bytes rfl (.tmp 37) (.tmp 38) rfl W0.heap.size _ ml _ rfl HOWN2.out _ _ [128] rfl HSRC.out HLN.out (HBS.out _) ?_; intro oa2 oc2 w2 hown2 hgr2)
 have hbe2 : Below W0.heap.size W0 w2 := (HBE1.out.alloc HBE1.out.size _).grown hgr2 (HBS.out _) (own_blk HOWN1.out)
 have HOWN3 := Lib.hid (show w2.ownsRow W0.heap.size 5 1 (.slice oa2 (ml + 1) oc2) (ml + 1) (bcells (padTo m 0)) by
  have e : bcells (padTo m 0) = bcells m ++ bcells [128] := by simp [padTo, bcells]
  rw [e]; exact hown2)
 have HBE2 := Lib.hid hbe2
 clear hown2 hgr2 hbe2 HOWN1 HOWN2 HSRC HLN HBS HBE1
 go_loopw [7] (fun mv wr => ∃ (j n : Nat) (oa : Option Addr) (oc : Nat), mv = .slice oa n oc ∧ n = ml + 1 + j ∧ j ≤ padZ ml ∧ wr.ownsRow W0.heap.size 5 1 (.slice oa n oc) n (bcells (padTo m j)) ∧ Below W0.heap.size W0 wr) (fun mv _ => ml + 100 - lenD mv)
 case atStart => exact ⟨0, ml + 1, oa2, oc2, by first | rfl | simp, rfl, Nat.zero_le _, HOWN3.out, HBE2.out⟩
 case round =>
  clear HOWN3 HBE2
  obtain ⟨j, n, oa, oc, rfl, hn, hj, hown, hbel⟩ := hrel
  have HOWN := Lib.hid hown
  have HBEL2 := Lib.hid hbel
  have HN := Lib.hid hn
  clear hown hbel
  obtain ⟨r, hr⟩ : ∃ r, r = n % 64 := ⟨_, rfl⟩
  obtain ⟨-, hr2⟩ := rem_facts hr
  by_cases hjz : j < padZ ml
  · have hne : ¬ r = 56 := by rw [hr, hn]; exact padZ_first ml j hjz
    have hne' : ¬ (r : Int) = 56 := by omega
    have HLN := Lib.hid (show n + [0].length ≤ 100000000 by have := padZ_lt ml; have := HM.out; simp; omega)
    have HBS := Lib.hid (show ∀ z, W0.heap.size ≤ (wr.alloc (.cells z 5)).heap.size from fun z => by have := HBEL2.out.size; simp; omega)
    have HOWN2 := Lib.hid (HOWN.out.alloc (.cells #[.int .u8 0] 5))
    have HSRC := Lib.hid (byte_one (w := wr) 0 (by decide) (.int .u8 0) rfl)
    have HJ := Lib.hid (show n + 1 = ml + 1 + (j + 1) ∧ j + 1 ≤ padZ ml ∧ ml + 100 - (n + 1) < ml + 100 - n by have := padZ_lt ml; omega)
    clear hr hne hn
    go_wp2_with (at_builtin; refine wpList_append_bytes rfl (.tmp 44) (.tmp 45) rfl W0.heap.size _ n _ rfl HOWN2.out _ _ [0] rfl HSRC.out HLN.out (HBS.out _) ?_; intro oa6 oc6 w6 hown6 hgr6)
    have HBE6 := Lib.hid ((HBEL2.out.alloc HBEL2.out.size _).grown hgr6 (HBS.out _) (own_blk HOWN.out))
    have HOWN6 := Lib.hid (show w6.ownsRow W0.heap.size 5 1 (.slice oa6 (n + 1) oc6) (n + 1) (bcells (padTo m (j + 1))) by
     have e : bcells (padTo m (j + 1)) = bcells (padTo m j) ++ bcells [0] := by rw [padTo_succ]; simp [bcells]
     rw [e]; exact hown6)
    clear hown6 hgr6
    go_roundw
    case rel => exact ⟨j + 1, n + 1, oa6, oc6, by first | rfl | simp, HJ.out.1, HJ.out.2.1, HOWN6.out, HBE6.out⟩
    case measure => exact HJ.out.2.2
  · have hjz2 : j = padZ ml := by omega
    have hr56 : r = 56 := by rw [hr, hn, hjz2]; exact padZ_mod ml
    subst hr56
    obtain ⟨x8, hx8⟩ : ∃ x, x = 8 * ml := ⟨_, rfl⟩
    have hx64 : x8 < 18446744073709551616 := by have := HM.out; omega
    have HX8 := Lib.hid (And.intro hx8 hx64)
    have HOWNM := Lib.hid (show wr.ownsRow W0.heap.size 5 1 (.slice oa n oc) n (bcells (padTo m (padZ ml))) by rw [← hjz2]; exact HOWN.out)
    have HNJ := Lib.hid (show n = ml + 1 + padZ ml by rw [hn, hjz2])
    obtain ⟨m1, m2, m3, m4⟩ := mul8_facts HM.out hx8
    clear hx8 hx64 hjz2 hr hn hjz HOWN HN
    go_wp2_with fail
    clear m1 m2 m3 m4 hr2
    go_loopw [8, 9, 10] (fun xv ov iv wy => ∃ (i y : Nat) (ta : Option Addr) (tc : Nat), iv = .int .i64 (i : Int) ∧ xv = .int .u64 (y : Int) ∧ ov = .slice ta i tc ∧ i ≤ 8 ∧ y = x8 / 256 ^ i ∧ Bytes wy wy.heap.size (.slice ta i tc) (eightR x8 i) ∧ Below wr.heap.size wr wy) (fun _ _ iv _ => 8 - (intOf iv).toNat)
    case atStart => exact ⟨0, x8, _, _, rfl, rfl, rfl, Nat.zero_le _, by simp, ⟨_, _, rfl, Nat.le_refl _, (fun z hz => by cases hz), fun h => absurd h (by simp [eightR])⟩, (Below.refl _ _).alloc (Nat.le_refl _) _⟩
    case round =>
     obtain ⟨i, y, ta, tc, rfl, rfl, rfl, hi, hy, hb, hbel⟩ := hrel
     have HB := Lib.hid hb
     have HBEL := Lib.hid hbel
     clear hb hbel
     by_cases hlt : i < 8
     · have hy64 : y < 18446744073709551616 := by rw [hy]; exact Nat.lt_of_le_of_lt (Nat.div_le_self _ _) HX8.out.2
       obtain ⟨d, hd⟩ : ∃ d, d = y % 256 := ⟨_, rfl⟩
       obtain ⟨q, hq⟩ : ∃ q, q = y / 256 := ⟨_, rfl⟩
       have HQ := Lib.hid (show q = x8 / 256 ^ (i + 1) by rw [hq, hy, div_step])
       have HE := Lib.hid (show eightR x8 (i + 1) = d :: eightR x8 i by rw [hd, hy]; rfl)
       have hown : (wr.alloc (.cells #[.int .u8 (d : Int)] 5)).ownsRow wr.heap.size 5 1 (.slice (some ⟨wr.heap.size, 0, none⟩) 1 1) 1 (bcells [d]) := (byte_own (Nat.le_refl _) d _ rfl).1
       have hal : Below wr.heap.size wr (wr.alloc (.cells #[.int .u8 (d : Int)] 5)) := (Below.refl _ _).alloc (Nat.le_refl _) _
       have HOWN := Lib.hid hown
       have HSRC := Lib.hid (HB.out.alive hal hal.size)
       have HBS := Lib.hid (show ∀ z, wr.heap.size ≤ (wr.alloc (.cells z 5)).heap.size from fun z => by simp)
       have HLN := Lib.hid (show 1 + (eightR x8 i).length ≤ 100000000 by rw [eightR_len]; omega)
       have HLI := Lib.hid (eightR_len x8 i)
       have hlt' : (i : Int) < 8 := by omega
       have HK2 := Lib.hid (And.intro (show i + 1 ≤ 8 from hlt) (show 8 - (i + 1) < 8 - i from Nat.sub_lt_sub_left hlt (Nat.lt_succ_self i)))
       have HAL := Lib.hid hal
       have hib : i < 4611686018427387904 := Nat.lt_trans hlt (by decide)
       obtain ⟨-, g2, -, g4, -, -, g7, -, -, -⟩ := byte_facts hy64 hd hq
       have HG7 := Lib.hid g7
       have hiw := wrap64_succ i hib
       have HIW := Lib.hid hiw
       clear g7 hy64 hd hq hown hy hal hib
       go_wp2_with (at_builtin; refine wpList_append_bytes rfl (.tmp 59) (.tmp 60) rfl wr.heap.size _ 1 _ rfl HOWN.out _ _ (eightR x8 i) rfl HSRC.out HLN.out (HBS.out _) ?_; intro oa6 oc6 w6 hown6 hgr6)
       have HBE6 := Lib.hid ((HBEL.out.alloc HBEL.out.size _).grown hgr6 (Nat.le_trans HBEL.out.size (HBS.out _)) (fun k hk => Nat.le_trans HBEL.out.size (own_blk HOWN.out k hk)))
       have HOWN6 := Lib.hid hown6
       clear hown6 hgr6
       go_roundw
       case rel =>
        have e : bcells [d] ++ bcells (eightR x8 i) = bcells (eightR x8 (i + 1)) := by rw [HE.out]; rfl
        have h6 := HOWN6.out
        rw [e, HLI.out] at h6
        have hl : 1 + i = i + 1 := Nat.add_comm 1 i
        rw [hl] at h6
        exact ⟨i + 1, q, oa6, oc6, by first | exact congrArg (Value.int .i64) HIW.out | rfl, by first | exact congrArg (Value.int .u64) HG7.out | rfl, by rw [HLI.out, hl], HK2.out.1, HQ.out, own_bytes h6 (eightR_len x8 (i + 1)) (eightR_lt x8 (i + 1)) (Nat.le_refl _), HBE6.out⟩
       case measure =>
        first | exact HK2.out.2 | (show 8 - (intOf (Value.int .i64 (wrap64 ((i : Int) + 1)))).toNat < _; rw [HIW.out]; exact HK2.out.2)
     · obtain rfl : i = 8 := by omega
       have hb := HB.out
       rw [eightR_full] at hb
       have HB8 := Lib.hid hb
       have HOWN := Lib.hid (own_below HOWNM.out HBEL.out)
       have HBEW := Lib.hid (HBEL2.out.trans (HBEL.out.mono HBEL2.out.size))
       have HLN := Lib.hid (show n + (eight x8).length ≤ 100000000 by rw [eight_length]; have := HM.out; have := padZ_lt ml; have := HNJ.out; omega)
       have HBS := Lib.hid (show W0.heap.size ≤ wr.heap.size from HBEW.out.size)
       clear hb hy hlt HB HBEL HOWNM HBEL2
       go_wp2_with (at_builtin; refine wpList_append_bytes rfl (.tmp 64) (.tmp 65) rfl W0.heap.size _ n _ rfl HOWN.out _ _ (eight x8) rfl HB8.out HLN.out HBS.out ?_; intro oaP ocP wP hownP hgrP)
       have hbP : Below W0.heap.size W0 wP := HBEW.out.grown hgrP HBS.out (own_blk HOWN.out)
       obtain ⟨N, hN⟩ : ∃ N, N = n + (eight x8).length := ⟨_, rfl⟩
       rw [← hN] at hownP ⊢
       obtain ⟨P, hP⟩ : ∃ P, P = padL m := ⟨_, rfl⟩
       have ecell : bcells (padTo m (padZ ml)) ++ bcells (eight x8) = bcells P := by
        rw [hP, ← padTo_full, ← EML.out, ← HX8.out.1]
        simp [bcells]
       rw [ecell] at hownP
       have hPl : P.length = N := by
        have := hownP.1
        rw [bcells_length, Nat.mul_one] at this
        exact this
       have hbytes : Bytes wP wP.heap.size (.slice oaP N ocP) P := own_bytes hownP hPl (by rw [hP]; exact padL_lt m HLT.out) (Nat.le_refl _)
       obtain ⟨Q, hQ⟩ : ∃ Q, Q = N / 64 := ⟨_, rfl⟩
       have hNQ : N = 64 * Q := by
        have := padL_len m
        rw [← hP, hPl] at this
        rw [hQ, this]
        split <;> omega
       have hN1 : N ≤ 1001000 := by
        have := padL_len m
        rw [← hP, hPl] at this
        have h1 := HM.out
        have h2 := EML.out
        rw [this]
        split <;> omega
       have HBY := Lib.hid hbytes
       have HBP := Lib.hid hbP
       have HNQ := Lib.hid (And.intro hNQ hN1)
       have HDG := Lib.hid (show digest K s0 m = (eat K Q s0 P).flatMap bytesOf by rw [digest_pad, ← hP, hPl, ← hQ])
       have HPL := Lib.hid hPl
       have HS0 := Lib.hid (HB0.out.below hbP HB0.out.lt)
       have HS1 := Lib.hid (HB1.out.below hbP HB1.out.lt)
       have HS2 := Lib.hid (HB2.out.below hbP HB2.out.lt)
       have hon0 : 0 < N := by rw [← hPl, hP]; unfold padL; simp; omega
       obtain ⟨ya, yc, ye, _, _, hcl0⟩ := id hbytes
       obtain ⟨mb, mo, hya, _, hcl⟩ := hcl0 (by rw [hPl]; exact hon0)
       injection ye with ye1 ye2 ye3
       subst ye1 hya
       have HMB := Lib.hid (show mb ≠ S0 ∧ W0.heap.size ≤ mb from by
        rcases hownP.2 with ⟨e, _⟩ | ⟨gg, cap, cur, e, hB, _⟩
        · injection e with e; cases e
        · injection e with e
          injection e with e
          injection e with e1 e2
          rw [e1]
          exact ⟨by have := EB.out; have := HSZ.out; omega, hB⟩)
       have HCL := Lib.hid hcl
       clear hownP hgrP hbP hN hP ecell hPl hbytes hQ hNQ hN1 hon0 hcl hcl0 ye2 ye3 HB8 HOWN HBEW HLN HBS HB0 HB1 HB2 HX8 HNJ HB HLT
       go_wp2_with fail
       go_loopw [11] (fun v wr => ∃ j : Nat, v = .int .i64 ((64 * j : Nat) : Int) ∧ j ≤ Q ∧ Has wr S0 33 (wcells (eat K j s0 P)).toArray ∧ Kept (· = S0) wP wr) (fun v _ => N - (intOf v).toNat)
       case atStart => exact ⟨0, rfl, Nat.zero_le _, by rw [show eat K 0 s0 P = s0 from rfl, ← ECS.out]; exact HS0.out, Kept.refl _ _⟩
       case round =>
        clear HS0
        obtain ⟨j, rfl, hj, hst, hkp⟩ := hrel
        have HST := Lib.hid hst
        have HKP := Lib.hid hkp
        clear hst hkp
        obtain ⟨wJ, hwJ⟩ : ∃ y, y = wr := ⟨_, rfl⟩
        subst hwJ
        obtain ⟨p0, hp0⟩ : ∃ p, p = 64 * j := ⟨_, rfl⟩
        rw [← hp0]
        by_cases hjq : j < Q
        · have hpn : (p0 : Int) < (N : Int) := by have := HNQ.out; omega
          obtain ⟨bs, hbs⟩ : ∃ b, b = (P.drop (64 * j)).take 64 := ⟨_, rfl⟩
          have hbl : bs.length = 64 := by rw [hbs, List.length_take, List.length_drop, HPL.out]; have := HNQ.out; omega
          have hbg : ∀ i, i < 64 → bs.getD i 0 = P.getD (p0 + i) 0 := fun i hi => by
           rw [hbs, List.getD_eq_getElem?_getD, List.getD_eq_getElem?_getD, List.getElem?_take_of_lt hi, List.getElem?_drop, hp0]
          have hown0 : (wJ.alloc (.cells #[] 32)).ownsRow wJ.heap.size 32 1 (.slice (some ⟨wJ.heap.size, 0, none⟩) 0 0) 0 (wcells (sched bs 0)) := World.ownsRow_made wJ #[] 0 (Nat.le_refl _) (by decide) rfl
          have HOWN0 := Lib.hid hown0
          have HBG := Lib.hid hbg
          have HBL := Lib.hid hbl
          have EP0 := Lib.hid hp0
          have EBS := Lib.hid hbs
          have HJQ := Lib.hid hjq
          have HALW := Lib.hid (show Below wJ.heap.size wJ (wJ.alloc (.cells #[] 32)) from (Below.refl _ _).alloc (Nat.le_refl _) _)
          clear hown0 hbg hbl hp0 hbs hjq
          go_wp2_with fail
          go_loopw [12, 13] (fun ov iv wy => ∃ (k : Nat) (oa : Option Addr) (oc : Nat), iv = .int .i64 ((4 * k : Nat) : Int) ∧ ov = .slice oa k oc ∧ k ≤ 16 ∧ wy.ownsRow wJ.heap.size 32 1 (.slice oa k oc) k (wcells (sched bs k)) ∧ Below wJ.heap.size wJ wy) (fun _ iv _ => 64 - (intOf iv).toNat)
          case atStart => exact ⟨0, _, _, rfl, rfl, Nat.zero_le _, HOWN0.out, HALW.out⟩
          case round =>
           clear HOWN0 HALW
           obtain ⟨k, oa, oc, rfl, rfl, hk, hown, hbel⟩ := hrel
           have HOWN := Lib.hid hown
           have HBEL := Lib.hid hbel
           clear hown hbel
           by_cases hk16 : k < 16
           · obtain ⟨q0, hq0⟩ : ∃ q, q = 4 * k := ⟨_, rfl⟩
             rw [← hq0]
             have hcel : ∀ v, Below wJ.heap.size wJ v → ∀ i, i < 64 → v.cell? ⟨mb, mo + (p0 + i), none⟩ = some (.int .u8 (bs.getD i 0 : Nat)) := fun v hv i hi => by
               rw [HBG.out i hi]
               refine cell_held (Kept.of_below (S := fun _ => False) hv) (cell_held HKP.out (HCL.out (p0 + i) (by rw [HPL.out]; have := HNQ.out; have := EP0.out; have := HJQ.out; omega)) HMB.out.1) (fun h => h)
             have hbv : ∀ i, i < 64 → bs.getD i 0 < 256 := fun i hi => by
               rw [HBG.out i hi, List.getD_eq_getElem?_getD, List.getElem?_eq_getElem (by rw [HPL.out]; have := HNQ.out; have := EP0.out; have := HJQ.out; omega)]
               exact bytes_lt HBY.out _ (List.getElem_mem _)
             have c0 := fun v (hv : Below wJ.heap.size wJ v) => hcel v hv q0 (by omega)
             have c1 := fun v (hv : Below wJ.heap.size wJ v) => hcel v hv (q0 + 1) (by omega)
             have c2 := fun v (hv : Below wJ.heap.size wJ v) => hcel v hv (q0 + 2) (by omega)
             have c3 := fun v (hv : Below wJ.heap.size wJ v) => hcel v hv (q0 + 3) (by omega)
             have l0 := hbv q0 (by omega)
             have l1 := hbv (q0 + 1) (by omega)
             have l2 := hbv (q0 + 2) (by omega)
             have l3 := hbv (q0 + 3) (by omega)
             obtain ⟨r0, hr0⟩ : ∃ r, r = p0 + q0 := ⟨_, rfl⟩
             obtain ⟨r1, hr1⟩ : ∃ r, r = r0 + 1 := ⟨_, rfl⟩
             obtain ⟨r2, hr2⟩ : ∃ r, r = r0 + 2 := ⟨_, rfl⟩
             obtain ⟨r3, hr3⟩ : ∃ r, r = r0 + 3 := ⟨_, rfl⟩
             simp only [← hr0] at c0
             simp only [show p0 + (q0 + 1) = r1 by omega] at c1
             simp only [show p0 + (q0 + 2) = r2 by omega] at c2
             simp only [show p0 + (q0 + 3) = r3 by omega] at c3
             obtain ⟨b0, hb0⟩ : ∃ b, b = bs.getD q0 0 := ⟨_, rfl⟩
             obtain ⟨b1, hb1⟩ : ∃ b, b = bs.getD (q0 + 1) 0 := ⟨_, rfl⟩
             obtain ⟨b2, hb2⟩ : ∃ b, b = bs.getD (q0 + 2) 0 := ⟨_, rfl⟩
             obtain ⟨b3, hb3⟩ : ∃ b, b = bs.getD (q0 + 3) 0 := ⟨_, rfl⟩
             rw [← hb0] at l0
             simp only [← hb0] at c0
             rw [← hb1] at l1
             simp only [← hb1] at c1
             rw [← hb2] at l2
             simp only [← hb2] at c2
             rw [← hb3] at l3
             simp only [← hb3] at c3
             obtain ⟨e1, h1⟩ : ∃ e, e = b0 * 256 := ⟨_, rfl⟩
             obtain ⟨e2, h2⟩ : ∃ e, e = e1 + b1 := ⟨_, rfl⟩
             obtain ⟨e3, h3⟩ : ∃ e, e = e2 * 256 := ⟨_, rfl⟩
             obtain ⟨e4, h4⟩ : ∃ e, e = e3 + b2 := ⟨_, rfl⟩
             obtain ⟨e5, h5⟩ : ∃ e, e = e4 * 256 := ⟨_, rfl⟩
             obtain ⟨e6, h6⟩ : ∃ e, e = e5 + b3 := ⟨_, rfl⟩
             have hword : (word bs k).toNat = e6 := by
               unfold word
               rw [← hq0, ← hb0, ← hb1, ← hb2, ← hb3, BitVec.toNat_ofNat, Nat.mod_eq_of_lt (by omega)]
               omega
             have hsch : sched bs (k + 1) = sched bs k ++ [word bs k] := by
               show sched bs k ++ [nextWord bs (sched bs k) k] = _
               unfold nextWord
               rw [if_pos hk16]
             have hrN : r3 < N := by have := HNQ.out; have := EP0.out; have := HJQ.out; omega
             have a0 := at_byte mb mo N ocP r0 (by omega)
             have a1 := at_byte mb mo N ocP r1 (by omega)
             have a2 := at_byte mb mo N ocP r2 (by omega)
             have a3 := at_byte mb mo N ocP r3 hrN
             have w0 := i64_add p0 q0 (by have := HNQ.out; omega)
             have hq64 : (q0 : Int) < 64 := by omega
             have HQQ := Lib.hid (show 4 * (k + 1) = q0 + 4 ∧ k + 1 ≤ 16 ∧ 64 - (q0 + 4) < 64 - q0 by omega)
             have hr0b : r0 < 4611686018427387904 := by have := HNQ.out; omega
             have hq0b : q0 < 4611686018427387904 := by omega
             have HWD := Lib.hid hword
             have HSCH := Lib.hid hsch
             have HK16 := Lib.hid hk16
             have hr0s : r0 < 2000000 := by have := HNQ.out; omega
             have hq0s : q0 < 64 := by omega
             have HW4 := Lib.hid (wrap64_4 q0 (by omega))
             have w1 := i64_1 r0 (by omega)
             have w2 := i64_2 r0 (by omega)
             have w3 := i64_3 r0 (by omega)
             rw [← hr0] at w0
             rw [← hr1] at w1
             rw [← hr2] at w2
             rw [← hr3] at w3
             obtain ⟨⟨f1, f2, f3, f4, f5, f6⟩, ⟨f7, f8, f9, f10⟩, -⟩ := word_facts l0 l1 l2 l3 h1 h2 h3 h4 h5 h6
             have HC := Lib.hid (show ∀ v, Below wJ.heap.size wJ v → v.cell? ⟨mb, mo + r0, none⟩ = some (.int .u8 (b0 : Int)) ∧ v.cell? ⟨mb, mo + r1, none⟩ = some (.int .u8 (b1 : Int)) ∧ v.cell? ⟨mb, mo + r2, none⟩ = some (.int .u8 (b2 : Int)) ∧ v.cell? ⟨mb, mo + r3, none⟩ = some (.int .u8 (b3 : Int)) from fun v hv => ⟨c0 v hv, c1 v hv, c2 v hv, c3 v hv⟩)
             have hown38 : ((wr.alloc (.cells #[.int .u32 (e6 : Int)] 32)).drew).ownsRow wJ.heap.size 32 1 (.slice oa k oc) k (wcells (sched bs k)) := (HOWN.out.alloc _).drew
             have HOWN38 := Lib.hid hown38
             have HBE38 := Lib.hid (show Below wJ.heap.size wJ ((wr.alloc (.cells #[.int .u32 (e6 : Int)] 32)).drew) from (HBEL.out.alloc HBEL.out.size _).drew)
             have HML := Lib.hid (show k + 1 ≤ maxLen by unfold maxLen; omega)
             have HBY4 := Lib.hid (show (k + 1) * 4 ≤ 140737488355328 by omega)
             have hS0 := HC.out wr HBEL.out
             have hSb := HC.out _ HBE38.out
             have hlt38 : wJ.heap.size ≤ ((wr.alloc (.cells #[.int .u32 (e6 : Int)] 32)).drew).heap.size := HBE38.out.size
             have HLT38 := Lib.hid hlt38
             clear hown38 hlt38 c0 c1 c2 c3 hcel hbv hr0 hr1 hr2 hr3 hb0 hb1 hb2 hb3 h1 h2 h3 h4 h5 h6 hword hsch hrN hr0b hq0b hr0s hq0s l0 l1 l2 l3 hq0 hk hk16
             as_aux_lemma =>
               go_upto_region 20 with (fail)
               refine wp_region_noPanic ?_
               refine wp_region_held_drew (S := (fun v => v.cell? ⟨mb, mo + r0, none⟩ = some (.int .u8 (b0 : Int)) ∧ v.cell? ⟨mb, mo + r1, none⟩ = some (.int .u8 (b1 : Int)) ∧ v.cell? ⟨mb, mo + r2, none⟩ = some (.int .u8 (b2 : Int)) ∧ v.cell? ⟨mb, mo + r3, none⟩ = some (.int .u8 (b3 : Int)))) (by kernel_rfl) hS0 (fun hH0 => ?_)
               refine tk 0 (v := ((.slice oa k oc))) rfl (Or.inl ⟨by kernel_rfl, by intro w' hS; obtain ⟨z0, z1, z2, z3⟩ := hS; go_simp⟩) hH0 ?_
               simp only [Act.put, qa]
               refine tk 1 (v := ((.slice (some ⟨mb, mo, none⟩) N ocP))) rfl (Or.inl ⟨by kernel_rfl, by intro w' hS; obtain ⟨z0, z1, z2, z3⟩ := hS; go_simp⟩) hH0 ?_
               simp only [Act.put, qa]
               refine tk 2 (v := (.int .i64 (p0 : Int))) rfl (Or.inl ⟨by kernel_rfl, by intro w' hS; obtain ⟨z0, z1, z2, z3⟩ := hS; go_simp⟩) hH0 ?_
               simp only [Act.put, qa]
               refine tk 3 (v := (.int .i64 (q0 : Int))) rfl (Or.inl ⟨by kernel_rfl, by intro w' hS; obtain ⟨z0, z1, z2, z3⟩ := hS; go_simp⟩) hH0 ?_
               simp only [Act.put, qa]
               refine tk 4 (v := (.int .i64 (r0 : Int))) rfl (Or.inl ⟨by kernel_rfl, by intro w' hS; obtain ⟨z0, z1, z2, z3⟩ := hS; go_simp⟩) hH0 ?_
               simp only [Act.put, qa]
               refine tk 5 (v := ((.pointer (some ⟨mb, mo + r0, none⟩)))) rfl (Or.inl ⟨by kernel_rfl, by intro w' hS; obtain ⟨z0, z1, z2, z3⟩ := hS; go_simp⟩) hH0 ?_
               simp only [Act.put, qa]
               refine tk 6 (v := (.int .u8 (b0 : Int))) rfl (Or.inl ⟨by kernel_rfl, by intro w' hS; obtain ⟨z0, z1, z2, z3⟩ := hS; go_simp⟩) hH0 ?_
               simp only [Act.put, qa]
               refine tk 7 (v := (.int .u32 (b0 : Int))) rfl (Or.inl ⟨by kernel_rfl, by intro w' hS; obtain ⟨z0, z1, z2, z3⟩ := hS; go_simp⟩) hH0 ?_
               simp only [Act.put, qa]
               refine tk 8 (v := (.int .u32 (e1 : Int))) rfl (Or.inl ⟨by kernel_rfl, by intro w' hS; obtain ⟨z0, z1, z2, z3⟩ := hS; go_simp⟩) hH0 ?_
               simp only [Act.put, qa]
               refine tk 9 (v := ((.slice (some ⟨mb, mo, none⟩) N ocP))) rfl (Or.inl ⟨by kernel_rfl, by intro w' hS; obtain ⟨z0, z1, z2, z3⟩ := hS; go_simp⟩) hH0 ?_
               simp only [Act.put, qa]
               refine tk 10 (v := (.int .i64 (p0 : Int))) rfl (Or.inl ⟨by kernel_rfl, by intro w' hS; obtain ⟨z0, z1, z2, z3⟩ := hS; go_simp⟩) hH0 ?_
               simp only [Act.put, qa]
               refine tk 11 (v := (.int .i64 (q0 : Int))) rfl (Or.inl ⟨by kernel_rfl, by intro w' hS; obtain ⟨z0, z1, z2, z3⟩ := hS; go_simp⟩) hH0 ?_
               simp only [Act.put, qa]
               refine tk 12 (v := (.int .i64 (r0 : Int))) rfl (Or.inl ⟨by kernel_rfl, by intro w' hS; obtain ⟨z0, z1, z2, z3⟩ := hS; go_simp⟩) hH0 ?_
               simp only [Act.put, qa]
               refine tk 13 (v := (.int .i64 (r1 : Int))) rfl (Or.inl ⟨by kernel_rfl, by intro w' hS; obtain ⟨z0, z1, z2, z3⟩ := hS; go_simp⟩) hH0 ?_
               simp only [Act.put, qa]
               refine tk 14 (v := ((.pointer (some ⟨mb, mo + r1, none⟩)))) rfl (Or.inl ⟨by kernel_rfl, by intro w' hS; obtain ⟨z0, z1, z2, z3⟩ := hS; go_simp⟩) hH0 ?_
               simp only [Act.put, qa]
               refine tk 15 (v := (.int .u8 (b1 : Int))) rfl (Or.inl ⟨by kernel_rfl, by intro w' hS; obtain ⟨z0, z1, z2, z3⟩ := hS; go_simp⟩) hH0 ?_
               simp only [Act.put, qa]
               refine tk 16 (v := (.int .u32 (b1 : Int))) rfl (Or.inl ⟨by kernel_rfl, by intro w' hS; obtain ⟨z0, z1, z2, z3⟩ := hS; go_simp⟩) hH0 ?_
               simp only [Act.put, qa]
               refine tk 17 (v := (.int .u32 (e2 : Int))) rfl (Or.inl ⟨by kernel_rfl, by intro w' hS; obtain ⟨z0, z1, z2, z3⟩ := hS; go_simp⟩) hH0 ?_
               simp only [Act.put, qa]
               refine tk 18 (v := (.int .u32 (e3 : Int))) rfl (Or.inl ⟨by kernel_rfl, by intro w' hS; obtain ⟨z0, z1, z2, z3⟩ := hS; go_simp⟩) hH0 ?_
               simp only [Act.put, qa]
               refine tk 19 (v := ((.slice (some ⟨mb, mo, none⟩) N ocP))) rfl (Or.inl ⟨by kernel_rfl, by intro w' hS; obtain ⟨z0, z1, z2, z3⟩ := hS; go_simp⟩) hH0 ?_
               simp only [Act.put, qa]
               refine tk 20 (v := (.int .i64 (p0 : Int))) rfl (Or.inl ⟨by kernel_rfl, by intro w' hS; obtain ⟨z0, z1, z2, z3⟩ := hS; go_simp⟩) hH0 ?_
               simp only [Act.put, qa]
               refine tk 21 (v := (.int .i64 (q0 : Int))) rfl (Or.inl ⟨by kernel_rfl, by intro w' hS; obtain ⟨z0, z1, z2, z3⟩ := hS; go_simp⟩) hH0 ?_
               simp only [Act.put, qa]
               refine tk 22 (v := (.int .i64 (r0 : Int))) rfl (Or.inl ⟨by kernel_rfl, by intro w' hS; obtain ⟨z0, z1, z2, z3⟩ := hS; go_simp⟩) hH0 ?_
               simp only [Act.put, qa]
               refine tk 23 (v := (.int .i64 (r2 : Int))) rfl (Or.inl ⟨by kernel_rfl, by intro w' hS; obtain ⟨z0, z1, z2, z3⟩ := hS; go_simp⟩) hH0 ?_
               simp only [Act.put, qa]
               refine tk 24 (v := ((.pointer (some ⟨mb, mo + r2, none⟩)))) rfl (Or.inl ⟨by kernel_rfl, by intro w' hS; obtain ⟨z0, z1, z2, z3⟩ := hS; go_simp⟩) hH0 ?_
               simp only [Act.put, qa]
               refine tk 25 (v := (.int .u8 (b2 : Int))) rfl (Or.inl ⟨by kernel_rfl, by intro w' hS; obtain ⟨z0, z1, z2, z3⟩ := hS; go_simp⟩) hH0 ?_
               simp only [Act.put, qa]
               refine tk 26 (v := (.int .u32 (b2 : Int))) rfl (Or.inl ⟨by kernel_rfl, by intro w' hS; obtain ⟨z0, z1, z2, z3⟩ := hS; go_simp⟩) hH0 ?_
               simp only [Act.put, qa]
               refine tk 27 (v := (.int .u32 (e4 : Int))) rfl (Or.inl ⟨by kernel_rfl, by intro w' hS; obtain ⟨z0, z1, z2, z3⟩ := hS; go_simp⟩) hH0 ?_
               simp only [Act.put, qa]
               refine tk 28 (v := (.int .u32 (e5 : Int))) rfl (Or.inl ⟨by kernel_rfl, by intro w' hS; obtain ⟨z0, z1, z2, z3⟩ := hS; go_simp⟩) hH0 ?_
               simp only [Act.put, qa]
               refine tk 29 (v := ((.slice (some ⟨mb, mo, none⟩) N ocP))) rfl (Or.inl ⟨by kernel_rfl, by intro w' hS; obtain ⟨z0, z1, z2, z3⟩ := hS; go_simp⟩) hH0 ?_
               simp only [Act.put, qa]
               refine tk 30 (v := (.int .i64 (p0 : Int))) rfl (Or.inl ⟨by kernel_rfl, by intro w' hS; obtain ⟨z0, z1, z2, z3⟩ := hS; go_simp⟩) hH0 ?_
               simp only [Act.put, qa]
               refine tk 31 (v := (.int .i64 (q0 : Int))) rfl (Or.inl ⟨by kernel_rfl, by intro w' hS; obtain ⟨z0, z1, z2, z3⟩ := hS; go_simp⟩) hH0 ?_
               simp only [Act.put, qa]
               refine tk 32 (v := (.int .i64 (r0 : Int))) rfl (Or.inl ⟨by kernel_rfl, by intro w' hS; obtain ⟨z0, z1, z2, z3⟩ := hS; go_simp⟩) hH0 ?_
               simp only [Act.put, qa]
               refine tk 33 (v := (.int .i64 (r3 : Int))) rfl (Or.inl ⟨by kernel_rfl, by intro w' hS; obtain ⟨z0, z1, z2, z3⟩ := hS; go_simp⟩) hH0 ?_
               simp only [Act.put, qa]
               refine tk 34 (v := ((.pointer (some ⟨mb, mo + r3, none⟩)))) rfl (Or.inl ⟨by kernel_rfl, by intro w' hS; obtain ⟨z0, z1, z2, z3⟩ := hS; go_simp⟩) hH0 ?_
               simp only [Act.put, qa]
               refine tk 35 (v := (.int .u8 (b3 : Int))) rfl (Or.inl ⟨by kernel_rfl, by intro w' hS; obtain ⟨z0, z1, z2, z3⟩ := hS; go_simp⟩) hH0 ?_
               simp only [Act.put, qa]
               refine tk 36 (v := (.int .u32 (b3 : Int))) rfl (Or.inl ⟨by kernel_rfl, by intro w' hS; obtain ⟨z0, z1, z2, z3⟩ := hS; go_simp⟩) hH0 ?_
               simp only [Act.put, qa]
               refine tk 37 (v := (.int .u32 (e6 : Int))) rfl (Or.inl ⟨by kernel_rfl, by intro w' hS; obtain ⟨z0, z1, z2, z3⟩ := hS; go_simp⟩) hH0 ?_
               simp only [Act.put, qa]
               refine wpAnyH_ready (rs := [38]) (by kernel_rfl) (by simp) ?_
               refine AllReadyH.cons rfl (fun K hK => ?_) AllReadyH.nil
               go_simp
               refine Shut.out hK _ _ hSb (fun hH1 => ?_)
               clear hK K
               try simp only [Act.put, qa]
               refine wpAnyH_ready (rs := [39]) (by kernel_rfl) (by simp) ?_
               refine AllReadyH.cons rfl (fun K hK => ?_) AllReadyH.nil
               refine step_append_lies _ (by rfl) _ _ 128 (by rfl) wJ.heap.size 32 iu (.int .u32 0) 1 4 Tryd.underlying128 hiu hiu0 hiu1 hiu2 rfl (by decide) (.slice oa k oc) k (wcells (sched bs k)) (by rfl) HOWN38.out ⟨wr.heap.size, 0, none⟩ 1 1 [.int .u32 (e6 : Int)] (by rfl) (by rfl) (World.news_of_block (w := (wr.alloc (.cells #[.int .u32 (e6 : Int)] 32)).drew) (cs := #[.int .u32 (e6 : Int)]) (t := 32) (fr := (0, 0)) (heap_alloc_new wr _)) (by intro v hv; rw [List.mem_singleton] at hv; rw [hv]; rfl) (by decide) HML.out HBY4.out HLT38.out _ rfl ?_
               intro g6 cap6 w6 hown6 hgr6 hat6 hlt6
               have hbe6 : Below wJ.heap.size wJ w6 := HBE38.out.grown hgr6 HLT38.out (own_blk HOWN38.out)
               have hS6 := HC.out w6 hbe6
               clear hgr6 hat6 hlt6
               refine Shut.out hK _ _ hS6 (fun hH2 => ?_)
               clear hK K
               try simp only [Act.put, qa]
               refine tk 40 (v := ((.slice (some ⟨g6, 0, none⟩) (k + 1) cap6))) rfl (Or.inl ⟨by kernel_rfl, by intro w' hS; obtain ⟨z0, z1, z2, z3⟩ := hS; go_simp⟩) hH2 ?_
               simp only [Act.put, qa]
               refine wpAnyH_done (by kernel_rfl) ?_ _
               refine NoPanic.normal ?_
               have HOWN6 := Lib.hid (show w6.ownsRow wJ.heap.size 32 1 (.slice (some ⟨g6, 0, none⟩) (k + 1) cap6) (k + 1) (wcells (sched bs (k + 1))) by
                 rw [HSCH.out, wcells_snoc, HWD.out]; exact hown6)
               have HBE6 := Lib.hid hbe6
               clear hown6 hbe6 hS0 hSb hS6 hH0 hH1 hH2 HC HOWN38 HBE38 HBY4 HML HLT38
               clear f1 f2 f3 f4 f5 f6 f7 f8 f9 f10 w0 w1 w2 w3 a0 a1 a2 a3
               have w4 := HW4.out
               go_wp2
               go_roundw
               case rel => exact ⟨k + 1, some ⟨g6, 0, none⟩, cap6, by rw [HQQ.out.1]; first | rfl | exact congrArg (Value.int .i64) HW4.out, rfl, HQQ.out.2.1, HOWN6.out, HBE6.out⟩
               case measure =>
                 first | exact HQQ.out.2.2 | (show 64 - (intOf (Value.int .i64 (wrap64 ((q0 : Int) + 4)))).toNat < _; rw [w4]; exact HQQ.out.2.2)
           · have ek : k = 16 := by omega
             subst ek
             rw [show ((4 * 16 : Nat) : Int) = 64 from rfl]
             have HOW5 := Lib.hid HOWN.out
             have HBE5 := Lib.hid HBEL.out
             clear HOWN HBEL
             go_wp2_with fail
             go_loopw [12, 14] (fun ov iv wy => ∃ (k : Nat) (oa : Option Addr) (oc : Nat), iv = .int .i64 (k : Int) ∧ ov = .slice oa k oc ∧ 16 ≤ k ∧ k ≤ 64 ∧ wy.ownsRow wJ.heap.size 32 1 (.slice oa k oc) k (wcells (sched bs k)) ∧ Below wJ.heap.size wJ wy) (fun _ iv _ => 64 - (intOf iv).toNat)
             case atStart => exact ⟨16, _, _, rfl, rfl, Nat.le_refl _, by omega, HOW5.out, HBE5.out⟩
             case round =>
               clear HOW5 HBE5
               obtain ⟨k, oa, oc, rfl, rfl, hk0, hk, hown, hbel⟩ := hrel
               have HOWN := Lib.hid hown
               have HBEL := Lib.hid hbel
               clear hown hbel
               by_cases hk64 : k < 64
               · obtain ⟨gw, cap, cur, ew, hB, hh, z1, z2, z3, z4⟩ := own_open HOWN.out (by omega)
                 injection ew with ew1 ew2 ew3
                 subst ew1
                 have hcel : ∀ i, i < k → wr.cell? ⟨gw, i, none⟩ = some (.int .u32 (((sched bs k).getD i 0).toNat : Int)) := fun i hi => by
                   refine hh.cell_is ?_
                   rw [z4 i (by omega)]
                   exact wcells_get _ i (by rw [sched_length]; exact hi)
                 have c16 := hcel (k - 16) (by omega)
                 have c15 := hcel (k - 15) (by omega)
                 have c7 := hcel (k - 7) (by omega)
                 have c2 := hcel (k - 2) (by omega)
                 obtain ⟨i16, hi16⟩ : ∃ i, i = k - 16 := ⟨_, rfl⟩
                 obtain ⟨i15, hi15⟩ : ∃ i, i = k - 15 := ⟨_, rfl⟩
                 obtain ⟨i7, hi7⟩ : ∃ i, i = k - 7 := ⟨_, rfl⟩
                 obtain ⟨i2, hi2⟩ : ∃ i, i = k - 2 := ⟨_, rfl⟩
                 obtain ⟨x16, h16⟩ : ∃ x, x = (sched bs k).getD (k - 16) 0 := ⟨_, rfl⟩
                 obtain ⟨x15, h15⟩ : ∃ x, x = (sched bs k).getD (k - 15) 0 := ⟨_, rfl⟩
                 obtain ⟨x7, h7⟩ : ∃ x, x = (sched bs k).getD (k - 7) 0 := ⟨_, rfl⟩
                 obtain ⟨x2, h2⟩ : ∃ x, x = (sched bs k).getD (k - 2) 0 := ⟨_, rfl⟩
                 rw [← h16, ← hi16] at c16
                 rw [← h15, ← hi15] at c15
                 rw [← h7, ← hi7] at c7
                 rw [← h2, ← hi2] at c2
                 obtain ⟨y0, hy0⟩ : ∃ x, x = lil0 x15 := ⟨_, rfl⟩
                 obtain ⟨y1, hy1⟩ : ∃ x, x = lil1 x2 := ⟨_, rfl⟩
                 obtain ⟨s1, hs1⟩ : ∃ x, x = x16 + y0 := ⟨_, rfl⟩
                 obtain ⟨s2, hs2⟩ : ∃ x, x = s1 + x7 := ⟨_, rfl⟩
                 obtain ⟨s3, hs3⟩ : ∃ x, x = s2 + y1 := ⟨_, rfl⟩
                 have hsch : sched bs (k + 1) = sched bs k ++ [s3] := by
                   show sched bs k ++ [nextWord bs (sched bs k) k] = _
                   unfold nextWord
                   rw [if_neg (by omega), ← h16, ← h15, ← h7, ← h2, hs3, hs2, hs1, hy0, hy1]
                 have HSCH := Lib.hid hsch
                 have HG26 := Lib.hid (show (wcells (sched bs k))[i16]? = some (.int .u32 (x16.toNat : Int)) ∧ (wcells (sched bs k))[i7]? = some (.int .u32 (x7.toNat : Int)) by rw [hi16, hi7, h16, h7]; exact ⟨wcells_get _ _ (by rw [sched_length]; omega), wcells_get _ _ (by rw [sched_length]; omega)⟩)
                 have a16 : ∀ w, (Instr.indexAt 128 (.slice (some ⟨gw, 0, none⟩) k oc) (.int .i64 ((k : Int) - 16))).run Tryd.prog w = .ok (.pointer (some ⟨gw, i16, none⟩)) w := fun w => by
                   have := at_word gw k oc i16 (by omega) w
                   rwa [show ((i16 : Nat) : Int) = (k : Int) - 16 by omega] at this
                 have a15 : ∀ w, (Instr.indexAt 128 (.slice (some ⟨gw, 0, none⟩) k oc) (.int .i64 ((k : Int) - 15))).run Tryd.prog w = .ok (.pointer (some ⟨gw, i15, none⟩)) w := fun w => by
                   have := at_word gw k oc i15 (by omega) w
                   rwa [show ((i15 : Nat) : Int) = (k : Int) - 15 by omega] at this
                 have a7 : ∀ w, (Instr.indexAt 128 (.slice (some ⟨gw, 0, none⟩) k oc) (.int .i64 ((k : Int) - 7))).run Tryd.prog w = .ok (.pointer (some ⟨gw, i7, none⟩)) w := fun w => by
                   have := at_word gw k oc i7 (by omega) w
                   rwa [show ((i7 : Nat) : Int) = (k : Int) - 7 by omega] at this
                 have a2 : ∀ w, (Instr.indexAt 128 (.slice (some ⟨gw, 0, none⟩) k oc) (.int .i64 ((k : Int) - 2))).run Tryd.prog w = .ok (.pointer (some ⟨gw, i2, none⟩)) w := fun w => by
                   have := at_word gw k oc i2 (by omega) w
                   rwa [show ((i2 : Nat) : Int) = (k : Int) - 2 by omega] at this
                 have hk64' : (k : Int) < 64 := by omega
                 have HK2 := Lib.hid (show 16 ≤ k + 1 ∧ k + 1 ≤ 64 ∧ 64 - (k + 1) < 64 - k by omega)
                 have HML := Lib.hid (show k + 1 ≤ maxLen by unfold maxLen; omega)
                 have HBY4 := Lib.hid (show (k + 1) * 4 ≤ 140737488355328 by omega)
                 have hl0 := lil0_num x15
                 have hl1 := lil1_num x2
                 rw [← hy0] at hl0
                 rw [← hy1] at hl1
                 have d1 := wadd_wd x16 y0
                 have d2 := wadd_wd s1 x7
                 have d3 := wadd_wd s2 y1
                 rw [← hs1] at d1
                 rw [← hs2] at d2
                 rw [← hs3] at d3
                 obtain ⟨v16, v15, v7, v2⟩ := back_facts2 hk0 hk64
                 have hkb : k < 4611686018427387904 := Nat.lt_trans hk64 (by decide)
                 have HWK := Lib.hid (wrap64_succ k hkb)
                 clear hcel hi16 hi15 hi7 hi2 h16 h15 h7 h2 hy0 hy1 hs1 hs2 hs3 hsch hB hh z1 z2 z3 z4 ew2 ew3 hkb hk0 hk hk64
                 have HT1 := Lib.hid (turn_all x15 7 (by decide) (by decide) 7 rfl)
                 have HT2 := Lib.hid (turn_all x15 18 (by decide) (by decide) 18 rfl)
                 have HT3 := Lib.hid (turn_all x2 17 (by decide) (by decide) 17 rfl)
                 have HT4 := Lib.hid (turn_all x2 19 (by decide) (by decide) 19 rfl)
                 have HDD := Lib.hid (And.intro d1 (And.intro d2 d3))
                 clear d1 d2 d3
                 have hS0 : wr.cell? ⟨gw, i15, none⟩ = some (.int .u32 (x15.toNat : Int)) := c15
                 go_upto_region 24 with (fail)
                 as_aux_lemma =>
                   refine wp_region_noPanic ?_
                   refine wp_region_held_drew (S := (fun v => v.cell? ⟨gw, i15, none⟩ = some (.int .u32 (x15.toNat : Int)))) (by kernel_rfl) hS0 (fun hH0 => ?_)
                   refine tk 0 (v := ((.slice (some ⟨gw, 0, none⟩) k oc))) rfl (Or.inl ⟨by kernel_rfl, by intro w' hS; go_simp⟩) hH0 ?_
                   simp only [Act.put, qa]
                   refine tk 1 (v := (.int .i64 (k : Int))) rfl (Or.inl ⟨by kernel_rfl, by intro w' hS; go_simp⟩) hH0 ?_
                   simp only [Act.put, qa]
                   refine tk 2 (v := (.int .i64 ((k : Int) - 15))) rfl (Or.inl ⟨by kernel_rfl, by intro w' hS; go_simp⟩) hH0 ?_
                   simp only [Act.put, qa]
                   refine tk 3 (v := ((.pointer (some ⟨gw, i15, none⟩)))) rfl (Or.inl ⟨by kernel_rfl, by intro w' hS; go_simp⟩) hH0 ?_
                   simp only [Act.put, qa]
                   refine tk 4 (v := (.int .u32 (x15.toNat : Int))) rfl (Or.inl ⟨by kernel_rfl, by intro w' hS; go_simp⟩) hH0 ?_
                   simp only [Act.put, qa]
                   refine tk 6 (v := ((.slice (some ⟨gw, 0, none⟩) k oc))) rfl (Or.inl ⟨by kernel_rfl, by intro w' hS; go_simp⟩) hH0 ?_
                   simp only [Act.put, qa]
                   refine tk 7 (v := (.int .i64 (k : Int))) rfl (Or.inl ⟨by kernel_rfl, by intro w' hS; go_simp⟩) hH0 ?_
                   simp only [Act.put, qa]
                   refine tk 8 (v := (.int .i64 ((k : Int) - 15))) rfl (Or.inl ⟨by kernel_rfl, by intro w' hS; go_simp⟩) hH0 ?_
                   simp only [Act.put, qa]
                   refine tk 9 (v := ((.pointer (some ⟨gw, i15, none⟩)))) rfl (Or.inl ⟨by kernel_rfl, by intro w' hS; go_simp⟩) hH0 ?_
                   simp only [Act.put, qa]
                   refine tk 10 (v := (.int .u32 (x15.toNat : Int))) rfl (Or.inl ⟨by kernel_rfl, by intro w' hS; go_simp⟩) hH0 ?_
                   simp only [Act.put, qa]
                   refine tk 13 (v := ((.slice (some ⟨gw, 0, none⟩) k oc))) rfl (Or.inl ⟨by kernel_rfl, by intro w' hS; go_simp⟩) hH0 ?_
                   simp only [Act.put, qa]
                   refine tk 14 (v := (.int .i64 (k : Int))) rfl (Or.inl ⟨by kernel_rfl, by intro w' hS; go_simp⟩) hH0 ?_
                   simp only [Act.put, qa]
                   refine tk 15 (v := (.int .i64 ((k : Int) - 15))) rfl (Or.inl ⟨by kernel_rfl, by intro w' hS; go_simp⟩) hH0 ?_
                   simp only [Act.put, qa]
                   refine tk 16 (v := ((.pointer (some ⟨gw, i15, none⟩)))) rfl (Or.inl ⟨by kernel_rfl, by intro w' hS; go_simp⟩) hH0 ?_
                   simp only [Act.put, qa]
                   refine tk 17 (v := (.int .u32 (x15.toNat : Int))) rfl (Or.inl ⟨by kernel_rfl, by intro w' hS; go_simp⟩) hH0 ?_
                   simp only [Act.put, qa]
                   refine tk 18 (v := (.int .u32 ((x15.toNat : Int) / 8))) rfl (Or.inl ⟨by kernel_rfl, by intro w' hS; go_simp⟩) hH0 ?_
                   simp only [Act.put, qa]
                   refine wpAnyH_ready (rs := [5]) (by kernel_rfl) (by simp) ?_
                   refine AllReadyH.cons rfl (fun K hK => ?_) AllReadyH.nil
                   go_simp
                   refine (HT1.out _).mono ?_
                   rintro _ _ ⟨rfl, rfl⟩
                   refine Shut.out hK _ _ hH0 (fun hH1 => ?_)
                   clear hK K
                   try simp only [Act.put, qa]
                   refine wpAnyH_ready (rs := [11]) (by kernel_rfl) (by simp) ?_
                   refine AllReadyH.cons rfl (fun K hK => ?_) AllReadyH.nil
                   go_simp
                   refine (HT2.out _).mono ?_
                   rintro _ _ ⟨rfl, rfl⟩
                   refine Shut.out hK _ _ hH1 (fun hH2 => ?_)
                   clear hK K
                   try simp only [Act.put, qa]
                   refine tk 12 (v := (.int .u32 (bits .xor .u32 ((rotr 7 x15).toNat : Int) ((rotr 18 x15).toNat : Int)))) rfl (Or.inl ⟨by kernel_rfl, by intro w' hS; go_simp⟩) hH2 ?_
                   simp only [Act.put, qa]
                   refine tk 19 (v := (.int .u32 (y0.toNat : Int))) rfl (Or.inl ⟨by kernel_rfl, by intro w' hS; go_simp⟩) hH2 ?_
                   simp only [Act.put, qa]
                   refine tk 20 (v := (.int .u32 (y0.toNat : Int))) rfl (Or.inl ⟨by kernel_rfl, by intro w' hS; go_simp⟩) hH2 ?_
                   simp only [Act.put, qa]
                   refine wpAnyH_done (by kernel_rfl) ?_ _
                   refine NoPanic.normal ?_
                   clear hS0 hH0 hH1 hH2
                   have hS0 : wr.drew.cell? ⟨gw, i2, none⟩ = some (.int .u32 (x2.toNat : Int)) := c2
                   go_upto_region 25 with (fail)
                   refine wp_region_noPanic ?_
                   refine wp_region_held_drew (S := (fun v => v.cell? ⟨gw, i2, none⟩ = some (.int .u32 (x2.toNat : Int)))) (by kernel_rfl) hS0 (fun hH0 => ?_)
                   refine tk 0 (v := ((.slice (some ⟨gw, 0, none⟩) k oc))) rfl (Or.inl ⟨by kernel_rfl, by intro w' hS; go_simp⟩) hH0 ?_
                   simp only [Act.put, qa]
                   refine tk 1 (v := (.int .i64 (k : Int))) rfl (Or.inl ⟨by kernel_rfl, by intro w' hS; go_simp⟩) hH0 ?_
                   simp only [Act.put, qa]
                   refine tk 2 (v := (.int .i64 ((k : Int) - 2))) rfl (Or.inl ⟨by kernel_rfl, by intro w' hS; go_simp⟩) hH0 ?_
                   simp only [Act.put, qa]
                   refine tk 3 (v := ((.pointer (some ⟨gw, i2, none⟩)))) rfl (Or.inl ⟨by kernel_rfl, by intro w' hS; go_simp⟩) hH0 ?_
                   simp only [Act.put, qa]
                   refine tk 4 (v := (.int .u32 (x2.toNat : Int))) rfl (Or.inl ⟨by kernel_rfl, by intro w' hS; go_simp⟩) hH0 ?_
                   simp only [Act.put, qa]
                   refine tk 6 (v := ((.slice (some ⟨gw, 0, none⟩) k oc))) rfl (Or.inl ⟨by kernel_rfl, by intro w' hS; go_simp⟩) hH0 ?_
                   simp only [Act.put, qa]
                   refine tk 7 (v := (.int .i64 (k : Int))) rfl (Or.inl ⟨by kernel_rfl, by intro w' hS; go_simp⟩) hH0 ?_
                   simp only [Act.put, qa]
                   refine tk 8 (v := (.int .i64 ((k : Int) - 2))) rfl (Or.inl ⟨by kernel_rfl, by intro w' hS; go_simp⟩) hH0 ?_
                   simp only [Act.put, qa]
                   refine tk 9 (v := ((.pointer (some ⟨gw, i2, none⟩)))) rfl (Or.inl ⟨by kernel_rfl, by intro w' hS; go_simp⟩) hH0 ?_
                   simp only [Act.put, qa]
                   refine tk 10 (v := (.int .u32 (x2.toNat : Int))) rfl (Or.inl ⟨by kernel_rfl, by intro w' hS; go_simp⟩) hH0 ?_
                   simp only [Act.put, qa]
                   refine tk 13 (v := ((.slice (some ⟨gw, 0, none⟩) k oc))) rfl (Or.inl ⟨by kernel_rfl, by intro w' hS; go_simp⟩) hH0 ?_
                   simp only [Act.put, qa]
                   refine tk 14 (v := (.int .i64 (k : Int))) rfl (Or.inl ⟨by kernel_rfl, by intro w' hS; go_simp⟩) hH0 ?_
                   simp only [Act.put, qa]
                   refine tk 15 (v := (.int .i64 ((k : Int) - 2))) rfl (Or.inl ⟨by kernel_rfl, by intro w' hS; go_simp⟩) hH0 ?_
                   simp only [Act.put, qa]
                   refine tk 16 (v := ((.pointer (some ⟨gw, i2, none⟩)))) rfl (Or.inl ⟨by kernel_rfl, by intro w' hS; go_simp⟩) hH0 ?_
                   simp only [Act.put, qa]
                   refine tk 17 (v := (.int .u32 (x2.toNat : Int))) rfl (Or.inl ⟨by kernel_rfl, by intro w' hS; go_simp⟩) hH0 ?_
                   simp only [Act.put, qa]
                   refine tk 18 (v := (.int .u32 ((x2.toNat : Int) / 1024))) rfl (Or.inl ⟨by kernel_rfl, by intro w' hS; go_simp⟩) hH0 ?_
                   simp only [Act.put, qa]
                   refine wpAnyH_ready (rs := [5]) (by kernel_rfl) (by simp) ?_
                   refine AllReadyH.cons rfl (fun K hK => ?_) AllReadyH.nil
                   go_simp
                   refine (HT3.out _).mono ?_
                   rintro _ _ ⟨rfl, rfl⟩
                   refine Shut.out hK _ _ hH0 (fun hH1 => ?_)
                   clear hK K
                   try simp only [Act.put, qa]
                   refine wpAnyH_ready (rs := [11]) (by kernel_rfl) (by simp) ?_
                   refine AllReadyH.cons rfl (fun K hK => ?_) AllReadyH.nil
                   go_simp
                   refine (HT4.out _).mono ?_
                   rintro _ _ ⟨rfl, rfl⟩
                   refine Shut.out hK _ _ hH1 (fun hH2 => ?_)
                   clear hK K
                   try simp only [Act.put, qa]
                   refine tk 12 (v := (.int .u32 (bits .xor .u32 ((rotr 17 x2).toNat : Int) ((rotr 19 x2).toNat : Int)))) rfl (Or.inl ⟨by kernel_rfl, by intro w' hS; go_simp⟩) hH2 ?_
                   simp only [Act.put, qa]
                   refine tk 19 (v := (.int .u32 (y1.toNat : Int))) rfl (Or.inl ⟨by kernel_rfl, by intro w' hS; go_simp⟩) hH2 ?_
                   simp only [Act.put, qa]
                   refine tk 20 (v := (.int .u32 (y1.toNat : Int))) rfl (Or.inl ⟨by kernel_rfl, by intro w' hS; go_simp⟩) hH2 ?_
                   simp only [Act.put, qa]
                   refine wpAnyH_done (by kernel_rfl) ?_ _
                   refine NoPanic.normal ?_
                   clear hS0 hH0 hH1 hH2 hl0 hl1 a15 a2 c15 c2 v15 v2
                   have d1 := HDD.out.1
                   have d2 := HDD.out.2.1
                   have d3 := HDD.out.2.2
                   have d16 : wr.drew.drew.cell? ⟨gw, i16, none⟩ = some (.int .u32 (x16.toNat : Int)) := c16
                   have d7 : wr.drew.drew.cell? ⟨gw, i7, none⟩ = some (.int .u32 (x7.toNat : Int)) := c7
                   have hownV : wr.drew.drew.ownsRow wJ.heap.size 32 1 (.slice (some ⟨gw, 0, none⟩) k oc) k (wcells (sched bs k)) := (HOWN.out.drew).drew
                   have hbelV : Below wJ.heap.size wJ wr.drew.drew := (HBEL.out.drew).drew
                   clear c16 c7 HOWN HBEL
                   generalize wr.drew.drew = wV at d16 d7 hownV hbelV ⊢
                   have hS0 := And.intro d16 d7
                   have hkV := Kept.of_below (S := fun _ => False) (show Below wV.heap.size wV ((wV.alloc (.cells #[.int .u32 (s3.toNat : Int)] 32)).drew) from ((Below.refl _ _).alloc (Nat.le_refl _) _).drew)
                   have hSb := And.intro (cell_held hkV d16 (fun h => h)) (cell_held hkV d7 (fun h => h))
                   have hown38 : ((wV.alloc (.cells #[.int .u32 (s3.toNat : Int)] 32)).drew).ownsRow wJ.heap.size 32 1 (.slice (some ⟨gw, 0, none⟩) k oc) k (wcells (sched bs k)) := (hownV.alloc _).drew
                   have HOWN38 := Lib.hid hown38
                   have HBE38 := Lib.hid (show Below wJ.heap.size wJ ((wV.alloc (.cells #[.int .u32 (s3.toNat : Int)] 32)).drew) from (hbelV.alloc hbelV.size _).drew)
                   have HLT38 := Lib.hid HBE38.out.size
                   clear hown38 hownV hbelV hkV d16 d7
                   go_upto_region 26 with (fail)
                   refine wp_region_noPanic ?_
                   refine wp_region_held_drew (S := (fun v => v.cell? ⟨gw, i16, none⟩ = some (.int .u32 (x16.toNat : Int)) ∧ v.cell? ⟨gw, i7, none⟩ = some (.int .u32 (x7.toNat : Int)))) (by kernel_rfl) hS0 (fun hH0 => ?_)
                   refine tk 0 (v := ((.slice (some ⟨gw, 0, none⟩) k oc))) rfl (Or.inl ⟨by kernel_rfl, by intro w' hS; obtain ⟨z0, z1⟩ := hS; go_simp⟩) hH0 ?_
                   simp only [Act.put, qa]
                   refine tk 1 (v := ((.slice (some ⟨gw, 0, none⟩) k oc))) rfl (Or.inl ⟨by kernel_rfl, by intro w' hS; obtain ⟨z0, z1⟩ := hS; go_simp⟩) hH0 ?_
                   simp only [Act.put, qa]
                   refine tk 2 (v := (.int .i64 (k : Int))) rfl (Or.inl ⟨by kernel_rfl, by intro w' hS; obtain ⟨z0, z1⟩ := hS; go_simp⟩) hH0 ?_
                   simp only [Act.put, qa]
                   refine tk 3 (v := (.int .i64 ((k : Int) - 16))) rfl (Or.inl ⟨by kernel_rfl, by intro w' hS; obtain ⟨z0, z1⟩ := hS; go_simp⟩) hH0 ?_
                   simp only [Act.put, qa]
                   refine tk 4 (v := ((.pointer (some ⟨gw, i16, none⟩)))) rfl (Or.inl ⟨by kernel_rfl, by intro w' hS; obtain ⟨z0, z1⟩ := hS; go_simp⟩) hH0 ?_
                   simp only [Act.put, qa]
                   refine tk 5 (v := (.int .u32 (x16.toNat : Int))) rfl (Or.inl ⟨by kernel_rfl, by intro w' hS; obtain ⟨z0, z1⟩ := hS; go_simp⟩) hH0 ?_
                   simp only [Act.put, qa]
                   refine tk 6 (v := (.int .u32 (y0.toNat : Int))) rfl (Or.inl ⟨by kernel_rfl, by intro w' hS; obtain ⟨z0, z1⟩ := hS; go_simp⟩) hH0 ?_
                   simp only [Act.put, qa]
                   refine tk 7 (v := (.int .u32 (s1.toNat : Int))) rfl (Or.inl ⟨by kernel_rfl, by intro w' hS; obtain ⟨z0, z1⟩ := hS; go_simp⟩) hH0 ?_
                   simp only [Act.put, qa]
                   refine tk 8 (v := ((.slice (some ⟨gw, 0, none⟩) k oc))) rfl (Or.inl ⟨by kernel_rfl, by intro w' hS; obtain ⟨z0, z1⟩ := hS; go_simp⟩) hH0 ?_
                   simp only [Act.put, qa]
                   refine tk 9 (v := (.int .i64 (k : Int))) rfl (Or.inl ⟨by kernel_rfl, by intro w' hS; obtain ⟨z0, z1⟩ := hS; go_simp⟩) hH0 ?_
                   simp only [Act.put, qa]
                   refine tk 10 (v := (.int .i64 ((k : Int) - 7))) rfl (Or.inl ⟨by kernel_rfl, by intro w' hS; obtain ⟨z0, z1⟩ := hS; go_simp⟩) hH0 ?_
                   simp only [Act.put, qa]
                   refine tk 11 (v := ((.pointer (some ⟨gw, i7, none⟩)))) rfl (Or.inl ⟨by kernel_rfl, by intro w' hS; obtain ⟨z0, z1⟩ := hS; go_simp⟩) hH0 ?_
                   simp only [Act.put, qa]
                   refine tk 12 (v := (.int .u32 (x7.toNat : Int))) rfl (Or.inl ⟨by kernel_rfl, by intro w' hS; obtain ⟨z0, z1⟩ := hS; go_simp⟩) hH0 ?_
                   simp only [Act.put, qa]
                   refine tk 13 (v := (.int .u32 (s2.toNat : Int))) rfl (Or.inl ⟨by kernel_rfl, by intro w' hS; obtain ⟨z0, z1⟩ := hS; go_simp⟩) hH0 ?_
                   simp only [Act.put, qa]
                   refine tk 14 (v := (.int .u32 (y1.toNat : Int))) rfl (Or.inl ⟨by kernel_rfl, by intro w' hS; obtain ⟨z0, z1⟩ := hS; go_simp⟩) hH0 ?_
                   simp only [Act.put, qa]
                   refine tk 15 (v := (.int .u32 (s3.toNat : Int))) rfl (Or.inl ⟨by kernel_rfl, by intro w' hS; obtain ⟨z0, z1⟩ := hS; go_simp⟩) hH0 ?_
                   simp only [Act.put, qa]
                   refine wpAnyH_ready (rs := [16]) (by kernel_rfl) (by simp) ?_
                   refine AllReadyH.cons rfl (fun K hK => ?_) AllReadyH.nil
                   go_simp
                   refine Shut.out hK _ _ hSb (fun hH1 => ?_)
                   clear hK K
                   try simp only [Act.put, qa]
                   refine wpAnyH_ready (rs := [17]) (by kernel_rfl) (by simp) ?_
                   refine AllReadyH.cons rfl (fun K hK => ?_) AllReadyH.nil
                   refine step_append_stays (by rfl) _ _ 128 (by rfl) wJ.heap.size 32 iu (.int .u32 0) 1 4 Tryd.underlying128 hiu hiu0 hiu1 hiu2 rfl (by decide) (.slice (some ⟨gw, 0, none⟩) k oc) k (wcells (sched bs k)) (by rfl) HOWN38.out ⟨wV.heap.size, 0, none⟩ 1 1 [.int .u32 (s3.toNat : Int)] (by rfl) (by rfl) (World.news_of_block (w := (wV.alloc (.cells #[.int .u32 (s3.toNat : Int)] 32)).drew) (cs := #[.int .u32 (s3.toNat : Int)]) (t := 32) (fr := (0, 0)) (heap_alloc_new wV _)) (by intro v hv; rw [List.mem_singleton] at hv; rw [hv]; rfl) (by decide) HML.out HBY4.out HLT38.out _ rfl ?_
                   intro g6 cap6 w6 hown6 hgr6 hat6 hlt6 hst6
                   have hbe6 : Below wJ.heap.size wJ w6 := HBE38.out.grown hgr6 HLT38.out (own_blk HOWN38.out)
                   have hS6 := And.intro (hst6 gw rfl i16 _ HG26.out.1) (hst6 gw rfl i7 _ HG26.out.2)
                   clear hgr6 hat6 hlt6 hst6
                   refine Shut.out hK _ _ hS6 (fun hH2 => ?_)
                   clear hK K
                   try simp only [Act.put, qa]
                   refine tk 18 (v := ((.slice (some ⟨g6, 0, none⟩) (k + 1) cap6))) rfl (Or.inl ⟨by kernel_rfl, by intro w' hS; obtain ⟨z0, z1⟩ := hS; go_simp⟩) hH2 ?_
                   simp only [Act.put, qa]
                   refine wpAnyH_done (by kernel_rfl) ?_ _
                   refine NoPanic.normal ?_
                   have HOWN6 := Lib.hid (show w6.ownsRow wJ.heap.size 32 1 (.slice (some ⟨g6, 0, none⟩) (k + 1) cap6) (k + 1) (wcells (sched bs (k + 1))) by rw [HSCH.out, wcells_snoc]; exact hown6)
                   have HBE6 := Lib.hid hbe6
                   clear hown6 hbe6 hS0 hSb hS6 hH0 hH1 hH2 d1 d2 d3 v16 v7 a16 a7
                   go_wp2
                   go_roundw
                   case rel => exact ⟨k + 1, some ⟨g6, 0, none⟩, cap6, by first | exact congrArg (Value.int .i64) HWK.out | rfl, rfl, HK2.out.1, HK2.out.2.1, HOWN6.out, HBE6.out⟩
                   case measure =>
                     first | exact HK2.out.2.2 | (show 64 - (intOf (Value.int .i64 (wrap64 ((k : Int) + 1)))).toNat < _; rw [HWK.out]; exact HK2.out.2.2)
               · have ek : k = 64 := by omega
                 subst ek
                 obtain ⟨gw, cap, cur, ew, hB, hh, z1, z2, z3, z4⟩ := own_open HOWN.out (by decide)
                 injection ew with ew1 ew2 ew3
                 subst ew1
                 obtain ⟨WS, hWS⟩ : ∃ x, x = sched bs 64 := ⟨_, rfl⟩
                 have hwl : WS.length = 64 := by rw [hWS, sched_length]
                 obtain ⟨ST, hST⟩ : ∃ x, x = eat K j s0 P := ⟨_, rfl⟩
                 have hstl : ST.length = 8 := by rw [hST]; exact eat_length K s0 HL.out.2 j P
                 have hst := HST.out.below HBEL.out HST.out.lt
                 rw [← hST] at hst
                 have cellG : ∀ i, i < 8 → wr.cell? ⟨S0, i, none⟩ = some (.int .u32 ((ST.getD i 0).toNat : Int)) := fun i hi => hst.cell_is (by rw [List.getElem?_toArray]; exact wcells_get _ _ (by omega))
                 have g0 := cellG 0 (by decide)
                 have g1 := cellG 1 (by decide)
                 have g2 := cellG 2 (by decide)
                 have g3 := cellG 3 (by decide)
                 have g4 := cellG 4 (by decide)
                 have g5 := cellG 5 (by decide)
                 have g6 := cellG 6 (by decide)
                 have g7 := cellG 7 (by decide)
                 obtain ⟨x0, e0⟩ : ∃ x, x = ST.getD 0 0 := ⟨_, rfl⟩
                 obtain ⟨x1, e1⟩ : ∃ x, x = ST.getD 1 0 := ⟨_, rfl⟩
                 obtain ⟨x2, e2⟩ : ∃ x, x = ST.getD 2 0 := ⟨_, rfl⟩
                 obtain ⟨x3, e3⟩ : ∃ x, x = ST.getD 3 0 := ⟨_, rfl⟩
                 obtain ⟨x4, e4⟩ : ∃ x, x = ST.getD 4 0 := ⟨_, rfl⟩
                 obtain ⟨x5, e5⟩ : ∃ x, x = ST.getD 5 0 := ⟨_, rfl⟩
                 obtain ⟨x6, e6⟩ : ∃ x, x = ST.getD 6 0 := ⟨_, rfl⟩
                 obtain ⟨x7, e7⟩ : ∃ x, x = ST.getD 7 0 := ⟨_, rfl⟩
                 have HST0 : Hid (rnds K WS (St.of ST) 0 = ⟨x0, x1, x2, x3, x4, x5, x6, x7⟩) := Lib.hid (by show St.of ST = _; unfold St.of; rw [← e0, ← e1, ← e2, ← e3, ← e4, ← e5, ← e6, ← e7])
                 rw [← e0] at g0
                 rw [← e1] at g1
                 rw [← e2] at g2
                 rw [← e3] at g3
                 rw [← e4] at g4
                 rw [← e5] at g5
                 rw [← e6] at g6
                 rw [← e7] at g7
                 have hcw : ∀ v, Below wr.heap.size wr v → ∀ i, i < 64 → v.cell? ⟨gw, i, none⟩ = some (.int .u32 ((WS.getD i 0).toNat : Int)) := fun v hv i hi => by
                   refine (hh.below hv hh.lt).cell_is ?_
                   rw [z4 i (by omega), ← hWS]
                   exact wcells_get _ i (by omega)
                 have hck : ∀ v, Below wr.heap.size wr v → ∀ i, i < 64 → v.cell? ⟨S1, i, none⟩ = some (.int .u32 ((K.getD i 0).toNat : Int)) := fun v hv i hi => by
                   have h1 := ((HS1.out.kept HKP.out (by have := EB.out; omega)).below HBEL.out (HS1.out.kept HKP.out (by have := EB.out; omega)).lt)
                   refine (h1.below hv h1.lt).cell_is ?_
                   rw [ECK.out, List.getElem?_toArray]
                   exact wcells_get _ i (by rw [HL.out.1]; exact hi)
                 have HCW := Lib.hid hcw
                 have HCK := Lib.hid hck
                 have HSTA := Lib.hid (And.intro hst hstl)
                 have EWS := Lib.hid hWS
                 have EST := Lib.hid hST
                 have HBE64 := Lib.hid HBEL.out
                 obtain ⟨wL, hwL⟩ : ∃ y, y = wr := ⟨_, rfl⟩
                 subst hwL
                 clear cellG hst hcw hck hWS hST hwl hstl hB hh z1 z2 z3 z4 ew2 ew3 e0 e1 e2 e3 e4 e5 e6 e7 HOWN HBEL hk64 hk hk0
                 go_upto_region 27 with (fail)
                 go_quiet (fail)
                 clear g0 g1 g2 g3 g4 g5 g6 g7
                 go_wp2_with fail
                 go_loopw [25, 17, 18, 19, 20, 21, 22, 23, 24] (fun i a b c d e f g' h wy => ∃ k : Nat, k ≤ 64 ∧ i = .int .i64 (k : Int) ∧
                   a = .int .u32 ((rnds K WS (St.of ST) k).a.toNat : Int) ∧ b = .int .u32 ((rnds K WS (St.of ST) k).b.toNat : Int) ∧ c = .int .u32 ((rnds K WS (St.of ST) k).c.toNat : Int) ∧ d = .int .u32 ((rnds K WS (St.of ST) k).d.toNat : Int) ∧
                   e = .int .u32 ((rnds K WS (St.of ST) k).e.toNat : Int) ∧ f = .int .u32 ((rnds K WS (St.of ST) k).f.toNat : Int) ∧ g' = .int .u32 ((rnds K WS (St.of ST) k).g.toNat : Int) ∧ h = .int .u32 ((rnds K WS (St.of ST) k).h.toNat : Int) ∧
                   Below wL.heap.size wL wy) (fun i _ _ _ _ _ _ _ _ _ => 64 - (intOf i).toNat)
                 case atStart => exact ⟨0, by omega, rfl, by rw [HST0.out], by rw [HST0.out], by rw [HST0.out], by rw [HST0.out], by rw [HST0.out], by rw [HST0.out], by rw [HST0.out], by rw [HST0.out], below_drewN (Below.refl _ _) _⟩
                 case round =>
                   obtain ⟨k, hk, rfl, rfl, rfl, rfl, rfl, rfl, rfl, rfl, rfl, hbel⟩ := hrel
                   have HBEL := Lib.hid hbel
                   clear hbel
                   by_cases hlt : k < 64
                   · have ck := HCK.out wr HBEL.out k hlt
                     have cw := HCW.out wr HBEL.out k hlt
                     have hnx : rnds K WS (St.of ST) (k + 1) = rnd (rnds K WS (St.of ST) k) (K.getD k 0) (WS.getD k 0) := rfl
                     obtain ⟨kk, hkk⟩ : ∃ x, x = K.getD k 0 := ⟨_, rfl⟩
                     obtain ⟨ww, hww⟩ : ∃ x, x = WS.getD k 0 := ⟨_, rfl⟩
                     rw [← hkk, ← hww] at hnx
                     rw [← hkk] at ck
                     rw [← hww] at cw
                     clear hkk hww
                     generalize rnds K WS (St.of ST) k = SS at hnx ⊢
                     obtain ⟨a1, b1, c1, d1, e1, f1, g1, h1⟩ := SS
                     obtain ⟨n1, hn1⟩ : ∃ x, x = ~~~e1 := ⟨_, rfl⟩
                     obtain ⟨p1, hp1⟩ : ∃ x, x = e1 &&& f1 := ⟨_, rfl⟩
                     obtain ⟨p2, hp2⟩ : ∃ x, x = n1 &&& g1 := ⟨_, rfl⟩
                     obtain ⟨ch, hch⟩ : ∃ x, x = p1 ^^^ p2 := ⟨_, rfl⟩
                     obtain ⟨bg, hbg⟩ : ∃ x, x = big1 e1 := ⟨_, rfl⟩
                     obtain ⟨u1, hu1⟩ : ∃ x, x = h1 + bg := ⟨_, rfl⟩
                     obtain ⟨u2, hu2⟩ : ∃ x, x = u1 + ch := ⟨_, rfl⟩
                     obtain ⟨u3, hu3⟩ : ∃ x, x = u2 + kk := ⟨_, rfl⟩
                     obtain ⟨u4, hu4⟩ : ∃ x, x = u3 + ww := ⟨_, rfl⟩
                     obtain ⟨b0, hb0⟩ : ∃ x, x = big0 a1 := ⟨_, rfl⟩
                     obtain ⟨mj, hmj⟩ : ∃ x, x = maj a1 b1 c1 := ⟨_, rfl⟩
                     obtain ⟨yu, hyu⟩ : ∃ x, x = b0 + mj := ⟨_, rfl⟩
                     obtain ⟨dt, hdt⟩ : ∃ x, x = d1 + u4 := ⟨_, rfl⟩
                     obtain ⟨tu, htu⟩ : ∃ x, x = u4 + yu := ⟨_, rfl⟩
                     have hnx2 : rnds K WS (St.of ST) (k + 1) = ⟨tu, a1, b1, c1, dt, e1, f1, g1⟩ := by
                       rw [hnx]
                       unfold rnd tee you cho
                       simp only
                       rw [htu, hdt, hyu, hu4, hu3, hu2, hu1, hch, hp2, hp1, hn1, hbg, hb0, hmj]
                     have HNX := Lib.hid hnx2
                     have q1 : IntKind.u32.wrap (4294967295 - (e1.toNat : Int)) = (n1.toNat : Int) := by rw [not_wd, hn1, wrap_wd]
                     have q2 := and_wd e1 f1
                     have q3 := and_wd n1 g1
                     have q4 := xor_wd p1 p2
                     have q5 := big1_num e1
                     have q6 := wadd_wd h1 bg
                     have q7 := wadd_wd u1 ch
                     have q8 := wadd_wd u2 kk
                     have q9 := wadd_wd u3 ww
                     rw [← hp1] at q2
                     rw [← hp2] at q3
                     rw [← hch] at q4
                     rw [← hbg] at q5
                     rw [← hu1] at q6
                     rw [← hu2] at q7
                     rw [← hu3] at q8
                     rw [← hu4] at q9
                     have r1 := big0_num a1
                     have r2 := maj_num a1 b1 c1
                     have r3 := wadd_wd b0 mj
                     have r4 := wadd_wd d1 u4
                     have r5 := wadd_wd u4 yu
                     have r6 := add_wd b0 mj
                     have r7 := add_wd d1 u4
                     have r8 := add_wd u4 yu
                     rw [← hb0] at r1
                     rw [← hmj] at r2
                     rw [← hyu] at r3 r6
                     rw [← hdt] at r4 r7
                     rw [← htu] at r5 r8
                     have HR := Lib.hid (And.intro r1 (And.intro r2 (And.intro r3 (And.intro r4 (And.intro r5 (And.intro r6 (And.intro r7 r8)))))))
                     have T1 := Lib.hid (turn_all e1 6 (by decide) (by decide) 6 rfl)
                     have T2 := Lib.hid (turn_all e1 11 (by decide) (by decide) 11 rfl)
                     have T3 := Lib.hid (turn_all e1 25 (by decide) (by decide) 25 rfl)
                     have T4 := Lib.hid (turn_all a1 2 (by decide) (by decide) 2 rfl)
                     have T5 := Lib.hid (turn_all a1 13 (by decide) (by decide) 13 rfl)
                     have T6 := Lib.hid (turn_all a1 22 (by decide) (by decide) 22 rfl)
                     have aw := at_word gw 64 oc k hlt
                     have hlt' : (k : Int) < 64 := by omega
                     have HK2 := Lib.hid (show k + 1 ≤ 64 ∧ 64 - (k + 1) < 64 - k by omega)
                     have hkb : k < 4611686018427387904 := Nat.lt_trans hlt (by decide)
                     have HWK := Lib.hid (wrap64_succ k hkb)
                     have hS0 : wr.cell? ⟨S1, k, none⟩ = some (.int .u32 (kk.toNat : Int)) ∧ wr.cell? ⟨gw, k, none⟩ = some (.int .u32 (ww.toNat : Int)) := ⟨ck, cw⟩
                     clear hn1 hp1 hp2 hch hbg hu1 hu2 hu3 hu4 hb0 hmj hyu hdt htu hnx hnx2 r1 r2 r3 r4 r5 r6 r7 r8 hkb hk
                     as_aux_lemma =>
                       go_upto_region 31 with (fail)
                       refine wp_region_noPanic ?_
                       refine wp_region_held_drew (S := (fun v => v.cell? ⟨S1, k, none⟩ = some (.int .u32 (kk.toNat : Int)) ∧ v.cell? ⟨gw, k, none⟩ = some (.int .u32 (ww.toNat : Int)))) (by kernel_rfl) hS0 (fun hH0 => ?_)
                       refine tk 0 (v := (.int .u32 (h1.toNat : Int))) rfl (Or.inl ⟨by kernel_rfl, by intro w' hS; obtain ⟨z0, z1⟩ := hS; go_simp⟩) hH0 ?_
                       simp only [Act.put, qa]
                       refine tk 1 (v := (.int .u32 (e1.toNat : Int))) rfl (Or.inl ⟨by kernel_rfl, by intro w' hS; obtain ⟨z0, z1⟩ := hS; go_simp⟩) hH0 ?_
                       simp only [Act.put, qa]
                       refine tk 3 (v := (.int .u32 (e1.toNat : Int))) rfl (Or.inl ⟨by kernel_rfl, by intro w' hS; obtain ⟨z0, z1⟩ := hS; go_simp⟩) hH0 ?_
                       simp only [Act.put, qa]
                       refine tk 6 (v := (.int .u32 (e1.toNat : Int))) rfl (Or.inl ⟨by kernel_rfl, by intro w' hS; obtain ⟨z0, z1⟩ := hS; go_simp⟩) hH0 ?_
                       simp only [Act.put, qa]
                       refine tk 10 (v := (.int .u32 (e1.toNat : Int))) rfl (Or.inl ⟨by kernel_rfl, by intro w' hS; obtain ⟨z0, z1⟩ := hS; go_simp⟩) hH0 ?_
                       simp only [Act.put, qa]
                       refine tk 11 (v := (.int .u32 (f1.toNat : Int))) rfl (Or.inl ⟨by kernel_rfl, by intro w' hS; obtain ⟨z0, z1⟩ := hS; go_simp⟩) hH0 ?_
                       simp only [Act.put, qa]
                       refine tk 12 (v := (.int .u32 (p1.toNat : Int))) rfl (Or.inl ⟨by kernel_rfl, by intro w' hS; obtain ⟨z0, z1⟩ := hS; go_simp⟩) hH0 ?_
                       simp only [Act.put, qa]
                       refine tk 13 (v := (.int .u32 (e1.toNat : Int))) rfl (Or.inl ⟨by kernel_rfl, by intro w' hS; obtain ⟨z0, z1⟩ := hS; go_simp⟩) hH0 ?_
                       simp only [Act.put, qa]
                       refine tk 14 (v := (.int .u32 (n1.toNat : Int))) rfl (Or.inl ⟨by kernel_rfl, by intro w' hS; obtain ⟨z0, z1⟩ := hS; go_simp⟩) hH0 ?_
                       simp only [Act.put, qa]
                       refine tk 15 (v := (.int .u32 (g1.toNat : Int))) rfl (Or.inl ⟨by kernel_rfl, by intro w' hS; obtain ⟨z0, z1⟩ := hS; go_simp⟩) hH0 ?_
                       simp only [Act.put, qa]
                       refine tk 16 (v := (.int .u32 (p2.toNat : Int))) rfl (Or.inl ⟨by kernel_rfl, by intro w' hS; obtain ⟨z0, z1⟩ := hS; go_simp⟩) hH0 ?_
                       simp only [Act.put, qa]
                       refine tk 17 (v := (.int .u32 (ch.toNat : Int))) rfl (Or.inl ⟨by kernel_rfl, by intro w' hS; obtain ⟨z0, z1⟩ := hS; go_simp⟩) hH0 ?_
                       simp only [Act.put, qa]
                       refine tk 19 (v := (.int .i64 (k : Int))) rfl (Or.inl ⟨by kernel_rfl, by intro w' hS; obtain ⟨z0, z1⟩ := hS; go_simp⟩) hH0 ?_
                       simp only [Act.put, qa]
                       refine tk 20 (v := ((.pointer (some ⟨S1, k, none⟩)))) rfl (Or.inl ⟨by kernel_rfl, by intro w' hS; obtain ⟨z0, z1⟩ := hS; go_simp⟩) hH0 ?_
                       simp only [Act.put, qa]
                       refine tk 21 (v := (.int .u32 (kk.toNat : Int))) rfl (Or.inl ⟨by kernel_rfl, by intro w' hS; obtain ⟨z0, z1⟩ := hS; go_simp⟩) hH0 ?_
                       simp only [Act.put, qa]
                       refine tk 23 (v := ((.slice (some ⟨gw, 0, none⟩) 64 oc))) rfl (Or.inl ⟨by kernel_rfl, by intro w' hS; obtain ⟨z0, z1⟩ := hS; go_simp⟩) hH0 ?_
                       simp only [Act.put, qa]
                       refine tk 24 (v := (.int .i64 (k : Int))) rfl (Or.inl ⟨by kernel_rfl, by intro w' hS; obtain ⟨z0, z1⟩ := hS; go_simp⟩) hH0 ?_
                       simp only [Act.put, qa]
                       refine tk 25 (v := ((.pointer (some ⟨gw, k, none⟩)))) rfl (Or.inl ⟨by kernel_rfl, by intro w' hS; obtain ⟨z0, z1⟩ := hS; go_simp⟩) hH0 ?_
                       simp only [Act.put, qa]
                       refine tk 26 (v := (.int .u32 (ww.toNat : Int))) rfl (Or.inl ⟨by kernel_rfl, by intro w' hS; obtain ⟨z0, z1⟩ := hS; go_simp⟩) hH0 ?_
                       simp only [Act.put, qa]
                       refine wpAnyH_ready (rs := [2]) (by kernel_rfl) (by simp) ?_
                       refine AllReadyH.cons rfl (fun K hK => ?_) AllReadyH.nil
                       go_simp
                       refine (T1.out _).mono ?_
                       rintro _ _ ⟨rfl, rfl⟩
                       refine Shut.out hK _ _ hH0 (fun hH1 => ?_)
                       clear hK K
                       try simp only [Act.put, qa]
                       refine wpAnyH_ready (rs := [4]) (by kernel_rfl) (by simp) ?_
                       refine AllReadyH.cons rfl (fun K hK => ?_) AllReadyH.nil
                       go_simp
                       refine (T2.out _).mono ?_
                       rintro _ _ ⟨rfl, rfl⟩
                       refine Shut.out hK _ _ hH1 (fun hH2 => ?_)
                       clear hK K
                       try simp only [Act.put, qa]
                       refine tk 5 (v := (.int .u32 (bits .xor .u32 ((rotr 6 e1).toNat : Int) ((rotr 11 e1).toNat : Int)))) rfl (Or.inl ⟨by kernel_rfl, by intro w' hS; obtain ⟨z0, z1⟩ := hS; go_simp⟩) hH2 ?_
                       simp only [Act.put, qa]
                       refine wpAnyH_ready (rs := [7]) (by kernel_rfl) (by simp) ?_
                       refine AllReadyH.cons rfl (fun K hK => ?_) AllReadyH.nil
                       go_simp
                       refine (T3.out _).mono ?_
                       rintro _ _ ⟨rfl, rfl⟩
                       refine Shut.out hK _ _ hH2 (fun hH3 => ?_)
                       clear hK K
                       try simp only [Act.put, qa]
                       refine tk 8 (v := (.int .u32 (bg.toNat : Int))) rfl (Or.inl ⟨by kernel_rfl, by intro w' hS; obtain ⟨z0, z1⟩ := hS; go_simp⟩) hH3 ?_
                       simp only [Act.put, qa]
                       refine tk 9 (v := (.int .u32 (u1.toNat : Int))) rfl (Or.inl ⟨by kernel_rfl, by intro w' hS; obtain ⟨z0, z1⟩ := hS; go_simp⟩) hH3 ?_
                       simp only [Act.put, qa]
                       refine tk 18 (v := (.int .u32 (u2.toNat : Int))) rfl (Or.inl ⟨by kernel_rfl, by intro w' hS; obtain ⟨z0, z1⟩ := hS; go_simp⟩) hH3 ?_
                       simp only [Act.put, qa]
                       refine tk 22 (v := (.int .u32 (u3.toNat : Int))) rfl (Or.inl ⟨by kernel_rfl, by intro w' hS; obtain ⟨z0, z1⟩ := hS; go_simp⟩) hH3 ?_
                       simp only [Act.put, qa]
                       refine tk 27 (v := (.int .u32 (u4.toNat : Int))) rfl (Or.inl ⟨by kernel_rfl, by intro w' hS; obtain ⟨z0, z1⟩ := hS; go_simp⟩) hH3 ?_
                       simp only [Act.put, qa]
                       refine tk 28 (v := (.int .u32 (u4.toNat : Int))) rfl (Or.inl ⟨by kernel_rfl, by intro w' hS; obtain ⟨z0, z1⟩ := hS; go_simp⟩) hH3 ?_
                       simp only [Act.put, qa]
                       refine wpAnyH_done (by kernel_rfl) ?_ _
                       refine NoPanic.normal ?_
                       have HBF := Lib.hid (show Below wL.heap.size wL wr.drew from HBEL.out.drew)
                       clear hS0 hH0 hH1 hH2 hH3 q1 q2 q3 q4 q5 q6 q7 q8 q9 aw ck cw
                       obtain ⟨r1, r2, r3, r4, r5, r6, r7, r8⟩ := HR.out
                       go_wp2_with fail
                       refine (T4.out _).mono ?_
                       rintro _ _ ⟨rfl, rfl⟩
                       go_wp2_with fail
                       refine (T5.out _).mono ?_
                       rintro _ _ ⟨rfl, rfl⟩
                       go_wp2_with fail
                       refine (T6.out _).mono ?_
                       rintro _ _ ⟨rfl, rfl⟩
                       go_wp2
                       go_roundw
                       case rel =>
                         have hfin : ∃ k' : Nat, k' ≤ 64 ∧ Value.int .i64 ((k + 1 : Nat) : Int) = .int .i64 (k' : Int) ∧ Value.int .u32 (tu.toNat : Int) = .int .u32 ((rnds K WS (St.of ST) k').a.toNat : Int) ∧ Value.int .u32 (a1.toNat : Int) = .int .u32 ((rnds K WS (St.of ST) k').b.toNat : Int) ∧ Value.int .u32 (b1.toNat : Int) = .int .u32 ((rnds K WS (St.of ST) k').c.toNat : Int) ∧ Value.int .u32 (c1.toNat : Int) = .int .u32 ((rnds K WS (St.of ST) k').d.toNat : Int) ∧ Value.int .u32 (dt.toNat : Int) = .int .u32 ((rnds K WS (St.of ST) k').e.toNat : Int) ∧ Value.int .u32 (e1.toNat : Int) = .int .u32 ((rnds K WS (St.of ST) k').f.toNat : Int) ∧ Value.int .u32 (f1.toNat : Int) = .int .u32 ((rnds K WS (St.of ST) k').g.toNat : Int) ∧ Value.int .u32 (g1.toNat : Int) = .int .u32 ((rnds K WS (St.of ST) k').h.toNat : Int) ∧ Below wL.heap.size wL wr.drew := by
                          refine ⟨k + 1, HK2.out.1, rfl, ?_⟩
                          rw [HNX.out]
                          exact ⟨rfl, rfl, rfl, rfl, rfl, rfl, rfl, rfl, HBF.out⟩
                         have hfin2 := hfin
                         rw [← HWK.out] at hfin2
                         first | exact hfin | exact hfin2 | ((repeat apply Exists.intro); exact ⟨hfin, rfl⟩) | ((repeat apply Exists.intro); exact ⟨hfin2, rfl⟩)
                       case measure =>
                         first | exact HK2.out.2 | (show 64 - (intOf (Value.int .i64 (wrap64 ((k : Int) + 1)))).toNat < _; rw [HWK.out]; exact HK2.out.2)
                   · have ek : k = 64 := by omega
                     have hmix : eat K (j + 1) s0 P = addTo ST (rnds K WS (St.of ST) k).list 8 := by
                       rw [eat_succ, ← EST.out, ← EBS.out]
                       unfold mixF
                       rw [← EWS.out, ek]
                     have hklt' : ¬ (k : Int) < 64 := by omega
                     generalize rnds K WS (St.of ST) k = SS at hmix ⊢
                     obtain ⟨a1, b1, c1, d1, e1, f1, g1, h1⟩ := SS
                     obtain ⟨L, hL⟩ : ∃ L, L = St.list ⟨a1, b1, c1, d1, e1, f1, g1, h1⟩ := ⟨_, rfl⟩
                     rw [← hL] at hmix
                     obtain ⟨X, hX⟩ : ∃ X : Array Value, X = #[Value.int .u32 (a1.toNat : Int), .int .u32 (b1.toNat : Int), .int .u32 (c1.toNat : Int), .int .u32 (d1.toNat : Int), .int .u32 (e1.toNat : Int), .int .u32 (f1.toNat : Int), .int .u32 (g1.toNat : Int), .int .u32 (h1.toNat : Int)] := ⟨_, rfl⟩
                     have hix : ∀ i, i < 8 → X[i]? = some (.int .u32 ((L.getD i 0).toNat : Int)) := fun i hi => by
                       have : i = 0 ∨ i = 1 ∨ i = 2 ∨ i = 3 ∨ i = 4 ∨ i = 5 ∨ i = 6 ∨ i = 7 := by omega
                       rw [hX, hL]
                       rcases this with rfl | rfl | rfl | rfl | rfl | rfl | rfl | rfl <;> rfl
                     have hbe8 : Below wL.heap.size wL (wr.alloc (.cells X 32)) := HBEL.out.alloc HBEL.out.size _
                     have h8 := Has.new wr 32 X
                     have hs08 := HSTA.out.1.below hbe8 HSTA.out.1.lt
                     have HIX := Lib.hid hix
                     have HMIX := Lib.hid hmix
                     have HBE8 := Lib.hid hbe8
                     have H8 := Lib.hid h8
                     have HS08 := Lib.hid hs08
                     have HNE := Lib.hid (show wr.heap.size ≠ S0 by have := HSTA.out.1.lt; have := HBEL.out.size; omega)
                     have EXX := Lib.hid hX
                     clear hix hmix hbe8 h8 hs08 hX hL hk hlt HBEL
                     go_wp2_with fail
                     rw [← EXX.out]
                     generalize wr.alloc (.cells X 32) = W8 at HBE8 H8 HS08 ⊢
                     generalize wr.heap.size = B8 at H8 HNE ⊢
                     go_loopw [270] (fun v wy => ∃ i : Nat, v = .int .i64 (i : Int) ∧ i ≤ 8 ∧ Has wy S0 33 (wcells (addTo ST L i)).toArray ∧ Kept (· = S0) W8 wy) (fun v _ => 8 - (intOf v).toNat)
                     case atStart => exact ⟨0, rfl, Nat.zero_le _, by rw [addTo_zero _ _ HSTA.out.2]; exact HS08.out, Kept.refl _ _⟩
                     case round =>
                       clear HS08
                       obtain ⟨i, rfl, hi, hs, hkp⟩ := hrel
                       have HS := Lib.hid hs
                       have HKP8 := Lib.hid hkp
                       clear hs hkp
                       by_cases hi8 : i < 8
                       · have cx : wr.cell? ⟨B8, i, none⟩ = some (.int .u32 ((L.getD i 0).toNat : Int)) := (H8.out.kept HKP8.out HNE.out).cell_is (HIX.out i hi8)
                         have cg : wr.cell? ⟨S0, i, none⟩ = some (.int .u32 ((ST.getD i 0).toNat : Int)) := HS.out.cell_is (by
                          rw [List.getElem?_toArray, wcells_get _ _ (by rw [addTo_length]; omega)]
                          simp [addTo, hi8])
                         have hf : wr.frozen? ⟨S0, i, none⟩ = false := HS.out.free i
                         have hset : Has (wr.setCell ⟨S0, i, none⟩ (.int .u32 ((ST.getD i 0 + L.getD i 0).toNat : Int))) S0 33 (wcells (addTo ST L (i + 1))).toArray := by
                          have h := HS.out.set i (.int .u32 ((ST.getD i 0 + L.getD i 0).toNat : Int))
                          rw [List.setIfInBounds_toArray, wcells_set, addTo_set ST L i hi8] at h
                          exact h
                         obtain ⟨xs, hxs⟩ : ∃ x, x = ST.getD i 0 := ⟨_, rfl⟩
                         obtain ⟨xl, hxl⟩ : ∃ x, x = L.getD i 0 := ⟨_, rfl⟩
                         obtain ⟨xo, hxo⟩ : ∃ x, x = ST.getD i 0 + L.getD i 0 := ⟨_, rfl⟩
                         have hadd := add_wd xs xl
                         rw [hxs, hxl, ← hxo, ← hxs, ← hxl] at hadd
                         rw [← hxo] at hset
                         rw [← hxs] at cg
                         rw [← hxl] at cx
                         have hat := at_word B8 8 8 i hi8
                         have hi8' : (i : Int) < 8 := by omega
                         have HK2 := Lib.hid (show i + 1 ≤ 8 ∧ 8 - (i + 1) < 8 - i by omega)
                         have HSET := Lib.hid hset
                         have HKS := Lib.hid (HKP8.out.set (p := ⟨S0, i, none⟩) (.inl rfl) (.int .u32 (xo.toNat : Int)))
                         have hib : i < 4611686018427387904 := Nat.lt_trans hi8 (by decide)
                         have HWI := Lib.hid (wrap64_succ i hib)
                         clear hxs hxl hxo hset hib hi8 hi
                         go_wp2
                         go_roundw
                         case rel => exact ⟨i + 1, by first | exact congrArg (Value.int .i64) HWI.out | rfl, HK2.out.1, HSET.out, HKS.out⟩
                         case measure =>
                          first | exact HK2.out.2 | (show 8 - (intOf (Value.int .i64 (wrap64 ((i : Int) + 1)))).toNat < _; rw [HWI.out]; exact HK2.out.2)
                       · have ei : i = 8 := by omega
                         have hin : ¬ (i : Int) < 8 := by omega
                         have HFIN := Lib.hid (show Has wr S0 33 (wcells (eat K (j + 1) s0 P)).toArray ∧ Kept (· = S0) wP wr by
                          refine ⟨by rw [HMIX.out, ← ei]; exact HS.out, ?_⟩
                          exact (((HKP.out.trans (Kept.of_below HBE64.out)).trans (Kept.of_below HBE8.out)).trans HKP8.out))
                         have HJJ := Lib.hid (show 64 * (j + 1) = p0 + 64 ∧ j + 1 ≤ Q ∧ N - (p0 + 64) < N - p0 by have := HNQ.out; have := EP0.out; have := HJQ.out; omega)
                         have hpb : p0 < 4611686018427387800 := by have := HNQ.out; have := EP0.out; have := HJQ.out; omega
                         have HWP := Lib.hid (wrap64_64 p0 hpb)
                         clear ei hi8 hi hpb
                         go_wp2
                         go_roundw
                         case rel => exact ⟨j + 1, by rw [HJJ.out.1]; first | exact congrArg (Value.int .i64) HWP.out | rfl, HJJ.out.2.1, HFIN.out⟩
                         case measure =>
                          first | exact HJJ.out.2.2 | (show N - (intOf (Value.int .i64 (wrap64 ((p0 : Int) + 64)))).toNat < _; rw [HWP.out]; exact HJJ.out.2.2)
        · have hpn : ¬ (p0 : Int) < (N : Int) := by have := HNQ.out; omega
          as_aux_lemma =>
           have EJ := Lib.hid (show j = Q by omega)
           obtain ⟨ST, hST⟩ : ∃ x, x = eat K j s0 P := ⟨_, rfl⟩
           have hstl : ST.length = 8 := by rw [hST]; exact eat_length K s0 HL.out.2 j P
           obtain ⟨D, hD⟩ : ∃ D, D = ST.flatMap bytesOf := ⟨_, rfl⟩
           have hdig : digest K s0 m = D := by rw [HDG.out, ← EJ.out, ← hST, hD]
           have hst := HST.out
           rw [← hST] at hst
           have HDIG := Lib.hid hdig
           have hdl : D.length = 32 := by rw [← hdig]; exact digest_length K s0 HL.out.2 m
           have hd256 : ∀ x ∈ D, x < 256 := by rw [← hdig]; exact (digest_hash K s0 HL.out.2 m).2
           have hby : ∀ i j, i < 8 → j < 4 → D.getD (4 * i + j) 0 = (ST.getD i 0).toNat / 256 ^ (3 - j) % 256 := fun i j hi hj => by
             rw [hD, flat_bytes ST i j (by omega) hj, bytes_at _ j hj]
           have hs2 := HS2.out.kept HKP.out (show ¬ S2 = S0 by have := EB.out; omega)
           have h9 := Has.new wJ 38 Z
           have hb9 : Below wJ.heap.size wJ (wJ.alloc (.cells Z 38)) := (Below.refl _ _).alloc (Nat.le_refl _) _
           have HST9 := Lib.hid (hst.below hb9 hst.lt)
           have HS29 := Lib.hid (hs2.below hb9 hs2.lt)
           have HBE9 := Lib.hid (show Below w.heap.size w (wJ.alloc (.cells Z 38)) from by
             have h1 := HBEL.out.trans (HBP.out.mono HBEL.out.size)
             have h2 := h1.trans (HKP.out.below h1.size (fun k e => by have e' : k = S0 := e; have := EB.out; omega))
             exact h2.trans (hb9.mono h2.size))
           have HNE := Lib.hid (show wJ.heap.size ≠ S0 ∧ wJ.heap.size ≠ S2 ∧ w.heap.size ≤ wJ.heap.size from ⟨by have := hst.lt; omega, by have := hs2.lt; omega, by have h1 := HBEL.out.size; have h2 := HBP.out.size; have h3 := HKP.out.size; omega⟩)
           have H9 := Lib.hid h9
           have HBYT := Lib.hid hby
           have HDL := Lib.hid (And.intro hdl hd256)
           have HSL := Lib.hid hstl
           have SZ := Lib.hid (show (Tryd.prog.info? 38).map (·.size) = some Z.size by rw [EZ.out.1]; kernel_rfl)
           have ONE := Lib.hid EZ.out.2
           have hrow9 := World.setRow_alloc_new wJ Z Z 38
           have HROW9 := Lib.hid hrow9
           clear hST hstl hD hdig hst hdl hd256 hby hs2 h9 hb9 hrow9 hjq hj HST HKP
           go_upto_region 40 with (first
             | (refine wpList_build_run (by kernel_rfl) 38 _ rfl #[] (by kernel_rfl) (.agg Z) (HBD.out _) ?_)
             | (refine wpList_store_row rfl 38 (.tmp 30) (.tmp 282) rfl wJ.heap.size Z rfl rfl 38 Z H9.out SZ.out rfl ONE.out ?_))
           rw [HROW9.out]
           generalize wJ.alloc (.cells Z 38) = W9 at H9 HST9 HS29 HBE9 ⊢
           generalize wJ.heap.size = B9 at H9 HNE ⊢
           go_wp2_with fail
           go_loopw [31] (fun v wy => ∃ (i : Nat) (cs : Array Value), v = .int .i64 (i : Int) ∧ i ≤ 8 ∧ Has wy B9 38 cs ∧ cs.size = 32 ∧ (∀ q, q < 4 * i → cs[q]? = some (.int .u8 (D.getD q 0 : Nat))) ∧ Kept (· = B9) W9 wy) (fun v _ => 8 - (intOf v).toNat)
           case atStart => exact ⟨0, Z, rfl, Nat.zero_le _, H9.out, EZ.out.1, fun q hq => absurd hq (by omega), Kept.refl _ _⟩
           case round =>
             clear H9
             obtain ⟨i, cs, rfl, hi, hcs, hcz, hcq, hkp⟩ := hrel
             have HCS := Lib.hid (And.intro hcs (And.intro hcz hcq))
             have HKP9 := Lib.hid hkp
             clear hcs hcz hcq hkp
             by_cases hi8 : i < 8
             · have cg : wr.cell? ⟨S0, i, none⟩ = some (.int .u32 ((ST.getD i 0).toNat : Int)) := (HST9.out.kept HKP9.out (fun e => HNE.out.1 e.symm)).cell_is (by rw [List.getElem?_toArray]; exact wcells_get _ _ (by rw [HSL.out]; exact hi8))
               obtain ⟨X, hX⟩ : ∃ X, X = (ST.getD i 0).toNat := ⟨_, rfl⟩
               have hX32 : X < 4294967296 := by rw [hX]; exact (ST.getD i 0).isLt
               rw [← hX] at cg
               have HXB := Lib.hid (show ∀ j, j < 4 → D.getD (4 * i + j) 0 = X / 256 ^ (3 - j) % 256 from fun j hj => by rw [HBYT.out i j hi8 hj, hX])
               have HX32 := Lib.hid hX32
               have hi8' : (i : Int) < 8 := by omega
               have HI8 := Lib.hid hi8
               clear hX hX32
               go_wp2_with fail
               go_loopw [32, 33] (fun xv jv wz => ∃ (jj : Int) (y : Nat) (cs : Array Value), jv = .int .i64 jj ∧ xv = .int .u32 (y : Int) ∧ -1 ≤ jj ∧ jj ≤ 3 ∧ y = X / 256 ^ (3 - jj).toNat ∧ Has wz B9 38 cs ∧ cs.size = 32 ∧ (∀ q, q < 4 * i → cs[q]? = some (.int .u8 (D.getD q 0 : Nat))) ∧ (∀ q : Nat, jj < (q : Int) → q < 4 → cs[4 * i + q]? = some (.int .u8 (D.getD (4 * i + q) 0 : Nat))) ∧ Kept (· = B9) W9 wz) (fun _ jv _ => (intOf jv + 1).toNat)
               case atStart => exact ⟨3, X, cs, rfl, rfl, by decide, by decide, by rw [show (3 - (3 : Int)).toNat = 0 from rfl, Nat.pow_zero, Nat.div_one], HCS.out.1, HCS.out.2.1, HCS.out.2.2, fun q h1 h2 => absurd h1 (by omega), HKP9.out⟩
               case round =>
                 clear HCS HKP9 cg
                 obtain ⟨jj, y, ct, rfl, rfl, hj1, hj2, hy, h1, h2, h3, h4, h5⟩ := hrel
                 have HC := Lib.hid (And.intro h1 (And.intro h2 (And.intro h3 h4)))
                 have HKZ := Lib.hid h5
                 clear h1 h2 h3 h4 h5
                 by_cases hj0 : 0 ≤ jj
                 · obtain ⟨jn, rfl⟩ : ∃ n : Nat, jj = (n : Int) := ⟨jj.toNat, by omega⟩
                   have hjn : jn < 4 := by omega
                   have ejn : (3 - (jn : Int)).toNat = 3 - jn := by omega
                   rw [ejn] at hy
                   obtain ⟨d, hd⟩ : ∃ d, d = y % 256 := ⟨_, rfl⟩
                   obtain ⟨q, hq⟩ : ∃ q, q = y / 256 := ⟨_, rfl⟩
                   have hi88 := HI8.out
                   have ho32 : 4 * i + jn < 32 := by omega
                   have hdd : d = D.getD (4 * i + jn) 0 := by rw [HXB.out jn hjn, hd, hy]
                   have hqq : q = X / 256 ^ (3 - ((jn : Int) - 1)).toNat := by
                     rw [hq, hy, show (3 - ((jn : Int) - 1)).toNat = (3 - jn) + 1 by omega, div_step]
                   have hy32 : y < 4294967296 := by rw [hy]; exact Nat.lt_of_le_of_lt (Nat.div_le_self _ _) HX32.out
                   have hco : ∃ v, wr.cell? ⟨B9, 4 * i + jn, none⟩ = some v := ⟨_, HC.out.1.cell_is (Array.getElem?_eq_getElem (by rw [HC.out.2.1]; exact ho32))⟩
                   obtain ⟨v0, hv0⟩ := hco
                   have hf0 : wr.frozen? ⟨B9, 4 * i + jn, none⟩ = false := HC.out.1.free _
                   have hset := HC.out.1.set (4 * i + jn) (.int .u8 (d : Int))
                   have HSET := Lib.hid (show Has (wr.setCell ⟨B9, 4 * i + jn, none⟩ (.int .u8 (d : Int))) B9 38 (ct.setIfInBounds (4 * i + jn) (.int .u8 (d : Int))) ∧ (ct.setIfInBounds (4 * i + jn) (.int .u8 (d : Int))).size = 32 ∧ (∀ q, q < 4 * i → (ct.setIfInBounds (4 * i + jn) (.int .u8 (d : Int)))[q]? = some (.int .u8 (D.getD q 0 : Nat))) ∧ (∀ q : Nat, (jn : Int) - 1 < (q : Int) → q < 4 → (ct.setIfInBounds (4 * i + jn) (.int .u8 (d : Int)))[4 * i + q]? = some (.int .u8 (D.getD (4 * i + q) 0 : Nat))) from by
                     refine ⟨hset, by simp [HC.out.2.1], fun q hq => ?_, fun q hq1 hq2 => ?_⟩
                     · rw [Array.getElem?_setIfInBounds_ne (by omega)]
                       exact HC.out.2.2.1 q hq
                     · by_cases e : q = jn
                       · rw [e, Array.getElem?_setIfInBounds_self_of_lt (by rw [HC.out.2.1]; exact ho32), hdd]
                       · rw [Array.getElem?_setIfInBounds_ne (by omega)]
                         exact HC.out.2.2.2 q (by omega) hq2)
                   have HKS := Lib.hid (HKZ.out.set (p := ⟨B9, 4 * i + jn, none⟩) (.inl rfl) (.int .u8 (d : Int)))
                   have HQQ := Lib.hid hqq
                   have hjn' : (jn : Int) < 4 := by omega
                   have hj00 : (0 : Int) ≤ (jn : Int) := by omega
                   have HJB := Lib.hid (show -1 ≤ (jn : Int) - 1 ∧ (jn : Int) - 1 ≤ 3 ∧ ((jn : Int) - 1 + 1).toNat < ((jn : Int) + 1).toNat by omega)
                   have hjb : jn < 4611686018427387904 := Nat.lt_trans hjn (by decide)
                   obtain ⟨m1, m2, m3, m4⟩ := wbyte_facts hy32 hd hq
                   have HWP := Lib.hid (wrap64_pred jn hjb)
                   have HM3 := Lib.hid m3
                   clear hj1 hj2 hy ejn hd hq ho32 hdd hqq hy32 hset hjb m3 m4 hj0
                   go_wp2
                   go_roundw
                   case rel => exact ⟨(jn : Int) - 1, q, _, by first | exact congrArg (Value.int .i64) HWP.out | rfl, by first | exact congrArg (Value.int .u32) HM3.out | rfl, HJB.out.1, HJB.out.2.1, HQQ.out, HSET.out.1, HSET.out.2.1, HSET.out.2.2.1, HSET.out.2.2.2, HKS.out⟩
                   case measure =>
                     first | exact HJB.out.2.2 | (show (intOf (Value.int .i64 (wrap64 ((jn : Int) - 1))) + 1).toNat < _; rw [HWP.out]; exact HJB.out.2.2)
                 · have ej : jj = -1 := by omega
                   have HOUT := Lib.hid (show ∀ q, q < 4 * (i + 1) → ct[q]? = some (.int .u8 (D.getD q 0 : Nat)) from fun q hq => by
                     rcases Nat.lt_or_ge q (4 * i) with h | h
                     · exact HC.out.2.2.1 q h
                     · have := HC.out.2.2.2 (q - 4 * i) (by omega) (by omega)
                       rwa [show 4 * i + (q - 4 * i) = q by omega] at this)
                   have HK2 := Lib.hid (show i + 1 ≤ 8 ∧ 8 - (i + 1) < 8 - i by have := HI8.out; omega)
                   have hib : i < 4611686018427387904 := Nat.lt_trans HI8.out (by decide)
                   have HWI := Lib.hid (wrap64_succ i hib)
                   clear ej hj1 hj2 hy hib
                   go_wp2
                   go_roundw
                   case rel => exact ⟨i + 1, ct, by first | exact congrArg (Value.int .i64) HWI.out | rfl, HK2.out.1, HC.out.1, HC.out.2.1, HOUT.out, HKZ.out⟩
                   case measure =>
                     first | exact HK2.out.2 | (show 8 - (intOf (Value.int .i64 (wrap64 ((i : Int) + 1)))).toNat < _; rw [HWI.out]; exact HK2.out.2)
             · have ei : i = 8 := by omega
               have hin : ¬ (i : Int) < 8 := by omega
               obtain ⟨q1, q2, q3⟩ := HCS.out
               have ecs : cs = (bcells D).toArray := by
                 apply Array.toList_inj.1
                 apply List.ext_getElem?
                 intro q
                 rw [Array.getElem?_toList]
                 rcases Nat.lt_or_ge q 32 with hq | hq
                 · rw [q3 q (by omega)]
                   exact (bcells_get D q (by rw [HDL.out.1]; exact hq)).symm
                 · rw [Array.getElem?_eq_none (by omega), List.getElem?_eq_none (by show (bcells D).length ≤ q; rw [bcells_length, HDL.out.1]; exact hq)]
               rw [ecs] at q1
               obtain ⟨LD, hLD⟩ : ∃ L, L = (bcells D).toArray := ⟨_, rfl⟩
               rw [← hLD] at q1
               have ld : LD.size = 32 := by rw [hLD, List.size_toArray, bcells_length, HDL.out.1]
               have SZL := Lib.hid (show (Tryd.prog.info? 38).map (·.size) = some LD.size by rw [ld]; kernel_rfl)
               have ONEL := Lib.hid (show LD.all (·.oneCell') = true by rw [hLD]; exact all_oneCell_toArray (bcells_oneC D))
               have HLZ := Lib.hid (show Z.size = LD.size by rw [ld, EZ.out.1])
               have hs2 := HS29.out.kept HKP9.out (fun e => HNE.out.2.1 e.symm)
               have hbw := HBE9.out.trans (HKP9.out.below HBE9.out.size (fun k e => by have e' : k = B9 := e; have := HNE.out.2.2; omega))
               have hres : Has (wr.setRow S2 LD) S2 38 LD := hs2.setRow
               have hbf : Below w.heap.size w (wr.setRow S2 LD) := hbw.trans ((kept_setRow (g := S2) wr LD).below hbw.size (fun k e => by have e' : k = S2 := e; have := EB.out; omega))
               have HQ1 := Lib.hid q1
               have HS22 := Lib.hid hs2
               have HRES := Lib.hid hres
               have HBF := Lib.hid hbf
               have ELD := Lib.hid hLD
               clear q1 q2 q3 ecs ld hs2 hbw hres hbf hLD ei hi hi8
               go_wp2_with (first
                 | (refine wpList_load_row rfl 38 (.tmp 30) rfl B9 rfl 38 LD (0, 0) _ HQ1.out Tryd.underlying38 rfl SZL.out ?_)
                 | (refine wpList_store_row rfl 38 (.tmp 6) (.tmp 304) rfl S2 LD rfl rfl 38 Z HS22.out SZL.out HLZ.out ONEL.out ?_))
               refine bodyPost_ret (results_cell_row rfl _ _ S2 38 LD (0, 0) _ rfl HRES.out Tryd.underlying38 rfl SZL.out) rfl ?_
               exact ⟨by rw [HDIG.out, ELD.out]; rfl, HBF.out⟩
end Go.Proofs.YtcekammjpghjnaaDoor

