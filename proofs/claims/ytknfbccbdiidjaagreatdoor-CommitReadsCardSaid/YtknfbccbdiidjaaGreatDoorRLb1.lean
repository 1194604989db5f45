/- The walk of Check: whether a leaf stands at a key of the tree with a root. -/
import Derived.Test.YtknfbccbdiidjaaGreatDoorWs
import Derived.Test.YtknfbccbdiidjaaGreatDoorRPf3
import Derived.Deep.AppendLies
import Derived.Test.YtknfbccbdiidjaaGreatDoorRTag2
import Derived.Test.YtknfbccbdiidjaaGreatDoorRGr
import Derived.Test.YtknfbccbdiidjaaGreatDoorRTv6
namespace Go.Proofs.YtknfbccbdiidjaaGreatDoor
set_option linter.unusedVariables false
set_option linter.unusedSimpArgs false
open Go.ChangeShapes Go.WideShapes Go.ChangeAt Go.RowKit Go.Maps

theorem pfAt_errs {K s0 : List Wd} {bare : Nat → Bool} {key : List Nat} {nodes : List Nd} {n0 : Nd} : ∀ (h : Nat) {e : Nat}, pfAt K s0 bare key nodes n0 h = .error e → e = 10 ∨ e = 20 ∨ e = 21 := by
 intro h
 induction h with
 | zero => intro e he; cases he
 | succ h ih =>
  intro e he
  cases e0 : pfAt K s0 bare key nodes n0 h with
  | error e' => rw [pfAt_err e0 1] at he; cases he; exact ih e0
  | ok p =>
   obtain ⟨m, v⟩ := p
   rw [pfAt_succ h e0] at he
   unfold pfStep pfBr at he
   split at he
   · split at he
     · cases he
     · cases he; exact .inl rfl
   · split at he
     · cases he; exact .inr (.inl rfl)
     · split at he
       · cases he; exact .inr (.inr rfl)
       · split at he
         · cases he
         · cases he; exact .inl rfl
theorem pf_errs {K s0 : List Wd} {bare : Nat → Bool} {key : List Nat} {nodes : List Nd} {n0 : Nd} {e : Nat} (he : pfRoot K s0 bare key nodes n0 = .error e) : e = 10 ∨ e = 20 ∨ e = 21 ∨ e = 24 := by
 unfold pfRoot at he
 cases e0 : pfAt K s0 bare key nodes n0 256 with
 | error e' => rw [e0] at he; cases he; rcases pfAt_errs 256 e0 with h | h | h <;> simp [h]
 | ok p =>
  rw [e0] at he
  change (if p.2 < nodes.length then (Except.error 24 : Except Nat Nd) else .ok p.1) = .error e at he
  split at he
  · cases he; simp
  · cases he
end Go.Proofs.YtknfbccbdiidjaaGreatDoor

/- Parts of Make: bits that are set, nodes that are gathered. -/
namespace Go.Proofs.YtknfbccbdiidjaaGreatDoor
set_option linter.unusedVariables false
set_option linter.unusedSimpArgs false
open Go.ChangeShapes Go.WideShapes Go.ChangeAt Go.RowKit Go.Maps

theorem bareB_test (bb : List Nat) (h : Nat) : bareB bb h = (bb.getD (h / 8) 0).testBit (h % 8) := by
 unfold bareB
 rw [Nat.testBit_eq_decide_div_mod_eq]
theorem bare_set {bb : List Nat} (hb : IsHash bb) (k : Nat) (hk : k < 256) :
   IsHash (bb.set (k / 8) (bb.getD (k / 8) 0 ||| 2 ^ (k % 8))) ∧ ∀ h, h < 256 → bareB (bb.set (k / 8) (bb.getD (k / 8) 0 ||| 2 ^ (k % 8))) h = (bareB bb h || decide (h = k)) := by
 have hy : bb.getD (k / 8) 0 ||| 2 ^ (k % 8) < 256 := by
   have h1 := hb.byte (k / 8) (by omega)
   have h2 : 2 ^ (k % 8) < 2 ^ 8 := Nat.pow_lt_pow_right (by decide) (Nat.mod_lt _ (by decide))
   exact Nat.or_lt_two_pow (n := 8) h1 h2
 refine ⟨⟨by rw [List.length_set, hb.1], fun x hx => ?_⟩, fun h hh => ?_⟩
 · rcases List.mem_or_eq_of_mem_set hx with e | e
   · exact hb.2 x e
   · rw [e]; exact hy
 · rw [bareB_test, bareB_test]
   by_cases e : h / 8 = k / 8
   · rw [e, List.getD_eq_getElem?_getD, List.getElem?_set_self (by rw [hb.1]; omega), Option.getD_some, Nat.testBit_or, Nat.testBit_two_pow]
     congr 1
     rw [decide_eq_decide]
     omega
   · rw [List.getD_eq_getElem?_getD, List.getElem?_set_ne (by omega), ← List.getD_eq_getElem?_getD, decide_eq_false (show ¬ h = k from fun q => e (by rw [q])), Bool.or_false]
theorem bareB_zero (h : Nat) (hh : h < 256) : bareB (List.replicate 32 0) h = false := by
 rw [bareB_test, List.getD_eq_getElem?_getD, List.getElem?_replicate, if_pos (by omega), Option.getD_some, Nat.zero_testBit]
theorem flatN_get : ∀ (xs : List Nd), (∀ x ∈ xs, IsHash x.h) → ∀ (i j : Nat) x, xs[i]? = some x → j < 33 → (xs.flatMap ndV)[i * 33 + j]? = (ndV x)[j]?
 | [], _, i, j, x, hi, _ => by cases hi
 | y :: ys, hh, 0, j, x, hi, hj => by
  cases hi
  rw [List.flatMap_cons, Nat.zero_mul, Nat.zero_add, List.getElem?_append_left (by rw [ndV_len (hh _ (List.mem_cons_self ..))]; exact hj)]
 | y :: ys, hh, i + 1, j, x, hi, hj => by
  have hl := ndV_len (hh y (List.mem_cons_self ..))
  rw [List.flatMap_cons, List.getElem?_append_right (by rw [hl]; omega), hl, show (i + 1) * 33 + j - 33 = i * 33 + j by omega]
  exact flatN_get ys (fun z hz => hh z (List.mem_cons_of_mem _ hz)) i j x hi hj
theorem own_nodes {w : World} {base : Nat} {a : Option Addr} {n c : Nat} {xs : List Nd} (h : w.ownsRow base 30 33 (.slice a n c) n (xs.flatMap ndV)) (hl : xs.length = n) (hh : ∀ x ∈ xs, IsHash x.h) (hs : ∀ x ∈ xs, x.s < 18446744073709551616) :
   NodesAt w a n xs ∧ (0 < n → ∀ A, a = some A → base ≤ A.block) := by
 refine ⟨⟨hl, hh, hs, fun hn => ?_⟩, fun hn A hA => ?_⟩
 · obtain ⟨b, cap, cur, e, hB, hhas, h1, h2, h3, h4⟩ := own_open h hn
   injection e with e1 e2 e3
   refine ⟨b, 0, e1, hhas.lt, fun i x hx j u hu => ?_⟩
   have hj := (List.getElem?_eq_some_iff.1 hu).1
   rw [ndV_len (hh x (List.mem_of_getElem? hx))] at hj
   have hi := (List.getElem?_eq_some_iff.1 hx).1
   have hlt : i * 33 + j < n * 33 := by
    have : (i + 1) * 33 ≤ n * 33 := Nat.mul_le_mul_right 33 (by omega)
    omega
   rw [Nat.zero_add]
   exact hhas.cell_is (by rw [h4 _ hlt, flatN_get xs hh i j x hx hj]; exact hu)
 · obtain ⟨b, cap, cur, e, hB, hhas, h1, h2, h3, h4⟩ := own_open h hn
   injection e with e1 e2 e3
   rw [hA] at e1
   injection e1 with e1
   rw [e1]; exact hB
theorem zero_proof : ∃ Z : Array Value, (∀ w, (zeroValue 39).run Tryz.prog w = .ok (.agg Z) w) ∧ Z.size = 33 ∧ ¬ Z = #[] ∧ Z = (pcells (List.replicate 32 0) none 0 0).toArray := by
 have hs : (pcells (List.replicate 32 0) none 0 0).toArray.size = 33 := by kernel_rfl
 exact ⟨_, fun w => by kernel_rfl, hs, fun e => (by rw [e] at hs; cases hs), rfl⟩
theorem or_bit (x j : Nat) (hx : x < 256) (hj : j < 8) : bits BinOp.or .u8 (x : Int) ((2 ^ j : Nat) : Int) = ((x ||| 2 ^ j : Nat) : Int) := by
 have h2 : 2 ^ j < 2 ^ 8 := Nat.pow_lt_pow_right (by decide) hj
 have hy : x ||| 2 ^ j < 256 := Nat.or_lt_two_pow (n := 8) hx h2
 unfold bits
 have e : (BitVec.ofInt IntKind.u8.bits (x : Int) ||| BitVec.ofInt IntKind.u8.bits ((2 ^ j : Nat) : Int)).toNat = x ||| 2 ^ j := by
  show (BitVec.ofInt 8 (x : Int) ||| BitVec.ofInt 8 ((2 ^ j : Nat) : Int)).toNat = x ||| 2 ^ j
  rw [BitVec.ofInt_natCast, BitVec.ofInt_natCast, BitVec.toNat_or, BitVec.toNat_ofNat, BitVec.toNat_ofNat, Nat.mod_eq_of_lt hx, Nat.mod_eq_of_lt h2]
 simp only [e]
 have hw : ∀ b : Int, 0 ≤ b → b < 256 → IntKind.u8.wrap b = b := fun b h0 h1 => by
  simp [IntKind.wrap, IntKind.bits, IntKind.signed]; omega
 exact hw _ (by omega) (by omega)
theorem pcells_set {bb : List Nat} (hb : IsHash bb) (a : Option Addr) (n c i y : Nat) (hi : i < 32) : ((pcells bb a n c).toArray.setIfInBounds i (.int .u8 (y : Int))) = (pcells (bb.set i y) a n c).toArray := by
 rw [List.setIfInBounds_toArray]
 congr 1
 unfold pcells bcells
 rw [List.set_append_left _ _ (by rw [List.length_map, hb.1]; exact hi), List.map_set]
theorem pcells_put {bb : List Nat} (hb : IsHash bb) (a a' : Option Addr) (n c n' c' : Nat) : ((pcells bb a n c).toArray.setIfInBounds 32 (.slice a' n' c')) = (pcells bb a' n' c').toArray := by
 rw [List.setIfInBounds_toArray]
 congr 1
 unfold pcells
 rw [List.set_append_right _ _ (by rw [bcells_length, hb.1]; exact Nat.le_refl _), bcells_length, hb.1]
 rfl
end Go.Proofs.YtknfbccbdiidjaaGreatDoor

/- What the head of the proofs' laws asks, in plain lists. -/
namespace Go.Proofs.YtknfbccbdiidjaaGreatDoor
set_option linter.unusedVariables false
set_option linter.unusedSimpArgs false
open Go.ChangeShapes Go.WideShapes Go.ChangeAt Go.RowKit Go.Maps

theorem beside_own (t : Lf) (h : Nat) : besideT [t] t.k h = [] := by
 unfold besideT
 apply List.filter_eq_nil_iff.2
 intro x hx
 have hx2 : x = t := by
  obtain ⟨p, hp⟩ := own_sub [t] t.k (255 - h)
  rw [hp] at hx
  exact List.mem_singleton.1 (List.mem_filter.1 hx).1
 have hb := bitAt_lt t.k h
 rw [hx2, decide_eq_true_eq]
 omega
theorem bes_own (K s0 : List Wd) (t : Lf) (h : Nat) : besF K s0 [t] t.k h = emptyNd K s0 h := by
 unfold besF
 rw [beside_own, part_nil]
theorem bareF_own (K s0 : List Wd) (t : Lf) (h : Nat) : bareF K s0 (besF K s0 [t] t.k) h = true := by
 unfold bareF
 rw [bes_own]
 exact ndSame_iff.2 rfl
theorem nodesF_all {K s0 : List Wd} {f : Nat → Nd} : ∀ n, (∀ h, h < n → bareF K s0 f h = true) → nodesF K s0 f n = []
 | 0, _ => rfl
 | n + 1, hh => by
  rw [nodesF_succ, if_pos (hh n (Nat.lt_succ_self n)), nodesF_all n (fun h e => hh h (Nat.lt_succ_of_lt e))]; rfl
end Go.Proofs.YtknfbccbdiidjaaGreatDoor

/- A proof as the reference has it. -/
namespace Go.Proofs.YtknfbccbdiidjaaGreatDoor
set_option linter.unusedVariables false
set_option linter.unusedSimpArgs false
open Go.ChangeShapes Go.WideShapes Go.ChangeAt Go.RowKit Go.Maps

end Go.Proofs.YtknfbccbdiidjaaGreatDoor
/- Leaves of layer 7: their cells; place, part, Check walked. -/
namespace Go.Proofs.YtknfbccbdiidjaaGreatDoor
set_option linter.unusedVariables false
set_option linter.unusedSimpArgs false
open Go.ChangeShapes Go.WideShapes Go.ChangeAt Go.RowKit Go.Maps

structure LeafT where
 id : List Nat
 am : Nat
 ow : List Nat
 pl : Int
 sp : Nd
def LeafT.cells (l : LeafT) : List Value := bcells l.id ++ (.int .u64 (l.am : Int) :: (bcells l.ow ++ (.int .i64 l.pl :: ndV l.sp)))
structure LeafT.ok (l : LeafT) : Prop where
 id : IsHash l.id
 am : l.am < 18446744073709551616
 ow : IsHash l.ow
 lo : -9223372036854775808 ≤ l.pl
 hi : l.pl ≤ 9223372036854775807
 sp : IsHash l.sp.h
 ss : l.sp.s < 18446744073709551616
theorem LeafT.len {l : LeafT} (h : l.ok) : l.cells.length = 99 := by
 simp [LeafT.cells, bcells_length, h.id.1, h.ow.1, ndV_len h.sp]
theorem LeafT.at_id {l : LeafT} (h : l.ok) (i : Nat) (hi : i < 32) : l.cells[i]? = some (.int .u8 (l.id.getD i 0 : Nat)) := by
 unfold LeafT.cells
 rw [List.getElem?_append_left (by rw [bcells_length, h.id.1]; exact hi)]
 exact bcells_get _ i (by rw [h.id.1]; exact hi)
theorem LeafT.at_am {l : LeafT} (h : l.ok) : l.cells[32]? = some (.int .u64 (l.am : Int)) := by
 unfold LeafT.cells
 rw [List.getElem?_append_right (by rw [bcells_length, h.id.1]; exact Nat.le_refl _), bcells_length, h.id.1]; rfl
theorem LeafT.tail {l : LeafT} (h : l.ok) (i : Nat) : l.cells[33 + i]? = (bcells l.ow ++ (.int .i64 l.pl :: ndV l.sp))[i]? := by
 unfold LeafT.cells
 rw [List.getElem?_append_right (by rw [bcells_length, h.id.1]; omega), bcells_length, h.id.1, show 33 + i - 32 = i + 1 by omega, List.getElem?_cons_succ]
theorem LeafT.at_ow {l : LeafT} (h : l.ok) (i : Nat) (hi : i < 32) : l.cells[33 + i]? = some (.int .u8 (l.ow.getD i 0 : Nat)) := by
 rw [LeafT.tail h, List.getElem?_append_left (by rw [bcells_length, h.ow.1]; exact hi)]
 exact bcells_get _ i (by rw [h.ow.1]; exact hi)
theorem LeafT.at_pl {l : LeafT} (h : l.ok) : l.cells[65]? = some (.int .i64 l.pl) := by
 rw [show 65 = 33 + 32 from rfl, LeafT.tail h, List.getElem?_append_right (by rw [bcells_length, h.ow.1]; exact Nat.le_refl _), bcells_length, h.ow.1]; rfl
theorem LeafT.at_sp {l : LeafT} (h : l.ok) (i : Nat) : l.cells[66 + i]? = (ndV l.sp)[i]? := by
 rw [show 66 + i = 33 + (33 + i) by omega, LeafT.tail h, List.getElem?_append_right (by rw [bcells_length, h.ow.1]; omega), bcells_length, h.ow.1, show 33 + i - 32 = i + 1 by omega, List.getElem?_cons_succ]
theorem LeafT.at_ss {l : LeafT} (h : l.ok) : l.cells[98]? = some (.int .u64 (l.sp.s : Int)) := by
 rw [show 98 = 66 + 32 from rfl, LeafT.at_sp h, ndV, ncells, List.getElem?_append_right (by rw [bcells_length, h.sp.1]; exact Nat.le_refl _), bcells_length, h.sp.1]; rfl
theorem LeafT.one (l : LeafT) : l.cells.toArray.all (·.oneCell') = true := by
 rw [Array.all_eq_true']
 intro x hx
 have hx2 : x ∈ l.cells := by simpa using hx
 unfold LeafT.cells at hx2
 simp only [List.mem_append, List.mem_cons] at hx2
 rcases hx2 with h | rfl | h | rfl | h
 · obtain ⟨y, _, rfl⟩ := List.mem_map.1 h; rfl
 · rfl
 · obtain ⟨y, _, rfl⟩ := List.mem_map.1 h; rfl
 · rfl
 · exact ncells_one _ _ x h
def leafBad (l : LeafT) : Bool := decide (l.am = 0 ∨ l.pl < 0 ∨ 256 ≤ l.pl ∨ l.sp.s < l.am)
def leafE (l : LeafT) : Int := if leafBad l = true then 1 else 0
set_option maxRecDepth 100000 in
theorem leafCheck_is (w : World) (l : LeafT) (h : l.ok) : Calls Tryz.prog 15 #[.agg l.cells.toArray] w fun e w' => e = .returned (.int .i64 (leafE l)) ∧ w' = w.alloc (.cells l.cells.toArray 32) := by
 have hx := Has.new w 32 l.cells.toArray
 have c32 := hx.cell_is (i := 32) (by rw [List.getElem?_toArray]; exact LeafT.at_am h)
 have c65 := hx.cell_is (i := 65) (by rw [List.getElem?_toArray]; exact LeafT.at_pl h)
 have c98 := hx.cell_is (i := 98) (by rw [List.getElem?_toArray]; exact LeafT.at_ss h)
 have HE := Lib.hid (show leafBad l = decide (l.am = 0 ∨ l.pl < 0 ∨ 256 ≤ l.pl ∨ l.sp.s < l.am) from rfl)
 have h1 := h.lo
 have h2 := h.hi
 obtain ⟨am, ham⟩ : ∃ x, x = l.am := ⟨_, rfl⟩
 obtain ⟨pl, hpl⟩ : ∃ x, x = l.pl := ⟨_, rfl⟩
 obtain ⟨ss, hss⟩ : ∃ x, x = l.sp.s := ⟨_, rfl⟩
 rw [← ham] at c32
 rw [← hpl] at c65 h1 h2
 rw [← hss] at c98
 rw [← ham, ← hpl, ← hss] at HE
 have HLE := Lib.hid (show leafE l = if leafBad l = true then 1 else 0 from rfl)
 obtain ⟨le, hle⟩ : ∃ x, x = leafE l := ⟨_, rfl⟩
 rw [← hle] at HLE ⊢
 generalize l.cells = LC at c32 c65 c98 ⊢
 clear ham hpl hss h hle hx
 by_cases a1 : am = 0
 · have b1 : ((am : Int) == 0) = true := by rw [beq_iff_eq]; omega
   have hr : le = 1 := by rw [HLE.out, HE.out, if_pos (decide_eq_true (.inl a1))]
   have HR := Lib.hid hr
   clear hr a1
   go_enter Tryz.func15, Tryz.ntmps15
   go_wp2_with fail
   go_ret
   exact ⟨ret_int HR.out.symm, rfl⟩
 have b1 : ((am : Int) == 0) = false := by rw [beq_eq_false_iff_ne]; omega
 by_cases a2 : pl < 0
 · have hr : le = 1 := by rw [HLE.out, HE.out, if_pos (decide_eq_true (.inr (.inl a2)))]
   have HR := Lib.hid hr
   clear hr
   go_enter Tryz.func15, Tryz.ntmps15
   go_wp2_with fail
   go_ret
   exact ⟨ret_int HR.out.symm, rfl⟩
 by_cases a3 : 256 ≤ pl
 · have hr : le = 1 := by rw [HLE.out, HE.out, if_pos (decide_eq_true (.inr (.inr (.inl a3))))]
   have HR := Lib.hid hr
   clear hr
   go_enter Tryz.func15, Tryz.ntmps15
   go_wp2_with fail
   go_ret
   exact ⟨ret_int HR.out.symm, rfl⟩
 by_cases a4 : ss < am
 · have a5 : (ss : Int) < (am : Int) := by omega
   have hr : le = 1 := by rw [HLE.out, HE.out, if_pos (decide_eq_true (.inr (.inr (.inr a4))))]
   have HR := Lib.hid hr
   clear hr
   go_enter Tryz.func15, Tryz.ntmps15
   go_wp2_with fail
   go_ret
   exact ⟨ret_int HR.out.symm, rfl⟩
 have a5 : ¬ (ss : Int) < (am : Int) := by omega
 have hr : le = 0 := by
   rw [HLE.out, HE.out, if_neg]
   rw [decide_eq_true_eq]
   rintro (h | h | h | h)
   · exact a1 h
   · exact a2 h
   · exact a3 h
   · exact a4 h
 have HR := Lib.hid hr
 clear hr
 go_enter Tryz.func15, Tryz.ntmps15
 go_wp2_with fail
 go_ret
 exact ⟨ret_int HR.out.symm, rfl⟩
def plS : ByteArray := { data := #[109, 111, 110, 101, 121, 101, 114, 47, 112, 108, 97, 99, 101] }
def placeK (K s0 : List Wd) (n : Nat) : List Nat := tagD K s0 plS [n]
theorem tagD_hash (K s0 : List Wd) (hs : s0.length = 8) (s : ByteArray) (m : List Nat) : IsHash (tagD K s0 s m) := digest_hash K s0 hs _
theorem partsN_one {w w3 : World} {g pg : Nat} {v : Value} {p : List Nat} (hc : w3.cell? ⟨pg, 0, none⟩ = some v) (hb : Bytes w3 g v p) (hne : pg ≠ g) : PartsN w3 g (.slice (some ⟨pg, 0, none⟩) 1 1) [p] :=
 ⟨_, _, rfl, fun _ => ⟨pg, 0, rfl, hne, fun i hi => by
  have hi0 : i = 0 := by simpa using hi
  subst hi0
  exact ⟨v, hc, hb⟩⟩⟩
set_option maxRecDepth 100000 in
set_option maxHeartbeats 2000000 in
theorem place_is (K s0 : List Wd) (w : World) (hT : Tabs K s0 w) (n : Nat) (hn : n < 256) : Calls Tryz.prog 99 #[.int .i64 (n : Int)] w fun e w' => e = .returned (arr (placeK K s0 n)) ∧ Below w.heap.size w w' := by
 obtain ⟨zk, hzk, hzs, hzn⟩ := zero_hashT
 have s1 : ∀ (x : World) o, (x.alloc o).heap.size = x.heap.size + 1 := fun x o => by simp
 obtain ⟨W3, hW3⟩ : ∃ W, W = (((w.alloc (.cells zk 27)).alloc (.cells (tag0 plS).toArray 178)).alloc (.cells #[.int .u8 (n : Int)] 5)).alloc (.cells #[.slice (some ⟨w.heap.size + 1 + 1, 0, none⟩) 1 1] 48) := ⟨_, rfl⟩
 have h2 : Has W3 w.heap.size 27 zk := by rw [hW3]; exact (((Has.new w _ _).alloc _).alloc _).alloc _
 have hg : Has W3 (w.heap.size + 1) 178 (tag0 plS).toArray := by
  rw [hW3]
  have := Has.new (w.alloc (.cells zk 27)) 178 (tag0 plS).toArray
  rw [s1] at this
  exact (this.alloc _).alloc _
 have hn3 : Has W3 (w.heap.size + 1 + 1) 5 #[.int .u8 (n : Int)] := by
  rw [hW3]
  have := Has.new ((w.alloc (.cells zk 27)).alloc (.cells (tag0 plS).toArray 178)) 5 #[.int .u8 (n : Int)]
  rw [s1, s1] at this
  exact this.alloc _
 have hp3 : Has W3 (w.heap.size + 1 + 1 + 1) 48 #[.slice (some ⟨w.heap.size + 1 + 1, 0, none⟩) 1 1] := by
  rw [hW3]
  have := Has.new (((w.alloc (.cells zk 27)).alloc (.cells (tag0 plS).toArray 178)).alloc (.cells #[.int .u8 (n : Int)] 5)) 48 #[.slice (some ⟨w.heap.size + 1 + 1, 0, none⟩) 1 1]
  rw [s1, s1, s1] at this
  exact this
 have hbe : Below w.heap.size w W3 := by
  rw [hW3]
  exact ((((Below.refl _ _).alloc (Nat.le_refl _) _).alloc (by simp) _).alloc (by simp; omega) _).alloc (by simp; omega) _
 have hby : Bytes W3 (w.heap.size + 1) (.slice (some ⟨w.heap.size + 1 + 1, 0, none⟩) 1 1) [n] := ⟨_, _, rfl, Nat.le_refl _, (fun z hz => by rw [List.mem_singleton.1 hz]; exact hn), fun _ => ⟨w.heap.size + 1 + 1, 0, rfl, by omega, fun i hi => by
  obtain rfl : i = 0 := Nat.lt_one_iff.1 hi
  exact hn3.cell_is rfl⟩⟩
 have hlow := hT.low
 have hsum := tagSum_is K s0 W3 (hT.below hbe hT.low) (w.heap.size + 1) plS (by decide) (by omega) hg _ [[n]] (partsN_one (w := w) (hp3.cell_is rfl) hby (by omega)) (by simp) (by simp)
 have hpk : tagD K s0 plS [[n]].flatten = placeK K s0 n := rfl
 rw [hpk] at hsum
 have hph : IsHash (placeK K s0 n) := tagD_hash K s0 hT.len _ _
 obtain ⟨D, hD⟩ : ∃ D, D = placeK K s0 n := ⟨_, rfl⟩
 rw [← hD] at hsum hph ⊢
 unfold arr at hsum
 have hnw : IntKind.u8.wrap (n : Int) = (n : Int) := by rw [IntKind.wrap_u8]; omega
 have SZ := Lib.hid (show (Tryz.prog.info? 27).map (·.size) = some (bcells D).toArray.size by rw [List.size_toArray, bcells_length, hph.1]; kernel_rfl)
 have SZ2 := Lib.hid (show zk.size = (bcells D).toArray.size by rw [hzs, List.size_toArray, bcells_length, hph.1])
 have HSUM := Lib.hid hsum
 have H2 := Lib.hid h2
 have HBE := Lib.hid hbe
 have HW3 := Lib.hid hW3
 clear hsum h2 hg hn3 hp3 hbe hby hpk hph hD hzs hW3 hlow
 go_enter Tryz.func99, Tryz.ntmps99
 go_wp2_with fail
 refine (newTag_is plS _).mono ?_
 rintro _ w2 ⟨rfl, hw2⟩
 have hsz : (w.alloc (.cells zk 27)).heap.size = w.heap.size + 1 := by simp
 subst hw2
 try rw [hsz]
 go_wp2_with fail
 rw [← HW3.out]
 refine HSUM.out.mono ?_
 rintro _ w4 ⟨rfl, hk4⟩
 have H24 := Lib.hid (H2.out.kept hk4 (by omega))
 have hset : Has (w4.setRow w.heap.size (bcells D).toArray) w.heap.size 27 (bcells D).toArray := H24.out.setRow
 have hbf : Below w.heap.size w (w4.setRow w.heap.size (bcells D).toArray) := by
  have hb4 := HBE.out.trans (hk4.below HBE.out.size (fun k e => by have e' : k = w.heap.size + 1 := e; omega))
  exact hb4.trans ((kept_setRow (g := w.heap.size) w4 (bcells D).toArray).below hb4.size (fun k e => by have e' : k = w.heap.size := e; omega))
 have HSET := Lib.hid hset
 have HBF := Lib.hid hbf
 clear hset hbf hk4 hsz
 go_wp2_with (refine wpList_store_row rfl 27 (.tmp 2) (.tmp 8) rfl w.heap.size (bcells D).toArray rfl rfl 27 _ H24.out SZ.out SZ2.out (all_oneCell_toArray (bcells_one D)) ?_)
 refine bodyPost_ret (results_cell_row rfl _ _ w.heap.size 27 (bcells D).toArray (0, 0) _ rfl HSET.out Tryz.underlying27 rfl SZ.out) rfl ?_
 exact ⟨rfl, HBF.out⟩
end Go.Proofs.YtknfbccbdiidjaaGreatDoor
/- The plain law of a leaf's bytes: back and forth. -/
namespace Go.Proofs.YtknfbccbdiidjaaGreatDoor
set_option linter.unusedVariables false
set_option linter.unusedSimpArgs false

def plB (l : LeafT) : Nat := (l.pl % 256).toNat
theorem plB_lt (l : LeafT) : plB l < 256 := by unfold plB; omega
def recsOf (l : LeafT) : List Rec := [⟨0, l.id⟩, ⟨2, eight l.am⟩, ⟨4, l.ow⟩, ⟨6, [plB l]⟩, ⟨8, l.sp.h ++ eight l.sp.s⟩]
theorem eight_len' (x : Nat) : (eight x).length = 8 := by simp [eight]
theorem eight_lt' (x : Nat) : ∀ y ∈ eight x, y < 256 := by rw [eight_big]; exact bigN_lt x 8
theorem recs_len (l : LeafT) (h : l.ok) : (recsOf l).map (fun r => r.v.length) = [32, 8, 32, 1, 40] := by
 simp [recsOf, h.id.1, h.ow.1, h.sp.1, eight_len']
theorem recs_lt (l : LeafT) (h : l.ok) : ∀ r ∈ recsOf l, ∀ y ∈ r.v, y < 256 := by
 intro r hr
 simp only [recsOf, List.mem_cons, List.not_mem_nil, or_false] at hr
 rcases hr with rfl | rfl | rfl | rfl | rfl
 · exact h.id.2
 · exact eight_lt' _
 · exact h.ow.2
 · intro y hy; rw [List.mem_singleton.1 hy]; exact plB_lt l
 · intro y hy
   rcases List.mem_append.1 hy with h1 | h1
   · exact h.sp.2 y h1
   · exact eight_lt' _ y h1
def leafB (l : LeafT) : List Nat := (recsOf l).flatMap recB
theorem recE_at (l : LeafT) (h : l.ok) (k : Nat) (hk : k < 5) : recE (recsOf l) k ((recsOf l).getD k ⟨0, []⟩) = 0 := by
 have e1 := h.id.1
 have e2 := h.ow.1
 have e3 := h.sp.1
 have e4 := eight_len' l.am
 have e5 := eight_len' l.sp.s
 match k, hk with
 | 0, _ => simp [recE, recsOf, e1]
 | 1, _ => simp [recE, recsOf, e4]
 | 2, _ => simp [recE, recsOf, e2]
 | 3, _ => simp [recE, recsOf]
 | 4, _ => simp [recE, recsOf, e3, e5]
theorem tvAt_up5 {rs : List Rec} {k : Nat} {b : List Nat} {r : Rec} (h : tvAt rs k = .ok b) (hr : rs[k]? = some r) (h0 : recE rs k r = 0) : tvAt rs (k + 1) = .ok (b ++ recB r) := by
 rw [tvAt_succ h hr, if_pos h0]
theorem enc_leaf (l : LeafT) (h : l.ok) : tvEnc (recsOf l) = .ok (leafB l) := by
 have t1 := tvAt_up5 (rs := recsOf l) (k := 0) (b := []) rfl rfl (recE_at l h 0 (by decide))
 have t2 := tvAt_up5 t1 rfl (recE_at l h 1 (by decide))
 have t3 := tvAt_up5 t2 rfl (recE_at l h 2 (by decide))
 have t4 := tvAt_up5 t3 rfl (recE_at l h 3 (by decide))
 have t5 := tvAt_up5 t4 rfl (recE_at l h 4 (by decide))
 have hl : (recsOf l).length = 5 := rfl
 unfold tvEnc
 rw [hl, if_neg (by decide), t5]
 simp [leafB, recsOf, List.append_assoc]
def recV (rs : List Rec) (i : Nat) : List Nat := (rs.getD i ⟨0, []⟩).v
theorem tdec_lt {b : List Nat} {rs : List Rec} (hb : ∀ y ∈ b, y < 256) (h : tdec b = .ok rs) : ∀ i, ∀ y ∈ recV rs i, y < 256 := by
 obtain ⟨h1, h2, h3⟩ := enc_dec hb h
 unfold tvEnc at h1
 rw [if_neg (by omega)] at h1
 have h4 := (tvAt_flat rs.length b (Nat.le_refl _) h1).1
 rw [List.take_length] at h4
 intro i y hy
 unfold recV at hy
 by_cases c : i < rs.length
 · have e : rs.getD i ⟨0, []⟩ ∈ rs := by rw [List.getD_eq_getElem?_getD, List.getElem?_eq_getElem c]; exact List.getElem_mem _
   refine hb y ?_
   rw [h4]
   exact List.mem_flatMap.2 ⟨_, e, by unfold recB; exact List.mem_append_right _ (List.mem_append_right _ hy)⟩
 · rw [List.getD_eq_getElem?_getD, List.getElem?_eq_none (by omega)] at hy
   cases hy
theorem leafB_lt (l : LeafT) (h : l.ok) : ∀ y ∈ leafB l, y < 256 := by
 intro y hy
 obtain ⟨r, hr, hy⟩ := List.mem_flatMap.1 hy
 exact recB_lt r (recs_lt l h r hr) y hy
end Go.Proofs.YtknfbccbdiidjaaGreatDoor
/- The walks of leaf's eight and number. -/
namespace Go.Proofs.YtknfbccbdiidjaaGreatDoor
set_option linter.unusedVariables false
set_option linter.unusedSimpArgs false
open Go.ChangeShapes Go.WideShapes Go.ChangeAt Go.RowKit Go.Maps

theorem zero_eight : ∃ Z : Array Value, (∀ w, (zeroValue 165).run Tryz.prog w = .ok (.agg Z) w) ∧ Z = (bcells (List.replicate 8 0)).toArray ∧ Z.size = 8 ∧ ¬ Z = #[] := ⟨(bcells (List.replicate 8 0)).toArray, fun w => by kernel_rfl, rfl, by simp [bcells], by decide⟩
set_option maxRecDepth 100000 in
set_option maxHeartbeats 4000000 in
theorem lfEight_is (w : World) (x : Nat) (hx : x < 18446744073709551616) :
  Calls Tryz.prog 85 #[.int .u64 (x : Int)] w fun e w' => ∃ a, e = .returned (.slice a 8 8) ∧ Bytes w' w'.heap.size (.slice a 8 8) (eight x) ∧ Below w.heap.size w w' := by
 obtain ⟨Z, hz, hZ, hZs, hZn⟩ := zero_eight
 have HZ := Lib.hid hZ
 clear hZ hZs
 obtain ⟨G, hG⟩ : ∃ g, g = w.heap.size := ⟨_, rfl⟩
 have HG := Lib.hid hG
 have hal : Has (w.alloc (.cells Z 165)) w.heap.size 165 Z := Has.new _ _ _
 have hbl : Below w.heap.size w (w.alloc (.cells Z 165)) := (Below.refl _ _).alloc (Nat.le_refl _) _
 obtain ⟨W1, hW1⟩ : ∃ v, v = w.alloc (.cells Z 165) := ⟨_, rfl⟩
 rw [← hW1, ← hG] at hal hbl
 have HAL := Lib.hid hal
 have HBL := Lib.hid hbl
 have EW1 := Lib.hid hW1
 clear hG hal hbl hW1
 go_enter Tryz.func85, Tryz.ntmps85
 go_upto_region 2 with (fail)
 rw [← HG.out, ← EW1.out]
 go_wp2_with fail
 go_loopw [5] (fun i wr => ∃ k : Nat, k ≤ 8 ∧ i = .int .i64 k ∧ Has wr G 165 (splice (bcells (List.replicate 8 0)) 0 ((bcells (eight x)).take k)).toArray ∧ Below G w wr) (fun i _ => 8 - (intOf i).toNat)
 case atStart => exact ⟨0, by omega, rfl, by rw [List.take_zero, splice_nil, ← HZ.out]; exact HAL.out, HBL.out⟩
 case round =>
  obtain ⟨k, hk, rfl, hW, hK⟩ := hrel
  have HW := Lib.hid hW
  have HKR := Lib.hid hK
  clear hW hK
  by_cases hlt : k < 8
  · have hf := HW.out.free k
    obtain ⟨v0, hv0⟩ : ∃ v, wr.cell? ⟨G, k, none⟩ = some v := by
     refine ⟨_, HW.out.cell_is (by rw [List.getElem?_toArray]; exact List.getElem?_eq_getElem (by rw [splice_len _ _ _ (by rw [List.length_take, bcells_length, bcells_length, eight_length]; simp; omega)]; rw [bcells_length]; simpa using hlt))⟩
    have hset := HW.out.set (0 + k) (.int .u8 ((x / 2 ^ (8 * (7 - k)) % 256 : Nat) : Int))
    rw [List.setIfInBounds_toArray, splice_take_set _ _ _ _ _ (by rw [bcells_length, bcells_length, eight_length]; simp) (eight_get x k hlt), Nat.zero_add] at hset
    have hv : ((x : Int) / 2 ^ (56 - 8 * k) % 256) = ((x / 2 ^ (8 * (7 - k)) % 256 : Nat) : Int) := by
     rw [show 56 - 8 * k = 8 * (7 - k) by omega, show (2 : Int) ^ (8 * (7 - k)) = ((2 ^ (8 * (7 - k)) : Nat) : Int) by simp]
     rfl
    have HV := Lib.hid hv
    have HSET := Lib.hid hset
    have HGW := Lib.hid (show w.heap.size ≤ G by rw [HG.out]; exact Nat.le_refl _)
    clear hset hv
    go_wp2
    go_roundw
    case rel => exact ⟨k + 1, by omega, by go_num, by rw [HV.out]; exact HSET.out, HKR.out.setCell (by exact Nat.le_refl _) _⟩
    case measure => simp [intOf]; omega
  · obtain rfl : k = 8 := by omega
    have hfin : Has wr G 165 (bcells (eight x)).toArray := by
     have h1 := HW.out
     rw [List.take_of_length_le (by rw [bcells_length, eight_length]; exact Nat.le_refl _), splice_all _ _ (by rw [bcells_length, bcells_length, eight_length]; simp)] at h1
     exact h1
    have HF := Lib.hid hfin
    clear hfin
    go_wp2
    go_ret
    exact ⟨_, rfl, ⟨_, _, by rw [eight_length], by rw [eight_length]; exact Nat.le_refl _, eight_lt' x, fun _ => ⟨G, 0, rfl, Nat.ne_of_lt HF.out.lt, fun i hi => by rw [Nat.zero_add]; exact HF.out.cell_is (by rw [List.getElem?_toArray]; exact bcells_get _ i hi)⟩⟩, by have := HKR.out; rwa [HG.out] at this⟩
end Go.Proofs.YtknfbccbdiidjaaGreatDoor
