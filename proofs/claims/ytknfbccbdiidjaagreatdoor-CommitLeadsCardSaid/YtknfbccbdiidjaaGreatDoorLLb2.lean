/- append onto a row of the call's own: besides where the new row lies: what the old row held it holds. -/
import Derived.Test.YtknfbccbdiidjaaGreatDoorWu
import Derived.Deep.AppendLies
import Derived.Test.YtknfbccbdiidjaaGreatDoorLPf3
import Derived.Test.YtknfbccbdiidjaaGreatDoorLTv6
namespace Go.Proofs.YtknfbccbdiidjaaGreatDoor
set_option linter.unusedVariables false
set_option linter.unusedSimpArgs false

section
section
variable {P : Program} (w : World)
/-- THE LAW: as run_append_lies, and the cells of the old row are as they were. -/
theorem run_append_stays (t ty : TypeId) (base : Nat) (e : TypeId) (i : TypeInfo) (z : Value) (size bytes : Nat) (ht : P.underlying t = some (.slice e)) (hi : P.info? e = some i) (hz : i.zero = some z)
    (hsize : i.size = size) (hby : i.bytes = bytes) (hzs : z.cells.size = size) (hsz : 0 < size)
    (v : Value) (n : Nat) (xs : List Value) (hown : w.ownsRow base e size v n xs)
    (ad : Addr) (m c : Nat) (news : List Value) (hl : news.length = m * size) (hnews : ∀ j u, news[j]? = some u → w.cell? (ad.add j) = some u) (h1 : ∀ u ∈ news, u.oneCell' = true)
    (hm : 0 < m) (h63 : n + m ≤ maxLen) (hbytes : (n + m) * bytes ≤ 140737488355328) (hbase : base ≤ w.heap.size) (H : Nat) (hH : w.heap.size = H) :
    ∃ g cap w', (Builtin.append_ #[t, t] ty #[v, .slice (some ad) m c]).run P w = .ok (.slice (some ⟨g, 0, none⟩) (n + m) cap) w' ∧
      w'.ownsRow base e size (.slice (some ⟨g, 0, none⟩) (n + m) cap) (n + m) (xs ++ news) ∧ w.grownBy w' v.ownBlock ∧ (v.ownBlock = some g ∨ g = H) ∧ g < w'.heap.size ∧
      (∀ b, v.ownBlock = some b → ∀ (j : Nat) u, xs[j]? = some u → w'.cell? ⟨b, j, none⟩ = some u) := by
  subst hsize
  subst hby
  have hsmall : n + m ≤ 9223372036854775807 := by simp only [maxLen] at h63; omega
  have hlen : (xs ++ news).length = (n + m) * i.size := by rw [List.length_append, hown.1, hl, Nat.add_mul]
  have grown : ∀ (old : Nat), old < n + m → ∀ (row : Option Nat),
      (w.drew.alloc (.cells (xs.toArray ++ news.toArray ++ Builtin.zeroCells z.cells (grownCap w (n + m) old e - (n + m))) e)).ownsRow base e i.size
        (.slice (some ⟨w.heap.size, 0, none⟩) (n + m) (grownCap w (n + m) old e)) (n + m) (xs ++ news) ∧
      w.grownBy (w.drew.alloc (.cells (xs.toArray ++ news.toArray ++ Builtin.zeroCells z.cells (grownCap w (n + m) old e - (n + m))) e)) row := by
    intro old ho row
    have hge := grownCap_ge w (n + m) old e
    have hcm : grownCap w (n + m) old e ≤ maxLen := grownCap_le_maxLen w (n + m) old e h63
    refine ⟨⟨hlen, .inr ⟨w.heap.size, _, _, rfl, hbase, heap_alloc_new w.drew _, hge, hcm, ?_, ?_⟩⟩, ⟨rfl, rfl, rfl, by simp, fun k hk _ => by first | exact heap_alloc_old w.drew _ k hk | exact heap_alloc_old w.drew _ hk⟩⟩
    · simp only [Array.size_append, List.size_toArray, size_zeroCells, hzs, hown.1, hl, ← Nat.add_mul]
      congr 1
      omega
    · simp only [Array.toList_append, List.append_assoc]
      rw [← List.append_assoc, ← hlen]
      exact List.take_left
  rcases hown.2 with ⟨rfl, rfl⟩ | ⟨g, cap, cur, rfl, hbg, hg, hnc, hcm, hcs, htake⟩
  · have hx : xs = [] := List.eq_nil_of_length_eq_zero (by simpa using hown.1)
    subst hx
    have hr := run_append_nil (P := P) w t ty e i z ht hi hz ad m c news hl hnews (by omega) (by omega) (by have hb := hbytes; simp only [Nat.zero_add] at hb; omega)
    have hgr := grown 0 (by omega) (Value.ownBlock (.slice none 0 0))
    simp only [Nat.zero_add, List.nil_append, Array.empty_append] at hgr ⊢
    exact ⟨_, _, _, hr, hgr.1, hgr.2, .inr hH, by simp, fun b hb => by simp [Value.ownBlock] at hb⟩
  · by_cases hroom : n + m ≤ cap
    · have hfit : n * i.size + news.length ≤ cur.size := by rw [hl, hcs, ← Nat.add_mul]; exact Nat.mul_le_mul_right _ hroom
      have hr := run_append_room (P := P) w t ty e i ht hi g n cap cur hg ad m c news hl hnews h1 hroom hfit
      have hown' : (w.setRow g (cur.toList.take (n * i.size) ++ news ++ cur.toList.drop (n * i.size + news.length)).toArray).ownsRow base e i.size (.slice (some ⟨g, 0, none⟩) (n + m) cap) (n + m) (xs ++ news) := by
        refine ⟨hlen, .inr ⟨g, cap, _, rfl, hbg, setRow_heap w g cur _ e _ hg, hroom, hcm, ?_, ?_⟩⟩
        · simp only [List.size_toArray, List.length_append, List.length_take, List.length_drop, Array.length_toList]
          omega
        · rw [htake, ← hlen]
          exact List.take_left
      have hglt : g < w.heap.size := by
        rcases Nat.lt_or_ge g w.heap.size with h | h
        · exact h
        · rw [Array.getElem?_eq_none h] at hg; cases hg
      refine ⟨g, cap, _, hr, hown', ⟨rfl, rfl, rfl, by simp, fun k _ hk => setRow_other w g k _ (fun e => hk (by simp [Value.ownBlock, e]))⟩, .inl rfl, by simpa using hglt, fun b hb j u hu => ?_⟩
      obtain rfl : g = b := by simpa [Value.ownBlock] using hb
      have := hown'.cells (g := g) rfl j u (by rw [List.getElem?_append_left (List.getElem?_eq_some_iff.1 hu).1]; exact hu)
      have hadd : (⟨g, 0, none⟩ : Addr).add j = ⟨g, j, none⟩ := by unfold Addr.add; split <;> simp_all
      rwa [hadd] at this
    · have holds : ∀ j u, xs[j]? = some u → w.cell? ((⟨g, 0, none⟩ : Addr).add j) = some u := hown.cells (g := g) rfl
      have hr := run_append_grow (P := P) w t ty e i z ht hi hz ⟨g, 0, none⟩ n cap xs hown.1 holds ad m c news hl hnews (by omega) (by omega) (growslice_fits (by omega) hbytes)
      have hgr := grown cap (by omega) none
      have hgr' := grown cap (by omega) (Value.ownBlock (.slice (some ⟨g, 0, none⟩) n cap))
      refine ⟨_, _, _, hr, hgr'.1, hgr'.2, .inr hH, by simp, fun b hb j u hu => ?_⟩
      obtain rfl : g = b := by simpa [Value.ownBlock] using hb
      have hadd : (⟨g, 0, none⟩ : Addr).add j = ⟨g, j, none⟩ := by unfold Addr.add; split <;> simp_all
      have := holds j u hu
      rw [hadd] at this
      exact hgr.2.cell this (by simp)
/-- at a step of a region that draws. -/
theorem step_append_stays {w : World} {ops : Array Oper} {o : Oper} {a : Act} {K : Act → World → Prop} {Q : Exit → Act → World → Prop} {E : Prop} (hgd : o.guard = none) (s x : Operand) (t : TypeId)
    (ho : o.op = .call { callee := .builtin .append, args := #[s, x], argTypes := #[t, t] })
    (base : Nat) (e : TypeId) (i : TypeInfo) (z : Value) (size bytes : Nat) (ht : P.underlying t = some (.slice e)) (hi : P.info? e = some i) (hz : i.zero = some z)
    (hsize : i.size = size) (hby : i.bytes = bytes) (hzs : z.cells.size = size) (hsz : 0 < size)
    (v : Value) (n : Nat) (xs : List Value) (hs : a.eval s = v) (hown : w.ownsRow base e size v n xs)
    (ad : Addr) (m c : Nat) (news : List Value) (hx : a.eval x = .slice (some ad) m c) (hl : news.length = m * size) (hnews : ∀ j u, news[j]? = some u → w.cell? (ad.add j) = some u) (h1 : ∀ u ∈ news, u.oneCell' = true)
    (hm : 0 < m) (h63 : n + m ≤ maxLen) (hbytes : (n + m) * bytes ≤ 140737488355328) (hbase : base ≤ w.heap.size) (H : Nat) (hH : w.heap.size = H)
    (h : ∀ g cap w', w'.ownsRow base e size (.slice (some ⟨g, 0, none⟩) (n + m) cap) (n + m) (xs ++ news) → w.grownBy w' v.ownBlock → (v.ownBlock = some g ∨ g = H) → g < w'.heap.size →
      (∀ b, v.ownBlock = some b → ∀ (j : Nat) u, xs[j]? = some u → w'.cell? ⟨b, j, none⟩ = some u) → K (a.put o.dst (.slice (some ⟨g, 0, none⟩) (n + m) cap)) w') :
    if Region.wanted o (yielded ops a.tmps) = true then Oper.wp P o a w K Q else E := by
  have hw : Region.wanted o (yielded ops a.tmps) = true := by simp [Region.wanted, hgd]
  rw [if_pos hw]
  obtain ⟨g, cap, w', hr, h2, h3, h4, h5, h6⟩ := run_append_stays (P := P) w t o.type base e i z size bytes ht hi hz hsize hby hzs hsz v n xs hown ad m c news hl hnews h1 hm h63 hbytes hbase H hH
  unfold Oper.wp execOp
  simp only [ho, resolve, invoke, builtin, Sem.run_bind, Sem.run_pure, Result.andThen_ok, List.map_toArray, List.map_cons, List.map_nil, hs, hx, hr]
  exact h g cap w' h2 h3 h4 h5 h6
end
end
/- The walk of Check: whether a leaf stands at a key of the tree with a root. -/
open Go.ChangeShapes Go.WideShapes Go.ChangeAt Go.RowKit Go.Maps

theorem pfAt_errs {K s0 : List Wd} {bare : Nat → Bool} {key : List Nat} {nodes : List Nd} {n0 : Nd} : ∀ (h : Nat) {e : Nat}, pfAt K s0 bare key nodes n0 h = .error e → e = 10 ∨ e = 20 ∨ e = 21 := by
 intro h
 induction h with
 | zero => intro e he; cases he
 | succ h ih =>
  intro e he
  cases e0 : pfAt K s0 bare key nodes n0 h with
  | error e' => rw [pfAt_err e0 1] at he; cases he; exact ih e0
  | ok p =>
   obtain ⟨m, v⟩ := p
   rw [pfAt_succ h e0] at he
   unfold pfStep pfBr at he
   split at he
   · split at he
     · cases he
     · cases he; exact .inl rfl
   · split at he
     · cases he; exact .inr (.inl rfl)
     · split at he
       · cases he; exact .inr (.inr rfl)
       · split at he
         · cases he
         · cases he; exact .inl rfl
theorem pf_errs {K s0 : List Wd} {bare : Nat → Bool} {key : List Nat} {nodes : List Nd} {n0 : Nd} {e : Nat} (he : pfRoot K s0 bare key nodes n0 = .error e) : e = 10 ∨ e = 20 ∨ e = 21 ∨ e = 24 := by
 unfold pfRoot at he
 cases e0 : pfAt K s0 bare key nodes n0 256 with
 | error e' => rw [e0] at he; cases he; rcases pfAt_errs 256 e0 with h | h | h <;> simp [h]
 | ok p =>
  rw [e0] at he
  change (if p.2 < nodes.length then (Except.error 24 : Except Nat Nd) else .ok p.1) = .error e at he
  split at he
  · cases he; simp
  · cases he

/- Parts of Make: bits that are set, nodes that are gathered. -/

theorem bareB_test (bb : List Nat) (h : Nat) : bareB bb h = (bb.getD (h / 8) 0).testBit (h % 8) := by
 unfold bareB
 rw [Nat.testBit_eq_decide_div_mod_eq]
theorem bare_set {bb : List Nat} (hb : IsHash bb) (k : Nat) (hk : k < 256) :
   IsHash (bb.set (k / 8) (bb.getD (k / 8) 0 ||| 2 ^ (k % 8))) ∧ ∀ h, h < 256 → bareB (bb.set (k / 8) (bb.getD (k / 8) 0 ||| 2 ^ (k % 8))) h = (bareB bb h || decide (h = k)) := by
 have hy : bb.getD (k / 8) 0 ||| 2 ^ (k % 8) < 256 := by
   have h1 := hb.byte (k / 8) (by omega)
   have h2 : 2 ^ (k % 8) < 2 ^ 8 := Nat.pow_lt_pow_right (by decide) (Nat.mod_lt _ (by decide))
   exact Nat.or_lt_two_pow (n := 8) h1 h2
 refine ⟨⟨by rw [List.length_set, hb.1], fun x hx => ?_⟩, fun h hh => ?_⟩
 · rcases List.mem_or_eq_of_mem_set hx with e | e
   · exact hb.2 x e
   · rw [e]; exact hy
 · rw [bareB_test, bareB_test]
   by_cases e : h / 8 = k / 8
   · rw [e, List.getD_eq_getElem?_getD, List.getElem?_set_self (by rw [hb.1]; omega), Option.getD_some, Nat.testBit_or, Nat.testBit_two_pow]
     congr 1
     rw [decide_eq_decide]
     omega
   · rw [List.getD_eq_getElem?_getD, List.getElem?_set_ne (by omega), ← List.getD_eq_getElem?_getD, decide_eq_false (show ¬ h = k from fun q => e (by rw [q])), Bool.or_false]
theorem bareB_zero (h : Nat) (hh : h < 256) : bareB (List.replicate 32 0) h = false := by
 rw [bareB_test, List.getD_eq_getElem?_getD, List.getElem?_replicate, if_pos (by omega), Option.getD_some, Nat.zero_testBit]
theorem flatN_get : ∀ (xs : List Nd), (∀ x ∈ xs, IsHash x.h) → ∀ (i j : Nat) x, xs[i]? = some x → j < 33 → (xs.flatMap ndV)[i * 33 + j]? = (ndV x)[j]?
 | [], _, i, j, x, hi, _ => by cases hi
 | y :: ys, hh, 0, j, x, hi, hj => by
  cases hi
  rw [List.flatMap_cons, Nat.zero_mul, Nat.zero_add, List.getElem?_append_left (by rw [ndV_len (hh _ (List.mem_cons_self ..))]; exact hj)]
 | y :: ys, hh, i + 1, j, x, hi, hj => by
  have hl := ndV_len (hh y (List.mem_cons_self ..))
  rw [List.flatMap_cons, List.getElem?_append_right (by rw [hl]; omega), hl, show (i + 1) * 33 + j - 33 = i * 33 + j by omega]
  exact flatN_get ys (fun z hz => hh z (List.mem_cons_of_mem _ hz)) i j x hi hj
theorem own_nodes {w : World} {base : Nat} {a : Option Addr} {n c : Nat} {xs : List Nd} (h : w.ownsRow base 30 33 (.slice a n c) n (xs.flatMap ndV)) (hl : xs.length = n) (hh : ∀ x ∈ xs, IsHash x.h) (hs : ∀ x ∈ xs, x.s < 18446744073709551616) :
   NodesAt w a n xs ∧ (0 < n → ∀ A, a = some A → base ≤ A.block) := by
 refine ⟨⟨hl, hh, hs, fun hn => ?_⟩, fun hn A hA => ?_⟩
 · obtain ⟨b, cap, cur, e, hB, Aa, h1, h2, h3, h4⟩ := own_open h hn
   injection e with e1 e2 e3
   refine ⟨b, 0, e1, Aa.lt, fun i x hx j u hu => ?_⟩
   have hj := (List.getElem?_eq_some_iff.1 hu).1
   rw [ndV_len (hh x (List.mem_of_getElem? hx))] at hj
   have hi := (List.getElem?_eq_some_iff.1 hx).1
   have hlt : i * 33 + j < n * 33 := by
    have : (i + 1) * 33 ≤ n * 33 := Nat.mul_le_mul_right 33 (by omega)
    omega
   rw [Nat.zero_add]
   exact Aa.cell_is (by rw [h4 _ hlt, flatN_get xs hh i j x hx hj]; exact hu)
 · obtain ⟨b, cap, cur, e, hB, Aa, h1, h2, h3, h4⟩ := own_open h hn
   injection e with e1 e2 e3
   rw [hA] at e1
   injection e1 with e1
   rw [e1]; exact hB
theorem zero_proof : ∃ Z : Array Value, (∀ w, (zeroValue 39).run Tryz.prog w = .ok (.agg Z) w) ∧ Z.size = 33 ∧ ¬ Z = #[] ∧ Z = (pcells (List.replicate 32 0) none 0 0).toArray := by
 have hs : (pcells (List.replicate 32 0) none 0 0).toArray.size = 33 := by kernel_rfl
 exact ⟨_, fun w => by kernel_rfl, hs, fun e => (by rw [e] at hs; cases hs), rfl⟩
theorem or_bit (x j : Nat) (hx : x < 256) (hj : j < 8) : bits BinOp.or .u8 (x : Int) ((2 ^ j : Nat) : Int) = ((x ||| 2 ^ j : Nat) : Int) := by
 have h2 : 2 ^ j < 2 ^ 8 := Nat.pow_lt_pow_right (by decide) hj
 have hy : x ||| 2 ^ j < 256 := Nat.or_lt_two_pow (n := 8) hx h2
 unfold bits
 have e : (BitVec.ofInt IntKind.u8.bits (x : Int) ||| BitVec.ofInt IntKind.u8.bits ((2 ^ j : Nat) : Int)).toNat = x ||| 2 ^ j := by
  show (BitVec.ofInt 8 (x : Int) ||| BitVec.ofInt 8 ((2 ^ j : Nat) : Int)).toNat = x ||| 2 ^ j
  rw [BitVec.ofInt_natCast, BitVec.ofInt_natCast, BitVec.toNat_or, BitVec.toNat_ofNat, BitVec.toNat_ofNat, Nat.mod_eq_of_lt hx, Nat.mod_eq_of_lt h2]
 simp only [e]
 have hw : ∀ b : Int, 0 ≤ b → b < 256 → IntKind.u8.wrap b = b := fun b h0 h1 => by
  simp [IntKind.wrap, IntKind.bits, IntKind.signed]; omega
 exact hw _ (by omega) (by omega)
theorem pcells_set {bb : List Nat} (hb : IsHash bb) (a : Option Addr) (n c i y : Nat) (hi : i < 32) : ((pcells bb a n c).toArray.setIfInBounds i (.int .u8 (y : Int))) = (pcells (bb.set i y) a n c).toArray := by
 rw [List.setIfInBounds_toArray]
 congr 1
 unfold pcells bcells
 rw [List.set_append_left _ _ (by rw [List.length_map, hb.1]; exact hi), List.map_set]
theorem pcells_put {bb : List Nat} (hb : IsHash bb) (a a' : Option Addr) (n c n' c' : Nat) : ((pcells bb a n c).toArray.setIfInBounds 32 (.slice a' n' c')) = (pcells bb a' n' c').toArray := by
 rw [List.setIfInBounds_toArray]
 congr 1
 unfold pcells
 rw [List.set_append_right _ _ (by rw [bcells_length, hb.1]; exact Nat.le_refl _), bcells_length, hb.1]
 rfl

/- What the head of the proofs' laws asks, in plain lists. -/

theorem beside_own (t : Lf) (h : Nat) : besideT [t] t.k h = [] := by
 unfold besideT
 apply List.filter_eq_nil_iff.2
 intro x hx
 have hx2 : x = t := by
  obtain ⟨p, hp⟩ := own_sub [t] t.k (255 - h)
  rw [hp] at hx
  exact List.mem_singleton.1 (List.mem_filter.1 hx).1
 have hb := bitAt_lt t.k h
 rw [hx2, decide_eq_true_eq]
 omega
theorem bes_own (K s0 : List Wd) (t : Lf) (h : Nat) : besF K s0 [t] t.k h = emptyNd K s0 h := by
 unfold besF
 rw [beside_own, part_nil]
theorem bareF_own (K s0 : List Wd) (t : Lf) (h : Nat) : bareF K s0 (besF K s0 [t] t.k) h = true := by
 unfold bareF
 rw [bes_own]
 exact ndSame_iff.2 rfl
theorem nodesF_all {K s0 : List Wd} {f : Nat → Nd} : ∀ n, (∀ h, h < n → bareF K s0 f h = true) → nodesF K s0 f n = []
 | 0, _ => rfl
 | n + 1, hh => by
  rw [nodesF_succ, if_pos (hh n (Nat.lt_succ_self n)), nodesF_all n (fun h e => hh h (Nat.lt_succ_of_lt e))]; rfl

/- A proof as the reference has it. -/
/- Leaves of layer 7: their cells; place, part, Check walked. -/

structure LeafT where
 id : List Nat
 am : Nat
 ow : List Nat
 pl : Int
 sp : Nd
def LeafT.cells (l : LeafT) : List Value := bcells l.id ++ (.int .u64 (l.am : Int) :: (bcells l.ow ++ (.int .i64 l.pl :: ndV l.sp)))
structure LeafT.ok (l : LeafT) : Prop where
 id : IsHash l.id
 am : l.am < 18446744073709551616
 ow : IsHash l.ow
 lo : -9223372036854775808 ≤ l.pl
 hi : l.pl ≤ 9223372036854775807
 sp : IsHash l.sp.h
 ss : l.sp.s < 18446744073709551616
theorem LeafT.len {l : LeafT} (h : l.ok) : l.cells.length = 99 := by
 simp [LeafT.cells, bcells_length, h.id.1, h.ow.1, ndV_len h.sp]
theorem LeafT.at_id {l : LeafT} (h : l.ok) (i : Nat) (hi : i < 32) : l.cells[i]? = some (.int .u8 (l.id.getD i 0 : Nat)) := by
 unfold LeafT.cells
 rw [List.getElem?_append_left (by rw [bcells_length, h.id.1]; exact hi)]
 exact bcells_get _ i (by rw [h.id.1]; exact hi)
theorem LeafT.at_am {l : LeafT} (h : l.ok) : l.cells[32]? = some (.int .u64 (l.am : Int)) := by
 unfold LeafT.cells
 rw [List.getElem?_append_right (by rw [bcells_length, h.id.1]; exact Nat.le_refl _), bcells_length, h.id.1]; rfl
theorem LeafT.tail {l : LeafT} (h : l.ok) (i : Nat) : l.cells[33 + i]? = (bcells l.ow ++ (.int .i64 l.pl :: ndV l.sp))[i]? := by
 unfold LeafT.cells
 rw [List.getElem?_append_right (by rw [bcells_length, h.id.1]; omega), bcells_length, h.id.1, show 33 + i - 32 = i + 1 by omega, List.getElem?_cons_succ]
theorem LeafT.at_ow {l : LeafT} (h : l.ok) (i : Nat) (hi : i < 32) : l.cells[33 + i]? = some (.int .u8 (l.ow.getD i 0 : Nat)) := by
 rw [LeafT.tail h, List.getElem?_append_left (by rw [bcells_length, h.ow.1]; exact hi)]
 exact bcells_get _ i (by rw [h.ow.1]; exact hi)
theorem LeafT.at_pl {l : LeafT} (h : l.ok) : l.cells[65]? = some (.int .i64 l.pl) := by
 rw [show 65 = 33 + 32 from rfl, LeafT.tail h, List.getElem?_append_right (by rw [bcells_length, h.ow.1]; exact Nat.le_refl _), bcells_length, h.ow.1]; rfl
theorem LeafT.at_sp {l : LeafT} (h : l.ok) (i : Nat) : l.cells[66 + i]? = (ndV l.sp)[i]? := by
 rw [show 66 + i = 33 + (33 + i) by omega, LeafT.tail h, List.getElem?_append_right (by rw [bcells_length, h.ow.1]; omega), bcells_length, h.ow.1, show 33 + i - 32 = i + 1 by omega, List.getElem?_cons_succ]
theorem LeafT.at_ss {l : LeafT} (h : l.ok) : l.cells[98]? = some (.int .u64 (l.sp.s : Int)) := by
 rw [show 98 = 66 + 32 from rfl, LeafT.at_sp h, ndV, ncells, List.getElem?_append_right (by rw [bcells_length, h.sp.1]; exact Nat.le_refl _), bcells_length, h.sp.1]; rfl
theorem LeafT.one (l : LeafT) : l.cells.toArray.all (·.oneCell') = true := by
 rw [Array.all_eq_true']
 intro x hx
 have hx2 : x ∈ l.cells := by simpa using hx
 unfold LeafT.cells at hx2
 simp only [List.mem_append, List.mem_cons] at hx2
 rcases hx2 with h | rfl | h | rfl | h
 · obtain ⟨y, _, rfl⟩ := List.mem_map.1 h; rfl
 · rfl
 · obtain ⟨y, _, rfl⟩ := List.mem_map.1 h; rfl
 · rfl
 · exact ncells_one _ _ x h
def leafBad (l : LeafT) : Bool := decide (l.am = 0 ∨ l.pl < 0 ∨ 256 ≤ l.pl ∨ l.sp.s < l.am)
def leafE (l : LeafT) : Int := if leafBad l = true then 1 else 0
set_option maxRecDepth 100000 in
theorem leafCheck_is (w : World) (l : LeafT) (h : l.ok) : Calls Tryz.prog 15 #[.agg l.cells.toArray] w fun e w' => e = .returned (.int .i64 (leafE l)) ∧ w' = w.alloc (.cells l.cells.toArray 32) := by
 have hx := Has.new w 32 l.cells.toArray
 have c32 := hx.cell_is (i := 32) (by rw [List.getElem?_toArray]; exact LeafT.at_am h)
 have c65 := hx.cell_is (i := 65) (by rw [List.getElem?_toArray]; exact LeafT.at_pl h)
 have c98 := hx.cell_is (i := 98) (by rw [List.getElem?_toArray]; exact LeafT.at_ss h)
 have HE := Hh (show leafBad l = decide (l.am = 0 ∨ l.pl < 0 ∨ 256 ≤ l.pl ∨ l.sp.s < l.am) from rfl)
 have h1 := h.lo
 have h2 := h.hi
 obtain ⟨am, ham⟩ : ∃ x, x = l.am := ⟨_, rfl⟩
 obtain ⟨pl, hpl⟩ : ∃ x, x = l.pl := ⟨_, rfl⟩
 obtain ⟨ss, hss⟩ : ∃ x, x = l.sp.s := ⟨_, rfl⟩
 rw [← ham] at c32
 rw [← hpl] at c65 h1 h2
 rw [← hss] at c98
 rw [← ham, ← hpl, ← hss] at HE
 have Aa := Hh (show leafE l = if leafBad l = true then 1 else 0 from rfl)
 obtain ⟨le, hle⟩ : ∃ x, x = leafE l := ⟨_, rfl⟩
 rw [← hle] at Aa ⊢
 generalize l.cells = LC at c32 c65 c98 ⊢
 clear ham hpl hss h hle hx
 by_cases a1 : am = 0
 · have b1 : ((am : Int) == 0) = true := by rw [beq_iff_eq]; omega
   have hr : le = 1 := by rw [Aa.o, HE.o, if_pos (decide_eq_true (.inl a1))]
   have HR := Hh hr
   clear hr a1
   go_enter Tryz.func15, Tryz.ntmps15
   go_wp2_with fail
   go_ret
   exact ⟨ret_int HR.o.symm, rfl⟩
 have b1 : ((am : Int) == 0) = false := by rw [beq_eq_false_iff_ne]; omega
 by_cases a2 : pl < 0
 · have hr : le = 1 := by rw [Aa.o, HE.o, if_pos (decide_eq_true (.inr (.inl a2)))]
   have HR := Hh hr
   clear hr
   go_enter Tryz.func15, Tryz.ntmps15
   go_wp2_with fail
   go_ret
   exact ⟨ret_int HR.o.symm, rfl⟩
 by_cases a3 : 256 ≤ pl
 · have hr : le = 1 := by rw [Aa.o, HE.o, if_pos (decide_eq_true (.inr (.inr (.inl a3))))]
   have HR := Hh hr
   clear hr
   go_enter Tryz.func15, Tryz.ntmps15
   go_wp2_with fail
   go_ret
   exact ⟨ret_int HR.o.symm, rfl⟩
 by_cases a4 : ss < am
 · have a5 : (ss : Int) < (am : Int) := by omega
   have hr : le = 1 := by rw [Aa.o, HE.o, if_pos (decide_eq_true (.inr (.inr (.inr a4))))]
   have HR := Hh hr
   clear hr
   go_enter Tryz.func15, Tryz.ntmps15
   go_wp2_with fail
   go_ret
   exact ⟨ret_int HR.o.symm, rfl⟩
 have a5 : ¬ (ss : Int) < (am : Int) := by omega
 have hr : le = 0 := by
   rw [Aa.o, HE.o, if_neg]
   rw [decide_eq_true_eq]
   rintro (h | h | h | h)
   · exact a1 h
   · exact a2 h
   · exact a3 h
   · exact a4 h
 have HR := Hh hr
 clear hr
 go_enter Tryz.func15, Tryz.ntmps15
 go_wp2_with fail
 go_ret
 exact ⟨ret_int HR.o.symm, rfl⟩
def plS : ByteArray := { data := #[109, 111, 110, 101, 121, 101, 114, 47, 112, 108, 97, 99, 101] }
def placeK (K s0 : List Wd) (n : Nat) : List Nat := tagD K s0 plS [n]
theorem tagD_hash (K s0 : List Wd) (hs : s0.length = 8) (s : ByteArray) (m : List Nat) : IsHash (tagD K s0 s m) := digest_hash K s0 hs _
theorem partsN_one {w w3 : World} {g pg : Nat} {v : Value} {p : List Nat} (hc : w3.cell? ⟨pg, 0, none⟩ = some v) (hb : Bytes w3 g v p) (hne : pg ≠ g) : PartsN w3 g (.slice (some ⟨pg, 0, none⟩) 1 1) [p] :=
 ⟨_, _, rfl, fun _ => ⟨pg, 0, rfl, hne, fun i hi => by
  have hi0 : i = 0 := by simpa using hi
  subst hi0
  exact ⟨v, hc, hb⟩⟩⟩
set_option maxRecDepth 100000 in
set_option maxHeartbeats 2000000 in
theorem place_is (K s0 : List Wd) (w : World) (hT : Tabs K s0 w) (n : Nat) (hn : n < 256) : Calls Tryz.prog 99 #[.int .i64 (n : Int)] w fun e w' => e = .returned (arr (placeK K s0 n)) ∧ Below w.heap.size w w' := by
 obtain ⟨zk, hzk, hzs, hzn⟩ := zero_hashT
 have s1 : ∀ (x : World) o, (x.alloc o).heap.size = x.heap.size + 1 := fun x o => by simp
 obtain ⟨W3, hW3⟩ : ∃ W, W = (((w.alloc (.cells zk 27)).alloc (.cells (tag0 plS).toArray 178)).alloc (.cells #[.int .u8 (n : Int)] 5)).alloc (.cells #[.slice (some ⟨w.heap.size + 1 + 1, 0, none⟩) 1 1] 48) := ⟨_, rfl⟩
 have h2 : Has W3 w.heap.size 27 zk := by rw [hW3]; exact (((Has.new w _ _).alloc _).alloc _).alloc _
 have hg : Has W3 (w.heap.size + 1) 178 (tag0 plS).toArray := by
  rw [hW3]
  have := Has.new (w.alloc (.cells zk 27)) 178 (tag0 plS).toArray
  rw [s1] at this
  exact (this.alloc _).alloc _
 have hn3 : Has W3 (w.heap.size + 1 + 1) 5 #[.int .u8 (n : Int)] := by
  rw [hW3]
  have := Has.new ((w.alloc (.cells zk 27)).alloc (.cells (tag0 plS).toArray 178)) 5 #[.int .u8 (n : Int)]
  rw [s1, s1] at this
  exact this.alloc _
 have hp3 : Has W3 (w.heap.size + 1 + 1 + 1) 48 #[.slice (some ⟨w.heap.size + 1 + 1, 0, none⟩) 1 1] := by
  rw [hW3]
  have := Has.new (((w.alloc (.cells zk 27)).alloc (.cells (tag0 plS).toArray 178)).alloc (.cells #[.int .u8 (n : Int)] 5)) 48 #[.slice (some ⟨w.heap.size + 1 + 1, 0, none⟩) 1 1]
  rw [s1, s1, s1] at this
  exact this
 have hbe : Below w.heap.size w W3 := by
  rw [hW3]
  exact ((((Below.refl _ _).alloc (Nat.le_refl _) _).alloc (by simp) _).alloc (by simp; omega) _).alloc (by simp; omega) _
 have hby : Bytes W3 (w.heap.size + 1) (.slice (some ⟨w.heap.size + 1 + 1, 0, none⟩) 1 1) [n] := ⟨_, _, rfl, Nat.le_refl _, (fun z hz => by rw [List.mem_singleton.1 hz]; exact hn), fun _ => ⟨w.heap.size + 1 + 1, 0, rfl, by omega, fun i hi => by
  obtain rfl : i = 0 := Nat.lt_one_iff.1 hi
  exact hn3.cell_is rfl⟩⟩
 have Ae := hT.low
 have Aa := tagSum_is K s0 W3 (hT.below hbe hT.low) (w.heap.size + 1) plS (by decide) (by omega) hg _ [[n]] (partsN_one (w := w) (hp3.cell_is rfl) hby (by omega)) (by simp) (by simp)
 have hpk : tagD K s0 plS [[n]].flatten = placeK K s0 n := rfl
 rw [hpk] at Aa
 have hph : IsHash (placeK K s0 n) := tagD_hash K s0 hT.len _ _
 obtain ⟨D, hD⟩ : ∃ D, D = placeK K s0 n := ⟨_, rfl⟩
 rw [← hD] at Aa hph ⊢
 unfold arr at Aa
 have hnw : IntKind.u8.wrap (n : Int) = (n : Int) := by rw [IntKind.wrap_u8]; omega
 have SZ := Hh (show (Tryz.prog.info? 27).map (·.size) = some (bcells D).toArray.size by rw [List.size_toArray, bcells_length, hph.1]; kernel_rfl)
 have Aj := Hh (show zk.size = (bcells D).toArray.size by rw [hzs, List.size_toArray, bcells_length, hph.1])
 have Ad := Hh Aa
 have H2 := Hh h2
 have Ag := Hh hbe
 have Ai := Hh hW3
 clear Aa h2 hg hn3 hp3 hbe hby hpk hph hD hzs hW3 Ae
 go_enter Tryz.func99, Tryz.ntmps99
 go_wp2_with fail
 refine (newTag_is plS _).mono ?_
 rintro _ w2 ⟨rfl, hw2⟩
 have hsz : (w.alloc (.cells zk 27)).heap.size = w.heap.size + 1 := by simp
 subst hw2
 try rw [hsz]
 go_wp2_with fail
 rw [← Ai.o]
 refine Ad.o.mono ?_
 rintro _ w4 ⟨rfl, hk4⟩
 have Af := Hh (H2.o.kept hk4 (by omega))
 have Ab : Has (w4.setRow w.heap.size (bcells D).toArray) w.heap.size 27 (bcells D).toArray := Af.o.setRow
 have hbf : Below w.heap.size w (w4.setRow w.heap.size (bcells D).toArray) := by
  have hb4 := Ag.o.trans (hk4.below Ag.o.size (fun k e => by have e' : k = w.heap.size + 1 := e; omega))
  exact hb4.trans ((kept_setRow (g := w.heap.size) w4 (bcells D).toArray).below hb4.size (fun k e => by have e' : k = w.heap.size := e; omega))
 have Ac := Hh Ab
 have Ah := Hh hbf
 clear Ab hbf hk4 hsz
 go_wp2_with (refine wpList_store_row rfl 27 (.tmp 2) (.tmp 8) rfl w.heap.size (bcells D).toArray rfl rfl 27 _ Af.o SZ.o Aj.o (all_oneCell_toArray (bcells_one D)) ?_)
 refine bodyPost_ret (results_cell_row rfl _ _ w.heap.size 27 (bcells D).toArray (0, 0) _ rfl Ac.o Tryz.underlying27 rfl SZ.o) rfl ?_
 exact ⟨rfl, Ah.o⟩
/- The plain law of a leaf's bytes: back and forth. -/

def plB (l : LeafT) : Nat := (l.pl % 256).toNat
theorem plB_lt (l : LeafT) : plB l < 256 := by unfold plB; omega
def recsOf (l : LeafT) : List Rec := [⟨0, l.id⟩, ⟨2, eight l.am⟩, ⟨4, l.ow⟩, ⟨6, [plB l]⟩, ⟨8, l.sp.h ++ eight l.sp.s⟩]
theorem eight_len' (x : Nat) : (eight x).length = 8 := by simp [eight]
theorem eight_lt' (x : Nat) : ∀ y ∈ eight x, y < 256 := by rw [eight_big]; exact bigN_lt x 8
theorem recs_len (l : LeafT) (h : l.ok) : (recsOf l).map (fun r => r.v.length) = [32, 8, 32, 1, 40] := by
 simp [recsOf, h.id.1, h.ow.1, h.sp.1, eight_len']
theorem recs_lt (l : LeafT) (h : l.ok) : ∀ r ∈ recsOf l, ∀ y ∈ r.v, y < 256 := by
 intro r hr
 simp only [recsOf, List.mem_cons, List.not_mem_nil, or_false] at hr
 rcases hr with rfl | rfl | rfl | rfl | rfl
 · exact h.id.2
 · exact eight_lt' _
 · exact h.ow.2
 · intro y hy; rw [List.mem_singleton.1 hy]; exact plB_lt l
 · intro y hy
   rcases List.mem_append.1 hy with h1 | h1
   · exact h.sp.2 y h1
   · exact eight_lt' _ y h1
def leafB (l : LeafT) : List Nat := (recsOf l).flatMap recB
theorem recE_at (l : LeafT) (h : l.ok) (k : Nat) (hk : k < 5) : recE (recsOf l) k ((recsOf l).getD k ⟨0, []⟩) = 0 := by
 have e1 := h.id.1
 have e2 := h.ow.1
 have e3 := h.sp.1
 have e4 := eight_len' l.am
 have e5 := eight_len' l.sp.s
 match k, hk with
 | 0, _ => simp [recE, recsOf, e1]
 | 1, _ => simp [recE, recsOf, e4]
 | 2, _ => simp [recE, recsOf, e2]
 | 3, _ => simp [recE, recsOf]
 | 4, _ => simp [recE, recsOf, e3, e5]
theorem tvAt_up5 {rs : List Rec} {k : Nat} {b : List Nat} {r : Rec} (h : tvAt rs k = .ok b) (hr : rs[k]? = some r) (h0 : recE rs k r = 0) : tvAt rs (k + 1) = .ok (b ++ recB r) := by
 rw [tvAt_succ h hr, if_pos h0]
theorem enc_leaf (l : LeafT) (h : l.ok) : tvEnc (recsOf l) = .ok (leafB l) := by
 have t1 := tvAt_up5 (rs := recsOf l) (k := 0) (b := []) rfl rfl (recE_at l h 0 (by decide))
 have t2 := tvAt_up5 t1 rfl (recE_at l h 1 (by decide))
 have t3 := tvAt_up5 t2 rfl (recE_at l h 2 (by decide))
 have t4 := tvAt_up5 t3 rfl (recE_at l h 3 (by decide))
 have t5 := tvAt_up5 t4 rfl (recE_at l h 4 (by decide))
 have hl : (recsOf l).length = 5 := rfl
 unfold tvEnc
 rw [hl, if_neg (by decide), t5]
 simp [leafB, recsOf, List.append_assoc]
theorem leafB_lt (l : LeafT) (h : l.ok) : ∀ y ∈ leafB l, y < 256 := by
 intro y hy
 obtain ⟨r, hr, hy⟩ := List.mem_flatMap.1 hy
 exact recB_lt r (recs_lt l h r hr) y hy
/- The walks of leaf's eight and number. -/

theorem zero_eight : ∃ Z : Array Value, (∀ w, (zeroValue 165).run Tryz.prog w = .ok (.agg Z) w) ∧ Z = (bcells (List.replicate 8 0)).toArray ∧ Z.size = 8 ∧ ¬ Z = #[] := ⟨(bcells (List.replicate 8 0)).toArray, fun w => by kernel_rfl, rfl, by simp [bcells], by decide⟩
set_option maxRecDepth 100000 in
set_option maxHeartbeats 4000000 in
theorem lfEight_is (w : World) (x : Nat) (hx : x < 18446744073709551616) :
  Calls Tryz.prog 85 #[.int .u64 (x : Int)] w fun e w' => ∃ a, e = .returned (.slice a 8 8) ∧ Bytes w' w'.heap.size (.slice a 8 8) (eight x) ∧ Below w.heap.size w w' := by
 obtain ⟨Z, hz, hZ, hZs, hZn⟩ := zero_eight
 have HZ := Hh hZ
 clear hZ hZs
 obtain ⟨G, hG⟩ : ∃ g, g = w.heap.size := ⟨_, rfl⟩
 have HG := Hh hG
 have hal : Has (w.alloc (.cells Z 165)) w.heap.size 165 Z := Has.new _ _ _
 have hbl : Below w.heap.size w (w.alloc (.cells Z 165)) := (Below.refl _ _).alloc (Nat.le_refl _) _
 obtain ⟨W1, hW1⟩ : ∃ v, v = w.alloc (.cells Z 165) := ⟨_, rfl⟩
 rw [← hW1, ← hG] at hal hbl
 have Af := Hh hal
 have Ag := Hh hbl
 have Ae := Hh hW1
 clear hG hal hbl hW1
 go_enter Tryz.func85, Tryz.ntmps85
 go_upto_region 2 with (fail)
 rw [← HG.o, ← Ae.o]
 go_wp2_with fail
 go_loopw [5] (fun i wr => ∃ k : Nat, k ≤ 8 ∧ i = .int .i64 k ∧ Has wr G 165 (splice (bcells (List.replicate 8 0)) 0 ((bcells (eight x)).take k)).toArray ∧ Below G w wr) (fun i _ => 8 - (intOf i).toNat)
 case atStart => exact ⟨0, by omega, rfl, by rw [List.take_zero, splice_nil, ← HZ.o]; exact Af.o, Ag.o⟩
 case round =>
  obtain ⟨k, hk, rfl, hW, hK⟩ := hrel
  have HW := Hh hW
  have Ad := Hh hK
  clear hW hK
  by_cases hlt : k < 8
  · have hf := HW.o.free k
    obtain ⟨v0, hv0⟩ : ∃ v, wr.cell? ⟨G, k, none⟩ = some v := by
     refine ⟨_, HW.o.cell_is (by rw [List.getElem?_toArray]; exact List.getElem?_eq_getElem (by rw [splice_len _ _ _ (by rw [List.length_take, bcells_length, bcells_length, eight_length]; simp; omega)]; rw [bcells_length]; simpa using hlt))⟩
    have Aa := HW.o.set (0 + k) (.int .u8 ((x / 2 ^ (8 * (7 - k)) % 256 : Nat) : Int))
    rw [List.setIfInBounds_toArray, splice_take_set _ _ _ _ _ (by rw [bcells_length, bcells_length, eight_length]; simp) (eight_get x k hlt), Nat.zero_add] at Aa
    have hv : ((x : Int) / 2 ^ (56 - 8 * k) % 256) = ((x / 2 ^ (8 * (7 - k)) % 256 : Nat) : Int) := by
     rw [show 56 - 8 * k = 8 * (7 - k) by omega, show (2 : Int) ^ (8 * (7 - k)) = ((2 ^ (8 * (7 - k)) : Nat) : Int) by simp]
     rfl
    have HV := Hh hv
    have Ac := Hh Aa
    clear Aa hv
    go_wp2
    go_roundw
    case rel => exact ⟨k + 1, by omega, by go_num, by rw [HV.o]; exact Ac.o, Ad.o.setCell (by exact Nat.le_refl _) _⟩
    case measure => simp [intOf]; omega
  · obtain rfl : k = 8 := by omega
    have Ab : Has wr G 165 (bcells (eight x)).toArray := by
     have h1 := HW.o
     rw [List.take_of_length_le (by rw [bcells_length, eight_length]; exact Nat.le_refl _), splice_all _ _ (by rw [bcells_length, bcells_length, eight_length]; simp)] at h1
     exact h1
    have HF := Hh Ab
    clear Ab
    go_wp2
    go_ret
    exact ⟨_, rfl, ⟨_, _, by rw [eight_length], by rw [eight_length]; exact Nat.le_refl _, eight_lt' x, fun _ => ⟨G, 0, rfl, Nat.ne_of_lt HF.o.lt, fun i hi => by rw [Nat.zero_add]; exact HF.o.cell_is (by rw [List.getElem?_toArray]; exact bcells_get _ i hi)⟩⟩, by have := Ad.o; rwa [HG.o] at this⟩
/- A leaf as a part of a transfer; the tree of all that comes of one transfer. -/

theorem boxes_part (w : World) (LC : List Value) : ∃ W1, W1 = (((w.alloc (.cells LC.toArray 32))).alloc (.cells #[.slice none 0 0, .int .u64 0] 50)) ∧
   Has W1 (w.heap.size) 32 LC.toArray ∧ Has W1 (w.heap.size + 1) 50 #[.slice none 0 0, .int .u64 0] ∧ Below w.heap.size w W1 := by
 refine ⟨_, rfl, ?_, ?_, ?_⟩
 · have := Has.new w 32 LC.toArray
   exact (this).alloc _
 · have := Has.new (w.alloc (.cells LC.toArray 32)) 50 #[.slice none 0 0, .int .u64 0]
   exact (by simpa using this : Has _ (w.heap.size + 1) _ _)
 · exact ((Below.refl _ _).alloc (Nat.le_refl _) _).alloc (by simp) _
theorem leaf_bytes {w : World} {B : Nat} {l : LeafT} (hl : l.ok) (h : Has w B 32 l.cells.toArray) (g : Nat) (hg : w.heap.size ≤ g) :
   Bytes w g (.slice (some ⟨B, 0, none⟩) 32 32) l.id ∧ Bytes w g (.slice (some ⟨B, 33, none⟩) 32 32) l.ow := by
 have hb := h.lt
 refine ⟨⟨_, _, by rw [hl.id.1], by rw [hl.id.1]; exact Nat.le_refl _, hl.id.2, fun _ => ⟨B, 0, rfl, by omega, fun i hi => ?_⟩⟩, ⟨_, _, by rw [hl.ow.1], by rw [hl.ow.1]; exact Nat.le_refl _, hl.ow.2, fun _ => ⟨B, 33, rfl, by omega, fun i hi => ?_⟩⟩⟩
 · rw [Nat.zero_add]
   exact h.cell_is (by rw [List.getElem?_toArray]; exact LeafT.at_id hl i (by rw [hl.id.1] at hi; exact hi))
 · exact h.cell_is (by rw [List.getElem?_toArray]; exact LeafT.at_ow hl i (by rw [hl.ow.1] at hi; exact hi))
set_option maxRecDepth 100000 in
set_option maxHeartbeats 4000000 in
theorem lfPart_is (w : World) (l : LeafT) (h : l.ok) : Calls Tryz.prog 100 #[.agg l.cells.toArray] w fun e w' => ∃ a c, e = .returned (leafV (.slice a 64 c) l.am) ∧ Bytes w' w'.heap.size (.slice a 64 c) (l.id ++ l.ow) ∧ Below w.heap.size w w' := by
 obtain ⟨LC, hLC⟩ : ∃ L, L = l.cells := ⟨_, rfl⟩
 obtain ⟨am, ham⟩ : ∃ x, x = l.am := ⟨_, rfl⟩
 have hzl := zero_leaf
 unfold leafV at hzl
 rw [← hLC, ← ham]
 have Ao := Hh hLC
 have Ar := Hh ham
 clear hLC ham
 go_enter Tryz.func100, Tryz.ntmps100
 go_upto_region 1 with (fail)
 obtain ⟨W1, hW1, h1, h2, hb1⟩ := boxes_part w LC
 rw [← hW1]
 clear hW1 hzl
 obtain ⟨B, hB⟩ : ∃ b, b = w.heap.size := ⟨_, rfl⟩
 rw [← hB] at h1 h2 hb1 ⊢
 have Am := Hh hB
 have As := Hh (show B ≤ W1.heap.size by rw [hB]; exact hb1.size)
 clear hB
 have HC := Hh (show ∀ v : World, Has v B 32 LC.toArray → v.cell? ⟨B, 32, none⟩ = some (.int .u64 (am : Int)) from fun v hv => hv.cell_is (by rw [List.getElem?_toArray, Ao.o, Ar.o]; exact LeafT.at_am h))
 have Ai := Hh (show ∀ v : World, Has v B 32 LC.toArray → Bytes v v.heap.size (.slice (some ⟨B, 0, none⟩) 32 32) l.id ∧ Bytes v v.heap.size (.slice (some ⟨B, 33, none⟩) 32 32) l.ow from fun v hv => leaf_bytes h (by rw [← Ao.o]; exact hv) v.heap.size (Nat.le_refl _))
 have E1 := Hh (show 0 + l.id.length = 32 by rw [h.id.1])
 have E2 := Hh (show 32 + l.ow.length = 64 by rw [h.ow.1])
 have Aj := Hh (show (∀ x ∈ l.id ++ l.ow, x < 256) ∧ (l.id ++ l.ow).length = 64 from ⟨fun x hx => (List.mem_append.1 hx).elim (h.id.2 x) (h.ow.2 x), by rw [List.length_append, h.id.1, h.ow.1]⟩)
 have Av := Hh h1
 have H2 := Hh h2
 have Aw := Hh hb1
 clear h1 h2 hb1 h Ao Ar
 have hS0 := Av.o
 obtain ⟨ids, Ae⟩ : ∃ x, x = l.id := ⟨_, rfl⟩
 obtain ⟨ows, Af⟩ : ∃ x, x = l.ow := ⟨_, rfl⟩
 rw [← Ae] at Ai E1 Aj
 rw [← Af] at Ai E2 Aj
 have EI := Hh Ae
 have EO := Hh Af
 clear Ae Af Av
 refine wp_region_noPanic ?_
 refine wp_region_held_drew (S := (fun v => Has v B 32 LC.toArray)) (by kernel_rfl) hS0 (fun hH0 => ?_)
 refine tl 0 (v := ((.pointer (some ⟨B, 0, none⟩)))) rfl (by intro w' hS; have z0 := HC.o w' hS; go_simp) hH0 ?_
 simp only [qc]
 refine tl 1 (v := ((.slice (some ⟨B, 0, none⟩) 32 32))) rfl (by intro w' hS; have z0 := HC.o w' hS; go_simp) hH0 ?_
 simp only [qc]
 refine tl 3 (v := ((.pointer (some ⟨B, 33, none⟩)))) rfl (by intro w' hS; have z0 := HC.o w' hS; go_simp) hH0 ?_
 simp only [qc]
 refine tl 4 (v := ((.slice (some ⟨B, 33, none⟩) 32 32))) rfl (by intro w' hS; have z0 := HC.o w' hS; go_simp) hH0 ?_
 simp only [qc]
 refine tl 6 (v := ((.pointer (some ⟨B, 32, none⟩)))) rfl (by intro w' hS; have z0 := HC.o w' hS; go_simp) hH0 ?_
 simp only [qc]
 refine tl 7 (v := ((.int .u64 (am : Int)))) rfl (by intro w' hS; have z0 := HC.o w' hS; go_simp) hH0 ?_
 simp only [qc]
 refine rdy [2] (ar1 rfl fun KK hKK => ?_)
 refine step_append_bytes rfl _ (.tmp 4) rfl B (.slice none 0 0) 0 [] rfl (World.ownsRow_nil _ _ _ _) _ _ ids rfl (Ai.o _ hS0).1 (by have := E1.o; omega) As.o ?_
 intro oa5 oc5 w5 Ab Aa
 replace Aa : W1.grownBy w5 none := grown_undrew Aa
 have hs5 := hS0.grown Aa (by simp)
 have hb5 := Aw.o.grown Aa As.o (by simp)
 have h25 := H2.o.grown Aa (by simp)
 rw [E1.o] at Ab ⊢
 have Ak := Hh Ab
 have Ax := Hh hb5
 have Ap := Hh h25
 have Ag := Hh ((show B ≤ w5.heap.size by have := Am.o; have := hb5.size; omega))
 clear Ab Aa hb5 h25
 refine hKK _ _ hs5 fun hH1 => ?_
 clear hKK KK
 try simp only [qc]
 refine rdy [5] (ar1 rfl fun KK hKK => ?_)
 refine step_append_bytes rfl (.tmp 5) (.tmp 7) rfl B _ 32 ([] ++ bcells ids) rfl Ak.o _ _ ows rfl (Ai.o _ hs5).2 (by have := E2.o; omega) Ag.o ?_
 intro oa8 oc8 w8 Ac Ad
 have hs8 := hs5.grown Ad (fun e => own_has_ne Ak.o hs5 (by decide) B e.symm rfl)
 have hb8 := Ax.o.grown Ad Ag.o (own_blk Ak.o)
 have h28 := Ap.o.grown Ad (fun e => own_has_ne Ak.o Ap.o (by decide) (B + 1) e.symm rfl)
 rw [E2.o] at Ac ⊢
 have Au := Hh Ac
 have Ay := Hh hb8
 have Aq := Hh h28
 have Al := Hh (row_set (L := [.slice oa8 64 oc8, .int .u64 (am : Int)]) h28 rfl)
 have An := Hh ((show B ≤ w8.heap.size by have := Am.o; have := hb8.size; omega))
 clear Ac Ad hb8 h28
 refine hKK _ _ hs8 fun hH2 => ?_
 clear hKK KK
 try simp only [qc]
 refine tl 8 (v := ((.agg #[.slice oa8 64 oc8, .int .u64 (am : Int)]))) rfl (by intro w' hS; have z0 := HC.o w' hS; go_simp) hH2 ?_
 simp only [qc]
 refine rdy [9] (ar1 rfl fun KK hKK => ?_)
 refine step_store_mid rfl 50 (.tmp 2) (.tmp 11) rfl (B + 1) 0 #[.slice oa8 64 oc8, .int .u64 (am : Int)] rfl rfl (Aq.o.there 0 2 (by simp)) (by kernel_rfl) (by kernel_rfl) ?_
 refine hKK _ _ (hs8.kept Al.o.2 (fun e => by have e' : B = B + 1 := e; omega)) fun hH3 => ?_
 clear hKK KK
 try simp only [qc]
 refine wpAnyH_done (by kernel_rfl) ?_ _
 refine NoPanic.normal ?_
 have hk := Al.o.2
 have Ah := own_kept Au.o hk (fun j e e2 => own_has_ne Au.o Aq.o (by decide) j e e2)
 rw [List.nil_append, ← bcells_cat] at Ah
 have hb := own_bytes Ah Aj.o.2 Aj.o.1 (Nat.le_refl _)
 rw [EI.o, EO.o] at hb
 have hbe := Ay.o.trans (hk.below An.o (fun j e => by have e' : j = B + 1 := e; omega))
 rw [show Below B w = Below w.heap.size w by rw [Am.o]] at hbe
 go_wp2_with fail
 refine bodyPost_ret (results_cell_row rfl _ _ (B + 1) 50 #[.slice oa8 64 oc8, .int .u64 (am : Int)] (0, 0) _ rfl Al.o.1 Tryz.underlying50 rfl (by kernel_rfl)) rfl ?_
 exact ⟨oa8, oc8, rfl, hb, hbe⟩
/- A slice literal of n elements as a step; the walk of a leaf's Key. -/

theorem step_buildN {P : Program} {ops : Array Oper} {o : Oper} {a : Act} {w : World} {K : Act → World → Prop} {Q : Exit → Act → World → Prop} {E : Prop} (hgd : o.guard = none) (t e : TypeId) (n : Nat) (parts : Array (Nat × Operand)) (hop : o.op = .buildSlice t n parts)
  (z : Value) (k by_ : Nat) (hu : P.underlying t = some (.slice e)) (hinfo : (P.info? e).map (fun i => (i.zero, i.size, i.bytes)) = some (some z, k, by_))
  (xs : List Operand) (hparts : parts.toList = (xs.zipIdx 0).map fun x => (x.2, x.1)) (vs : List Value) (hvs : xs.map a.eval = vs) (hk : ∀ v ∈ vs, v.cells.size = k) (hz : z.cells.size = k) (hn : vs.length = n) (h0 : 0 < n) (hk0 : 0 < k) (h24 : n * k ≤ 16777216)
  (h : K (a.put o.dst (.slice (some ⟨w.heap.size, 0, none⟩) n n)) (w.alloc (.cells (vs.flatMap fun v => v.cells.toList).toArray e))) :
  if Region.wanted o (yielded ops a.tmps) = true then Oper.wp P o a w K Q else E := by
 have hw : Region.wanted o (yielded ops a.tmps) = true := by simp [Region.wanted, hgd]
 rw [if_pos hw]
 obtain ⟨ie, hie, hz0, hsz, -⟩ := info_parts hinfo
 have hp : 0 < n * k := Nat.mul_pos h0 hk0
 refine wp_buildSlice t e n parts hop (vs.flatMap fun v => v.cells.toList).toArray ie z hu hie hz0 (by rw [hsz]; omega) (by rw [hsz]; omega) ?_ h
 have hv : (parts.map fun (i, x) => (i, a.eval x)).toList = (vs.zipIdx 0).map fun x => (x.2, x.1) := by
  rw [Array.toList_map, hparts, ← hvs, List.zipIdx_map, List.map_map, List.map_map]
  rfl
 rw [hv]
 exact Great.fill_whole (s := ie.size) (by omega) vs _ (by rw [hsz]; exact hk) (by simp [hn])
theorem info_slice : (Tryz.prog.info? 48).map (fun i => (i.zero, i.size, i.bytes)) = some (some (.slice none 0 0), 1, 24) := by kernel_rfl
theorem info_u8 : (Tryz.prog.info? 5).map (fun i => (i.zero, i.size, i.bytes)) = some (some (.int .u8 0), 1, 1) := by kernel_rfl
theorem one_by {w : World} {g : Nat} {q : Nat} (h : Has w g 5 #[.int .u8 (q : Int)]) (hq : q < 256) (g' : Nat) (hg : g ≠ g') : Bytes w g' (.slice (some ⟨g, 0, none⟩) 1 1) [q] :=
 ⟨_, _, rfl, Nat.le_refl _, (fun z hz => by rw [List.mem_singleton.1 hz]; exact hq), fun _ => ⟨g, 0, rfl, hg, fun i hi => by
  obtain rfl : i = 0 := Nat.lt_one_iff.1 hi
  exact h.cell_is rfl⟩⟩
theorem partsN_three {w : World} {g pg : Nat} {v0 v1 v2 : Value} {p0 p1 p2 : List Nat} (h : Has w pg 48 #[v0, v1, v2]) (h0 : Bytes w g v0 p0) (h1 : Bytes w g v1 p1) (h2 : Bytes w g v2 p2) (hne : pg ≠ g) : PartsN w g (.slice (some ⟨pg, 0, none⟩) 3 3) [p0, p1, p2] := by
 refine ⟨_, _, rfl, fun _ => ⟨pg, 0, rfl, hne, fun i hi => ?_⟩⟩
 match i, hi with
 | 0, _ => exact ⟨v0, h.cell_is rfl, h0⟩
 | 1, _ => exact ⟨v1, h.cell_is rfl, h1⟩
 | 2, _ => exact ⟨v2, h.cell_is rfl, h2⟩
def keyS : ByteArray := { data := #[109, 111, 110, 101, 121, 101, 114, 47, 107, 101, 121] }
def keyK (K s0 : List Wd) (l : LeafT) : List Nat := tagD K s0 keyS (l.id ++ (l.ow ++ [plB l]))
theorem boxes_key (w : World) (LC : List Value) (Z : Array Value) : ∃ W1, W1 = (((w.alloc (.cells LC.toArray 32))).alloc (.cells Z 27)) ∧
  Has W1 (w.heap.size) 32 LC.toArray ∧ Has W1 (w.heap.size + 1) 27 Z ∧ Below w.heap.size w W1 := by
 refine ⟨_, rfl, (Has.new w _ _).alloc _, ?_, ((Below.refl _ _).alloc (Nat.le_refl _) _).alloc (by simp) _⟩
 have := Has.new (w.alloc (.cells LC.toArray 32)) 27 Z
 simpa using this
theorem set_box {W V : World} {B G : Nat} {t : TypeId} {Z : Array Value} {L : List Value} (h : Below B W V) (hz : Has V G t Z) (hG : B ≤ G) (hBW : B ≤ V.heap.size) (hl : Z.size = L.length) : Below B W (V.setCells G 0 L) ∧ Has (V.setCells G 0 L) G t L.toArray ∧ Kept (fun k => k = G) V (V.setCells G 0 L) := by
 obtain ⟨cur', p1, p2, p3, p4⟩ := Has.setCells L 0 V Z hz
 refine ⟨h.trans (p4.below hBW (fun j e => by have e' : j = G := e; omega)), ?_, p4⟩
 have : cur' = L.toArray := by
  apply Array.ext_getElem?
  intro i
  by_cases hi : i < Z.size
  · rw [p3 i hi, if_pos (by omega), Nat.sub_zero, List.getElem?_toArray]
  · rw [Array.getElem?_eq_none (by omega), Array.getElem?_eq_none (by simp; omega)]
 rw [← this]
 exact p1
set_option maxRecDepth 100000 in
set_option maxHeartbeats 4000000 in
theorem lfKey_is (K s0 : List Wd) (w : World) (hT : Tabs K s0 w) (l : LeafT) (h : l.ok) : Calls Tryz.prog 17 #[.agg l.cells.toArray] w fun e w' => e = .returned (arr (keyK K s0 l)) ∧ Below w.heap.size w w' := by
 obtain ⟨zk, hzk, hzs, hzn⟩ := zero_hashT
 obtain ⟨LC, hLC⟩ : ∃ L, L = l.cells := ⟨_, rfl⟩
 obtain ⟨D, hD⟩ : ∃ D, D = keyK K s0 l := ⟨_, rfl⟩
 have hph : IsHash D := by rw [hD]; exact tagD_hash K s0 hT.len _ _
 rw [← hLC, ← hD]
 have Ap := hT.low
 have HT := Hh hT
 have Ax := Hh hLC
 have HD := Hh hD
 have SZ := Hh (show (Tryz.prog.info? 27).map (·.size) = some (bcells D).toArray.size by rw [List.size_toArray, bcells_length, hph.1]; kernel_rfl)
 have An := Hh (show zk.size = (bcells D).length by rw [hzs, bcells_length, hph.1])
 have Am := Hh h
 clear hT hLC hD hph hzs
 go_enter Tryz.func17, Tryz.ntmps17
 go_upto_region 1 with (fail)
 obtain ⟨W1, hW1, h1, h2, hb1⟩ := boxes_key w LC zk
 rw [← hW1]
 clear hW1
 obtain ⟨B, hB⟩ : ∃ b, b = w.heap.size := ⟨_, rfl⟩
 rw [← hB] at h1 h2 hb1 Ap ⊢
 have hBS : B + 1 < W1.heap.size := h2.lt
 have Aq := Hh hB
 clear hB
 have Aw := Hh (show ∀ v : World, Below B w v → Tabs K s0 v from fun v hv => by
   have hl2 := Ap
   rw [Aq.o] at hv hl2
   exact HT.o.below hv hl2)
 have hwr : IntKind.u8.wrap l.pl = (plB l : Int) := by rw [IntKind.wrap_u8]; unfold plB; omega
 obtain ⟨q, hq⟩ : ∃ q, q = plB l := ⟨_, rfl⟩
 obtain ⟨pl, hpl⟩ : ∃ q, q = l.pl := ⟨_, rfl⟩
 rw [← hq, ← hpl] at hwr
 have Ag : q < 256 := by rw [hq]; exact plB_lt l
 have HC := Hh (show ∀ v : World, Has v B 32 LC.toArray → v.cell? ⟨B, 65, none⟩ = some (.int .i64 pl) from fun v hv => hv.cell_is (by rw [List.getElem?_toArray, Ax.o, hpl]; exact LeafT.at_pl Am.o))
 have As := Hh (show ∀ (v : World) (g : Nat), B < g → Has v B 32 LC.toArray → Bytes v g (.slice (some ⟨B, 0, none⟩) 32 32) l.id ∧ Bytes v g (.slice (some ⟨B, 33, none⟩) 32 32) l.ow from fun v g hg hv => by
   obtain ⟨p1, p2⟩ := leaf_bytes Am.o (by rw [← Ax.o]; exact hv) v.heap.size (Nat.le_refl _)
   obtain ⟨a1, c1, e1, q1, q2, q3⟩ := p1
   obtain ⟨a2, c2, e2, r1, r2, r3⟩ := p2
   injection e1 with e11 e12 e13
   injection e2 with e21 e22 e23
   subst e11 e13 e21 e23
   refine ⟨⟨_, _, by rw [Am.o.id.1], q1, q2, fun h0 => ?_⟩, ⟨_, _, by rw [Am.o.ow.1], r1, r2, fun h0 => ?_⟩⟩
   · obtain ⟨bg, bo, e, _, hc⟩ := q3 h0
     injection e with e
     injection e with e3 e4
     subst e3 e4
     exact ⟨_, _, rfl, by omega, hc⟩
   · obtain ⟨bg, bo, e, _, hc⟩ := r3 h0
     injection e with e
     injection e with e3 e4
     subst e3 e4
     exact ⟨_, _, rfl, by omega, hc⟩)
 have hS0 : Has W1.drew B 32 LC.toArray ∧ Below B w W1.drew := ⟨h1, below_drew hb1⟩
 have hz : Has W1.drew (B + 1) 27 zk := h2
 have hBW : B + 1 < W1.drew.heap.size := hBS
 have Ar := Hh hwr
 have EQ := Hh hq
 clear hb1 h1 h2 hwr hq hpl h hBS
 have Au := Hh (show tagD K s0 keyS [l.id, l.ow, [q]].flatten = D by rw [HD.o, EQ.o]; unfold keyK; simp)
 have Av := Hh (show [l.id, l.ow, [q]].flatten.length ≤ 100000000 by simp [Am.o.id.1, Am.o.ow.1])
 refine wp_region_noPanic ?_
 refine wp_region_held_drew (S := (fun v => Has v B 32 LC.toArray ∧ Below B w v)) (by kernel_rfl) hS0 (fun hH0 => ?_)
 apply tl 1 rfl ?hv hH0 ?_
 case hv => intro w' hS; go_simp; try rfl
 simp only [qc]
 apply tl 2 rfl ?hv hH0 ?_
 case hv => intro w' hS; have z0 := HC.o w' hS.1; have z1 := Ar.o; go_simp; try rfl
 simp only [qc]
 apply tl 3 rfl ?hv hH0 ?_
 case hv => intro w' hS; go_simp; try rfl
 simp only [qc]
 apply tl 4 rfl ?hv hH0 ?_
 case hv => intro w' hS; have z0 := HC.o w' hS.1; have z1 := Ar.o; go_simp; try rfl
 simp only [qc]
 apply tl 5 rfl ?hv hH0 ?_
 case hv => intro w' hS; go_simp; try rfl
 simp only [qc]
 apply tl 6 rfl ?hv hH0 ?_
 case hv => intro w' hS; have z0 := HC.o w' hS.1; have z1 := Ar.o; go_simp; try rfl
 simp only [qc]
 apply tl 7 rfl ?hv hH0 ?_
 case hv => intro w' hS; have z0 := HC.o w' hS.1; have z1 := Ar.o; go_simp; try rfl
 simp only [qc]
 refine rdy [0, 8] (AllReadyH.cons rfl (fun KK hKK => ?_) (ar1 rfl fun KK hKK => ?_))
 · go_simp
   refine (newTag_is keyS _).mono ?_
   rintro _ x0 ⟨rfl, hx0⟩
   have Aa : Below W1.drew.heap.size W1.drew x0 := by rw [hx0]; exact (Below.refl _ _).alloc (Nat.le_refl _) _
   have hg : Has x0 W1.drew.heap.size 178 (tag0 keyS).toArray := by rw [hx0]; exact Has.new _ _ _
   have hgb : B + 1 < W1.drew.heap.size := hBW
   obtain ⟨G, hG⟩ : ∃ g, g = W1.drew.heap.size := ⟨_, rfl⟩
   first | rw [← hG] | (have hG2 : W1.heap.size = G := hG.symm; rw [hG2])
   rw [← hG] at hg
   rw [← hG] at hgb
   clear hG
   have Ah : Has x0 B 32 LC.toArray ∧ Below B w x0 := ⟨hH0.1.below Aa hH0.1.lt, hH0.2.trans (Aa.mono (Nat.le_of_lt (Nat.lt_of_succ_lt hBW)))⟩
   replace hz := hz.below Aa hz.lt
   try replace hq1 := hq1.below Aa hq1.lt
   try replace hp := hp.below Aa hp.lt
   replace hBW : B + 1 < x0.heap.size := Nat.lt_of_lt_of_le hBW Aa.size
   clear hx0
   refine hKK _ _ Ah fun hH1 => ?_
   clear hKK KK
   try simp only [qc]
   refine rdy [8] (ar1 rfl fun KK hKK => ?_)
   refine step_buildN rfl 48 5 1 _ rfl _ 1 1 Tryz.underlying48 info_u8 [.tmp 10] rfl [.int .u8 (q : Int)] rfl (by simp [Value.cells]) rfl rfl (by decide) (by decide) (by decide) ?_
   try rw [show [Value.int IntKind.u8 (q : Int)].flatMap (fun v => v.cells.toList) = [.int .u8 (q : Int)] from rfl]
   obtain ⟨x8, hx8⟩ : ∃ y, y = x0.alloc (.cells #[.int .u8 (q : Int)] 5) := ⟨_, rfl⟩
   first | rw [← hx8] | (change KK _ (x0.alloc (.cells #[.int .u8 (q : Int)] 5)); rw [← hx8])
   have Ae : Below x0.heap.size x0 x8 := by rw [hx8]; exact (Below.refl _ _).alloc (Nat.le_refl _) _
   have hq1 : Has x8 x0.heap.size 5 #[.int .u8 (q : Int)] := by rw [hx8]; exact Has.new _ _ _
   have Ak : B + 1 < x0.heap.size := hBW
   obtain ⟨Q, hQ⟩ : ∃ g, g = x0.heap.size := ⟨_, rfl⟩
   first | rw [← hQ] | (have hQ2 : W1.heap.size = Q := hQ.symm; rw [hQ2])
   rw [← hQ] at hq1
   rw [← hQ] at Ak
   clear hQ
   have Al : Has x8 B 32 LC.toArray ∧ Below B w x8 := ⟨hH1.1.below Ae hH1.1.lt, hH1.2.trans (Ae.mono (Nat.le_of_lt (Nat.lt_of_succ_lt hBW)))⟩
   replace hz := hz.below Ae hz.lt
   try replace hg := hg.below Ae hg.lt
   replace hBW : B + 1 < x8.heap.size := Nat.lt_of_lt_of_le hBW Ae.size
   clear hx8
   refine hKK _ _ Al fun hH2 => ?_
   clear hKK KK
   try simp only [qc]
   refine rdy [9] (ar1 rfl fun KK hKK => ?_)
   refine step_buildN rfl 121 48 3 _ rfl _ 1 24 Tryz.underlying121 info_slice [.tmp 5, .tmp 7, .tmp 11] rfl [.slice (some ⟨B, 0, none⟩) 32 32, .slice (some ⟨B, 33, none⟩) 32 32, .slice (some ⟨Q, 0, none⟩) 1 1] rfl (by simp [Value.cells]) rfl rfl (by decide) (by decide) (by decide) ?_
   obtain ⟨x9, hx9⟩ : ∃ y, y = x8.alloc (.cells #[.slice (some ⟨B, 0, none⟩) 32 32, .slice (some ⟨B, 33, none⟩) 32 32, .slice (some ⟨Q, 0, none⟩) 1 1] 48) := ⟨_, rfl⟩
   first | rw [← hx9] | (change KK _ (x8.alloc (.cells #[.slice (some ⟨B, 0, none⟩) 32 32, .slice (some ⟨B, 33, none⟩) 32 32, .slice (some ⟨Q, 0, none⟩) 1 1] 48)); rw [← hx9])
   have Ab : Below x8.heap.size x8 x9 := by rw [hx9]; exact (Below.refl _ _).alloc (Nat.le_refl _) _
   have hp : Has x9 x8.heap.size 48 #[.slice (some ⟨B, 0, none⟩) 32 32, .slice (some ⟨B, 33, none⟩) 32 32, .slice (some ⟨Q, 0, none⟩) 1 1] := by rw [hx9]; exact Has.new _ _ _
   have hpb : B + 1 < x8.heap.size := hBW
   obtain ⟨R, hR⟩ : ∃ g, g = x8.heap.size := ⟨_, rfl⟩
   first | rw [← hR] | (have hR2 : W1.heap.size = R := hR.symm; rw [hR2])
   rw [← hR] at hp
   rw [← hR] at hpb
   clear hR
   have Ai : Has x9 B 32 LC.toArray ∧ Below B w x9 := ⟨hH2.1.below Ab hH2.1.lt, hH2.2.trans (Ab.mono (Nat.le_of_lt (Nat.lt_of_succ_lt hBW)))⟩
   replace hz := hz.below Ab hz.lt
   try replace hg := hg.below Ab hg.lt
   try replace hq1 := hq1.below Ab hq1.lt
   replace hBW : B + 1 < x9.heap.size := Nat.lt_of_lt_of_le hBW Ab.size
   clear hx9
   refine hKK _ _ Ai fun hH3 => ?_
   clear hKK KK
   try simp only [qc]
   refine rdy [10] (ar1 rfl fun KK hKK => ?_)
   go_simp
   have hq2 := hq1.ne hg (by decide)
   have hp2 := hp.ne hg (by decide)
   have hby := As.o _ G (Nat.lt_of_succ_lt hgb) hH3.1
   have Ad := tagSum_is K s0 _ (Aw.o _ hH3.2) G keyS (by decide) (by omega) hg _ [l.id, l.ow, [q]] (partsN_three hp hby.1 hby.2 (one_by hq1 Ag G hq2) hp2) Av.o (by simp)
   rw [Au.o] at Ad
   unfold arr at Ad
   refine Ad.mono ?_
   rintro _ xa ⟨rfl, hka⟩
   have Aj : Has xa B 32 LC.toArray ∧ Below B w xa := ⟨hH3.1.kept hka (by omega), hH3.2.trans (hka.below (Nat.le_of_lt (Nat.lt_of_succ_lt hBW)) (fun j e => by have e' : j = G := e; omega))⟩
   replace hz := hz.kept hka (by omega)
   replace hBW : B + 1 < xa.heap.size := Nat.lt_of_lt_of_le hBW hka.size
   clear Ad hby hka
   refine hKK _ _ Aj fun hH4 => ?_
   clear hKK KK
   try simp only [qc]
   refine rdy [11] (ar1 rfl fun KK hKK => ?_)
   refine step_store_mid rfl 27 (.tmp 2) (.tmp 13) rfl (B + 1) 0 (bcells D).toArray rfl rfl (hz.there 0 _ (by rw [List.size_toArray, An.o]; exact Nat.le_of_eq (Nat.zero_add _))) SZ.o (all_oneCell_toArray (bcells_one D)) ?_
   have Ac := set_box hH4.2 hz (Nat.le_succ B) (Nat.le_of_lt (Nat.lt_of_succ_lt hBW)) An.o
   obtain ⟨xb, hxb⟩ : ∃ y, y = xa.setCells (B + 1) 0 (bcells D) := ⟨_, rfl⟩
   rw [← hxb] at Ac
   change KK _ (xa.setCells (B + 1) 0 (bcells D))
   rw [← hxb]
   have Af : Has xb B 32 LC.toArray ∧ Below B w xb := ⟨hH4.1.kept Ac.2.2 (by omega), Ac.1⟩
   clear hxb
   refine hKK _ _ Af fun hH5 => ?_
   clear hKK KK
   try simp only [qc]
   refine wpAnyH_done (by kernel_rfl) ?_ _
   refine NoPanic.normal ?_
   have HF := Hh Ac.2.1
   have Ao := Hh Ac.1
   clear Ac Af
   go_wp2_with fail
   refine bodyPost_ret (results_cell_row rfl _ _ (B + 1) 27 (bcells D).toArray (0, 0) _ rfl HF.o Tryz.underlying27 rfl SZ.o) rfl ?_
   exact ⟨rfl, by have := Ao.o; rwa [Aq.o] at this⟩
 · refine step_buildN rfl 48 5 1 _ rfl _ 1 1 Tryz.underlying48 info_u8 [.tmp 10] rfl [.int .u8 (q : Int)] rfl (by simp [Value.cells]) rfl rfl (by decide) (by decide) (by decide) ?_
   try rw [show [Value.int IntKind.u8 (q : Int)].flatMap (fun v => v.cells.toList) = [.int .u8 (q : Int)] from rfl]
   obtain ⟨x8, hx8⟩ : ∃ y, y = W1.drew.alloc (.cells #[.int .u8 (q : Int)] 5) := ⟨_, rfl⟩
   first | rw [← hx8] | (change KK _ (W1.drew.alloc (.cells #[.int .u8 (q : Int)] 5)); rw [← hx8])
   have Ae : Below W1.drew.heap.size W1.drew x8 := by rw [hx8]; exact (Below.refl _ _).alloc (Nat.le_refl _) _
   have hq1 : Has x8 W1.drew.heap.size 5 #[.int .u8 (q : Int)] := by rw [hx8]; exact Has.new _ _ _
   have Ak : B + 1 < W1.drew.heap.size := hBW
   obtain ⟨Q, hQ⟩ : ∃ g, g = W1.drew.heap.size := ⟨_, rfl⟩
   first | rw [← hQ] | (have hQ2 : W1.heap.size = Q := hQ.symm; rw [hQ2])
   rw [← hQ] at hq1
   rw [← hQ] at Ak
   clear hQ
   have Al : Has x8 B 32 LC.toArray ∧ Below B w x8 := ⟨hH0.1.below Ae hH0.1.lt, hH0.2.trans (Ae.mono (Nat.le_of_lt (Nat.lt_of_succ_lt hBW)))⟩
   replace hz := hz.below Ae hz.lt
   try replace hg := hg.below Ae hg.lt
   replace hBW : B + 1 < x8.heap.size := Nat.lt_of_lt_of_le hBW Ae.size
   clear hx8
   refine hKK _ _ Al fun hH1 => ?_
   clear hKK KK
   try simp only [qc]
   refine rdy [0, 9] (AllReadyH.cons rfl (fun KK hKK => ?_) (ar1 rfl fun KK hKK => ?_))
   · go_simp
     refine (newTag_is keyS _).mono ?_
     rintro _ x0 ⟨rfl, hx0⟩
     have Aa : Below x8.heap.size x8 x0 := by rw [hx0]; exact (Below.refl _ _).alloc (Nat.le_refl _) _
     have hg : Has x0 x8.heap.size 178 (tag0 keyS).toArray := by rw [hx0]; exact Has.new _ _ _
     have hgb : B + 1 < x8.heap.size := hBW
     obtain ⟨G, hG⟩ : ∃ g, g = x8.heap.size := ⟨_, rfl⟩
     first | rw [← hG] | (have hG2 : W1.heap.size = G := hG.symm; rw [hG2])
     rw [← hG] at hg
     rw [← hG] at hgb
     clear hG
     have Ah : Has x0 B 32 LC.toArray ∧ Below B w x0 := ⟨hH1.1.below Aa hH1.1.lt, hH1.2.trans (Aa.mono (Nat.le_of_lt (Nat.lt_of_succ_lt hBW)))⟩
     replace hz := hz.below Aa hz.lt
     try replace hq1 := hq1.below Aa hq1.lt
     try replace hp := hp.below Aa hp.lt
     replace hBW : B + 1 < x0.heap.size := Nat.lt_of_lt_of_le hBW Aa.size
     clear hx0
     refine hKK _ _ Ah fun hH2 => ?_
     clear hKK KK
     try simp only [qc]
     refine rdy [9] (ar1 rfl fun KK hKK => ?_)
     refine step_buildN rfl 121 48 3 _ rfl _ 1 24 Tryz.underlying121 info_slice [.tmp 5, .tmp 7, .tmp 11] rfl [.slice (some ⟨B, 0, none⟩) 32 32, .slice (some ⟨B, 33, none⟩) 32 32, .slice (some ⟨Q, 0, none⟩) 1 1] rfl (by simp [Value.cells]) rfl rfl (by decide) (by decide) (by decide) ?_
     obtain ⟨x9, hx9⟩ : ∃ y, y = x0.alloc (.cells #[.slice (some ⟨B, 0, none⟩) 32 32, .slice (some ⟨B, 33, none⟩) 32 32, .slice (some ⟨Q, 0, none⟩) 1 1] 48) := ⟨_, rfl⟩
     first | rw [← hx9] | (change KK _ (x0.alloc (.cells #[.slice (some ⟨B, 0, none⟩) 32 32, .slice (some ⟨B, 33, none⟩) 32 32, .slice (some ⟨Q, 0, none⟩) 1 1] 48)); rw [← hx9])
     have Ab : Below x0.heap.size x0 x9 := by rw [hx9]; exact (Below.refl _ _).alloc (Nat.le_refl _) _
     have hp : Has x9 x0.heap.size 48 #[.slice (some ⟨B, 0, none⟩) 32 32, .slice (some ⟨B, 33, none⟩) 32 32, .slice (some ⟨Q, 0, none⟩) 1 1] := by rw [hx9]; exact Has.new _ _ _
     have hpb : B + 1 < x0.heap.size := hBW
     obtain ⟨R, hR⟩ : ∃ g, g = x0.heap.size := ⟨_, rfl⟩
     first | rw [← hR] | (have hR2 : W1.heap.size = R := hR.symm; rw [hR2])
     rw [← hR] at hp
     rw [← hR] at hpb
     clear hR
     have Ai : Has x9 B 32 LC.toArray ∧ Below B w x9 := ⟨hH2.1.below Ab hH2.1.lt, hH2.2.trans (Ab.mono (Nat.le_of_lt (Nat.lt_of_succ_lt hBW)))⟩
     replace hz := hz.below Ab hz.lt
     try replace hg := hg.below Ab hg.lt
     try replace hq1 := hq1.below Ab hq1.lt
     replace hBW : B + 1 < x9.heap.size := Nat.lt_of_lt_of_le hBW Ab.size
     clear hx9
     refine hKK _ _ Ai fun hH3 => ?_
     clear hKK KK
     try simp only [qc]
     refine rdy [10] (ar1 rfl fun KK hKK => ?_)
     go_simp
     have hq2 := hq1.ne hg (by decide)
     have hp2 := hp.ne hg (by decide)
     have hby := As.o _ G (Nat.lt_of_succ_lt hgb) hH3.1
     have Ad := tagSum_is K s0 _ (Aw.o _ hH3.2) G keyS (by decide) (by omega) hg _ [l.id, l.ow, [q]] (partsN_three hp hby.1 hby.2 (one_by hq1 Ag G hq2) hp2) Av.o (by simp)
     rw [Au.o] at Ad
     unfold arr at Ad
     refine Ad.mono ?_
     rintro _ xa ⟨rfl, hka⟩
     have Aj : Has xa B 32 LC.toArray ∧ Below B w xa := ⟨hH3.1.kept hka (by omega), hH3.2.trans (hka.below (Nat.le_of_lt (Nat.lt_of_succ_lt hBW)) (fun j e => by have e' : j = G := e; omega))⟩
     replace hz := hz.kept hka (by omega)
     replace hBW : B + 1 < xa.heap.size := Nat.lt_of_lt_of_le hBW hka.size
     clear Ad hby hka
     refine hKK _ _ Aj fun hH4 => ?_
     clear hKK KK
     try simp only [qc]
     refine rdy [11] (ar1 rfl fun KK hKK => ?_)
     refine step_store_mid rfl 27 (.tmp 2) (.tmp 13) rfl (B + 1) 0 (bcells D).toArray rfl rfl (hz.there 0 _ (by rw [List.size_toArray, An.o]; exact Nat.le_of_eq (Nat.zero_add _))) SZ.o (all_oneCell_toArray (bcells_one D)) ?_
     have Ac := set_box hH4.2 hz (Nat.le_succ B) (Nat.le_of_lt (Nat.lt_of_succ_lt hBW)) An.o
     obtain ⟨xb, hxb⟩ : ∃ y, y = xa.setCells (B + 1) 0 (bcells D) := ⟨_, rfl⟩
     rw [← hxb] at Ac
     change KK _ (xa.setCells (B + 1) 0 (bcells D))
     rw [← hxb]
     have Af : Has xb B 32 LC.toArray ∧ Below B w xb := ⟨hH4.1.kept Ac.2.2 (by omega), Ac.1⟩
     clear hxb
     refine hKK _ _ Af fun hH5 => ?_
     clear hKK KK
     try simp only [qc]
     refine wpAnyH_done (by kernel_rfl) ?_ _
     refine NoPanic.normal ?_
     have HF := Hh Ac.2.1
     have Ao := Hh Ac.1
     clear Ac Af
     go_wp2_with fail
     refine bodyPost_ret (results_cell_row rfl _ _ (B + 1) 27 (bcells D).toArray (0, 0) _ rfl HF.o Tryz.underlying27 rfl SZ.o) rfl ?_
     exact ⟨rfl, by have := Ao.o; rwa [Aq.o] at this⟩
   · refine step_buildN rfl 121 48 3 _ rfl _ 1 24 Tryz.underlying121 info_slice [.tmp 5, .tmp 7, .tmp 11] rfl [.slice (some ⟨B, 0, none⟩) 32 32, .slice (some ⟨B, 33, none⟩) 32 32, .slice (some ⟨Q, 0, none⟩) 1 1] rfl (by simp [Value.cells]) rfl rfl (by decide) (by decide) (by decide) ?_
     obtain ⟨x9, hx9⟩ : ∃ y, y = x8.alloc (.cells #[.slice (some ⟨B, 0, none⟩) 32 32, .slice (some ⟨B, 33, none⟩) 32 32, .slice (some ⟨Q, 0, none⟩) 1 1] 48) := ⟨_, rfl⟩
     first | rw [← hx9] | (change KK _ (x8.alloc (.cells #[.slice (some ⟨B, 0, none⟩) 32 32, .slice (some ⟨B, 33, none⟩) 32 32, .slice (some ⟨Q, 0, none⟩) 1 1] 48)); rw [← hx9])
     have Ab : Below x8.heap.size x8 x9 := by rw [hx9]; exact (Below.refl _ _).alloc (Nat.le_refl _) _
     have hp : Has x9 x8.heap.size 48 #[.slice (some ⟨B, 0, none⟩) 32 32, .slice (some ⟨B, 33, none⟩) 32 32, .slice (some ⟨Q, 0, none⟩) 1 1] := by rw [hx9]; exact Has.new _ _ _
     have hpb : B + 1 < x8.heap.size := hBW
     obtain ⟨R, hR⟩ : ∃ g, g = x8.heap.size := ⟨_, rfl⟩
     first | rw [← hR] | (have hR2 : W1.heap.size = R := hR.symm; rw [hR2])
     rw [← hR] at hp
     rw [← hR] at hpb
     clear hR
     have Ai : Has x9 B 32 LC.toArray ∧ Below B w x9 := ⟨hH1.1.below Ab hH1.1.lt, hH1.2.trans (Ab.mono (Nat.le_of_lt (Nat.lt_of_succ_lt hBW)))⟩
     replace hz := hz.below Ab hz.lt
     try replace hg := hg.below Ab hg.lt
     try replace hq1 := hq1.below Ab hq1.lt
     replace hBW : B + 1 < x9.heap.size := Nat.lt_of_lt_of_le hBW Ab.size
     clear hx9
     refine hKK _ _ Ai fun hH2 => ?_
     clear hKK KK
     try simp only [qc]
     refine rdy [0] (ar1 rfl fun KK hKK => ?_)
     go_simp
     refine (newTag_is keyS _).mono ?_
     rintro _ x0 ⟨rfl, hx0⟩
     have Aa : Below x9.heap.size x9 x0 := by rw [hx0]; exact (Below.refl _ _).alloc (Nat.le_refl _) _
     have hg : Has x0 x9.heap.size 178 (tag0 keyS).toArray := by rw [hx0]; exact Has.new _ _ _
     have hgb : B + 1 < x9.heap.size := hBW
     obtain ⟨G, hG⟩ : ∃ g, g = x9.heap.size := ⟨_, rfl⟩
     first | rw [← hG] | (have hG2 : W1.heap.size = G := hG.symm; rw [hG2])
     rw [← hG] at hg
     rw [← hG] at hgb
     clear hG
     have Ah : Has x0 B 32 LC.toArray ∧ Below B w x0 := ⟨hH2.1.below Aa hH2.1.lt, hH2.2.trans (Aa.mono (Nat.le_of_lt (Nat.lt_of_succ_lt hBW)))⟩
     replace hz := hz.below Aa hz.lt
     try replace hq1 := hq1.below Aa hq1.lt
     try replace hp := hp.below Aa hp.lt
     replace hBW : B + 1 < x0.heap.size := Nat.lt_of_lt_of_le hBW Aa.size
     clear hx0
     refine hKK _ _ Ah fun hH3 => ?_
     clear hKK KK
     try simp only [qc]
     refine rdy [10] (ar1 rfl fun KK hKK => ?_)
     go_simp
     have hq2 := hq1.ne hg (by decide)
     have hp2 := hp.ne hg (by decide)
     have hby := As.o _ G (Nat.lt_of_succ_lt hgb) hH3.1
     have Ad := tagSum_is K s0 _ (Aw.o _ hH3.2) G keyS (by decide) (by omega) hg _ [l.id, l.ow, [q]] (partsN_three hp hby.1 hby.2 (one_by hq1 Ag G hq2) hp2) Av.o (by simp)
     rw [Au.o] at Ad
     unfold arr at Ad
     refine Ad.mono ?_
     rintro _ xa ⟨rfl, hka⟩
     have Aj : Has xa B 32 LC.toArray ∧ Below B w xa := ⟨hH3.1.kept hka (by omega), hH3.2.trans (hka.below (Nat.le_of_lt (Nat.lt_of_succ_lt hBW)) (fun j e => by have e' : j = G := e; omega))⟩
     replace hz := hz.kept hka (by omega)
     replace hBW : B + 1 < xa.heap.size := Nat.lt_of_lt_of_le hBW hka.size
     clear Ad hby hka
     refine hKK _ _ Aj fun hH4 => ?_
     clear hKK KK
     try simp only [qc]
     refine rdy [11] (ar1 rfl fun KK hKK => ?_)
     refine step_store_mid rfl 27 (.tmp 2) (.tmp 13) rfl (B + 1) 0 (bcells D).toArray rfl rfl (hz.there 0 _ (by rw [List.size_toArray, An.o]; exact Nat.le_of_eq (Nat.zero_add _))) SZ.o (all_oneCell_toArray (bcells_one D)) ?_
     have Ac := set_box hH4.2 hz (Nat.le_succ B) (Nat.le_of_lt (Nat.lt_of_succ_lt hBW)) An.o
     obtain ⟨xb, hxb⟩ : ∃ y, y = xa.setCells (B + 1) 0 (bcells D) := ⟨_, rfl⟩
     rw [← hxb] at Ac
     change KK _ (xa.setCells (B + 1) 0 (bcells D))
     rw [← hxb]
     have Af : Has xb B 32 LC.toArray ∧ Below B w xb := ⟨hH4.1.kept Ac.2.2 (by omega), Ac.1⟩
     clear hxb
     refine hKK _ _ Af fun hH5 => ?_
     clear hKK KK
     try simp only [qc]
     refine wpAnyH_done (by kernel_rfl) ?_ _
     refine NoPanic.normal ?_
     have HF := Hh Ac.2.1
     have Ao := Hh Ac.1
     clear Ac Af
     go_wp2_with fail
     refine bodyPost_ret (results_cell_row rfl _ _ (B + 1) 27 (bcells D).toArray (0, 0) _ rfl HF.o Tryz.underlying27 rfl SZ.o) rfl ?_
     exact ⟨rfl, by have := Ao.o; rwa [Aq.o] at this⟩
end Go.Proofs.YtknfbccbdiidjaaGreatDoor
