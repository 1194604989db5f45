/- One leaf's way up a tree, quick for the kernel. -/
import Derived.Test.YtknfbccbdiidjaaGreatDoorWu
import Derived.Test.YtknfbccbdiidjaaGreatDoorPTree1
import Derived.Test.YtknfbccbdiidjaaGreatDoorPSha7
import Derived.Test.YtknfbccbdiidjaaGreatDoorPMem
import Derived.Deep.WholeRow
namespace Go.Proofs.YtknfbccbdiidjaaGreatDoor
set_option linter.unusedVariables false
set_option linter.unusedSimpArgs false

def oneN (sh sl : Nat) : List Bool → Nat → Nat → Nat → Nat → Nat → Nat → Nat → Nat → Nat → Nat → Nat → Nat → Nat → Nat → Nat → Nat → List Nat
 | [], e0, e1, e2, e3, e4, e5, e6, e7, v0, v1, v2, v3, v4, v5, v6, v7 => [e0, e1, e2, e3, e4, e5, e6, e7, v0, v1, v2, v3, v4, v5, v6, v7]
 | b :: bs, e0, e1, e2, e3, e4, e5, e6, e7, v0, v1, v2, v3, v4, v5, v6, v7 => nodeN (fun f0 f1 f2 f3 f4 f5 f6 f7 => match b with
  | true => nodeN (fun u0 u1 u2 u3 u4 u5 u6 u7 => oneN sh sl bs f0 f1 f2 f3 f4 f5 f6 f7 u0 u1 u2 u3 u4 u5 u6 u7) e0 e1 e2 e3 e4 e5 e6 e7 0 0 v0 v1 v2 v3 v4 v5 v6 v7 sh sl
  | false => nodeN (fun u0 u1 u2 u3 u4 u5 u6 u7 => oneN sh sl bs f0 f1 f2 f3 f4 f5 f6 f7 u0 u1 u2 u3 u4 u5 u6 u7) v0 v1 v2 v3 v4 v5 v6 v7 sh sl e0 e1 e2 e3 e4 e5 e6 e7 0 0) e0 e1 e2 e3 e4 e5 e6 e7 0 0 e0 e1 e2 e3 e4 e5 e6 e7 0 0
def oneL (sh sl : Nat) (bs : List Bool) (X : List Nat) : List Nat := match X with
 | [e0, e1, e2, e3, e4, e5, e6, e7, v0, v1, v2, v3, v4, v5, v6, v7] => oneN sh sl bs e0 e1 e2 e3 e4 e5 e6 e7 v0 v1 v2 v3 v4 v5 v6 v7
 | _ => []
theorem part_lone (t : Lf) (h : Nat) : partNd KS SS (h + 1) [t] = if bitAt t.k h = 1 then brNd KS SS (emptyNd KS SS h) (partNd KS SS h [t]) else brNd KS SS (partNd KS SS h [t]) (emptyNd KS SS h) := by
 show brNd KS SS (partNd KS SS h (side [t] h 0)) (partNd KS SS h (side [t] h 1)) = _
 have hb := bitAt_lt t.k h
 unfold side
 by_cases e : bitAt t.k h = 1
 · rw [if_pos e, List.filter_cons_of_neg (by simp [e]), List.filter_cons_of_pos (by simp [e]), List.filter_nil, List.filter_nil, part_nil]
 · have e0 : bitAt t.k h = 0 := by omega
   rw [if_neg e, List.filter_cons_of_pos (by simp [e0]), List.filter_cons_of_neg (by simp [e0]), List.filter_nil, List.filter_nil, part_nil]
def Clm (t : Lf) (h : Nat) (X : List Nat) : Prop := ∃ e0 e1 e2 e3 e4 e5 e6 e7 v0 v1 v2 v3 v4 v5 v6 v7 : Wd, X = [e0.toNat, e1.toNat, e2.toNat, e3.toNat, e4.toNat, e5.toNat, e6.toNat, e7.toNat, v0.toNat, v1.toNat, v2.toNat, v3.toNat, v4.toNat, v5.toNat, v6.toNat, v7.toNat] ∧ emptyNd KS SS h = ⟨[e0, e1, e2, e3, e4, e5, e6, e7].flatMap bytesOf, 0⟩ ∧ partNd KS SS h [t] = ⟨[v0, v1, v2, v3, v4, v5, v6, v7].flatMap bytesOf, t.s⟩
theorem clm_go (t : Lf) (ht : t.s < 18446744073709551616) : ∀ (bs : List Bool) (h : Nat) (X : List Nat), Clm t h X → (∀ i, i < bs.length → bs.getD i false = decide (bitAt t.k (h + i) = 1)) → Clm t (h + bs.length) (oneL (t.s / 4294967296) (t.s % 4294967296) bs X)
 | [], h, X, hX, _ => by
  obtain ⟨e0, e1, e2, e3, e4, e5, e6, e7, v0, v1, v2, v3, v4, v5, v6, v7, rfl, h1, h2⟩ := hX
  exact ⟨e0, e1, e2, e3, e4, e5, e6, e7, v0, v1, v2, v3, v4, v5, v6, v7, rfl, h1, h2⟩
 | b :: bs, h, X, hX, hb => by
  obtain ⟨e0, e1, e2, e3, e4, e5, e6, e7, v0, v1, v2, v3, v4, v5, v6, v7, rfl, h1, h2⟩ := hX
  have hb0 : b = decide (bitAt t.k h = 1) := hb 0 (by simp)
  obtain ⟨f0, f1, f2, f3, f4, f5, f6, f7, d1, q1⟩ := node_is e0 e1 e2 e3 e4 e5 e6 e7 e0 e1 e2 e3 e4 e5 e6 e7 0 0 (by decide) (by decide)
  have s1 : emptyNd KS SS (h + 1) = ⟨[f0, f1, f2, f3, f4, f5, f6, f7].flatMap bytesOf, 0⟩ := by
   show brNd KS SS (emptyNd KS SS h) (emptyNd KS SS h) = _
   rw [h1]
   unfold brNd
   rw [d1]
   rfl
  have hb' : ∀ i, i < bs.length → bs.getD i false = decide (bitAt t.k (h + 1 + i) = 1) := fun i hi => by
   have := hb (i + 1) (by simpa using hi)
   rw [show h + 1 + i = h + (i + 1) by omega]
   exact this
  have e : h + (b :: bs).length = h + 1 + bs.length := by rw [List.length_cons]; omega
  rw [e]
  cases b with
  | true =>
   obtain ⟨u0, u1, u2, u3, u4, u5, u6, u7, d2, q2⟩ := node_is e0 e1 e2 e3 e4 e5 e6 e7 v0 v1 v2 v3 v4 v5 v6 v7 0 t.s (by decide) ht
   have Aa :  bitAt t.k h = 1 := of_decide_eq_true hb0.symm
   have s2 : partNd KS SS (h + 1) [t] = ⟨[u0, u1, u2, u3, u4, u5, u6, u7].flatMap bytesOf, t.s⟩ := by
    rw [part_lone, if_pos Aa, h1, h2]
    unfold brNd
    rw [d2]
    simp
   have IH := clm_go t ht bs (h + 1) [f0.toNat, f1.toNat, f2.toNat, f3.toNat, f4.toNat, f5.toNat, f6.toNat, f7.toNat, u0.toNat, u1.toNat, u2.toNat, u3.toNat, u4.toNat, u5.toNat, u6.toNat, u7.toNat] ⟨f0, f1, f2, f3, f4, f5, f6, f7, u0, u1, u2, u3, u4, u5, u6, u7, rfl, s1, s2⟩ hb'
   have g1 := q1 (List Nat) (fun f0 f1 f2 f3 f4 f5 f6 f7 => match true with
    | true => nodeN (fun u0 u1 u2 u3 u4 u5 u6 u7 => oneN (t.s / 4294967296) (t.s % 4294967296) bs f0 f1 f2 f3 f4 f5 f6 f7 u0 u1 u2 u3 u4 u5 u6 u7) e0.toNat e1.toNat e2.toNat e3.toNat e4.toNat e5.toNat e6.toNat e7.toNat 0 0 v0.toNat v1.toNat v2.toNat v3.toNat v4.toNat v5.toNat v6.toNat v7.toNat (t.s / 4294967296) (t.s % 4294967296)
    | false => nodeN (fun u0 u1 u2 u3 u4 u5 u6 u7 => oneN (t.s / 4294967296) (t.s % 4294967296) bs f0 f1 f2 f3 f4 f5 f6 f7 u0 u1 u2 u3 u4 u5 u6 u7) v0.toNat v1.toNat v2.toNat v3.toNat v4.toNat v5.toNat v6.toNat v7.toNat (t.s / 4294967296) (t.s % 4294967296) e0.toNat e1.toNat e2.toNat e3.toNat e4.toNat e5.toNat e6.toNat e7.toNat 0 0)
   have g2 := q2 (List Nat) (fun u0 u1 u2 u3 u4 u5 u6 u7 => oneN (t.s / 4294967296) (t.s % 4294967296) bs f0.toNat f1.toNat f2.toNat f3.toNat f4.toNat f5.toNat f6.toNat f7.toNat u0 u1 u2 u3 u4 u5 u6 u7)
   have g : oneL (t.s / 4294967296) (t.s % 4294967296) (true :: bs) [e0.toNat, e1.toNat, e2.toNat, e3.toNat, e4.toNat, e5.toNat, e6.toNat, e7.toNat, v0.toNat, v1.toNat, v2.toNat, v3.toNat, v4.toNat, v5.toNat, v6.toNat, v7.toNat] = oneL (t.s / 4294967296) (t.s % 4294967296) bs [f0.toNat, f1.toNat, f2.toNat, f3.toNat, f4.toNat, f5.toNat, f6.toNat, f7.toNat, u0.toNat, u1.toNat, u2.toNat, u3.toNat, u4.toNat, u5.toNat, u6.toNat, u7.toNat] := g1.trans g2
   rw [g]
   exact IH
  | false =>
   obtain ⟨u0, u1, u2, u3, u4, u5, u6, u7, d2, q2⟩ := node_is v0 v1 v2 v3 v4 v5 v6 v7 e0 e1 e2 e3 e4 e5 e6 e7 t.s 0 ht (by decide)
   have Aa : ¬ bitAt t.k h = 1 := of_decide_eq_false hb0.symm
   have s2 : partNd KS SS (h + 1) [t] = ⟨[u0, u1, u2, u3, u4, u5, u6, u7].flatMap bytesOf, t.s⟩ := by
    rw [part_lone, if_neg Aa, h1, h2]
    unfold brNd
    rw [d2]
    simp
   have IH := clm_go t ht bs (h + 1) [f0.toNat, f1.toNat, f2.toNat, f3.toNat, f4.toNat, f5.toNat, f6.toNat, f7.toNat, u0.toNat, u1.toNat, u2.toNat, u3.toNat, u4.toNat, u5.toNat, u6.toNat, u7.toNat] ⟨f0, f1, f2, f3, f4, f5, f6, f7, u0, u1, u2, u3, u4, u5, u6, u7, rfl, s1, s2⟩ hb'
   have g1 := q1 (List Nat) (fun f0 f1 f2 f3 f4 f5 f6 f7 => match false with
    | true => nodeN (fun u0 u1 u2 u3 u4 u5 u6 u7 => oneN (t.s / 4294967296) (t.s % 4294967296) bs f0 f1 f2 f3 f4 f5 f6 f7 u0 u1 u2 u3 u4 u5 u6 u7) e0.toNat e1.toNat e2.toNat e3.toNat e4.toNat e5.toNat e6.toNat e7.toNat 0 0 v0.toNat v1.toNat v2.toNat v3.toNat v4.toNat v5.toNat v6.toNat v7.toNat (t.s / 4294967296) (t.s % 4294967296)
    | false => nodeN (fun u0 u1 u2 u3 u4 u5 u6 u7 => oneN (t.s / 4294967296) (t.s % 4294967296) bs f0 f1 f2 f3 f4 f5 f6 f7 u0 u1 u2 u3 u4 u5 u6 u7) v0.toNat v1.toNat v2.toNat v3.toNat v4.toNat v5.toNat v6.toNat v7.toNat (t.s / 4294967296) (t.s % 4294967296) e0.toNat e1.toNat e2.toNat e3.toNat e4.toNat e5.toNat e6.toNat e7.toNat 0 0)
   have g2 := q2 (List Nat) (fun u0 u1 u2 u3 u4 u5 u6 u7 => oneN (t.s / 4294967296) (t.s % 4294967296) bs f0.toNat f1.toNat f2.toNat f3.toNat f4.toNat f5.toNat f6.toNat f7.toNat u0 u1 u2 u3 u4 u5 u6 u7)
   have g : oneL (t.s / 4294967296) (t.s % 4294967296) (false :: bs) [e0.toNat, e1.toNat, e2.toNat, e3.toNat, e4.toNat, e5.toNat, e6.toNat, e7.toNat, v0.toNat, v1.toNat, v2.toNat, v3.toNat, v4.toNat, v5.toNat, v6.toNat, v7.toNat] = oneL (t.s / 4294967296) (t.s % 4294967296) bs [f0.toNat, f1.toNat, f2.toNat, f3.toNat, f4.toNat, f5.toNat, f6.toNat, f7.toNat, u0.toNat, u1.toNat, u2.toNat, u3.toNat, u4.toNat, u5.toNat, u6.toNat, u7.toNat] := g1.trans g2
   rw [g]
   exact IH
/- Bytes appended to a row of one's own, whatever bytes; the reference's turn, Eight and Tables.Sum lean on it. -/
open Go.ChangeShapes Go.WideShapes Go.ChangeAt Go.RowKit Go.Maps

theorem run_append_zero {P : Program} {w : World} (base : Nat) (t ty e : TypeId) (i : TypeInfo) (size : Nat) (ht : P.underlying t = some (.slice e)) (hi : P.info? e = some i)
   (v : Value) (n : Nat) (xs : List Value) (hown : w.ownsRow base e size v n xs) (sa : Option Addr) (sc : Nat) :
   (Builtin.append_ #[t, t] ty #[v, .slice sa 0 sc]).run P w = .ok v w := by
 rcases hown.2 with ⟨rfl, rfl⟩ | ⟨g, cap, cur, rfl, _, _, hnc, _⟩
 · cases sa <;> simp [Builtin.append_, run_underlying ht, sizeOf, typeInfo, hi, Builtin.lenOf, Builtin.firstCells, loadCells, loadCellsFrom, Result.andThen]
 · cases sa <;> simp [Builtin.append_, run_underlying ht, sizeOf, typeInfo, hi, Builtin.lenOf, Builtin.firstCells, hnc, storeCells, loadCells, loadCellsFrom, Result.andThen]
theorem wpList_append_zero {P : Program} {w : World} {ops : Array Oper} {rest : List Oper} {o : Oper} {a : Act} {Q : Exit → Act → World → Prop} (hgd : o.guard = none) (s x : Operand) (t : TypeId)
  (ho : o.op = .call { callee := .builtin .append, args := #[s, x], argTypes := #[t, t] })
  (base : Nat) (e : TypeId) (i : TypeInfo) (size : Nat) (ht : P.underlying t = some (.slice e)) (hi : P.info? e = some i)
  (v : Value) (n : Nat) (xs : List Value) (hs : a.eval s = v) (hown : w.ownsRow base e size v n xs) (sa : Option Addr) (sc : Nat) (hx : a.eval x = .slice sa 0 sc)
  (h : wpList P ops Q rest (a.put o.dst v) w) : wpList P ops Q (o :: rest) a w := by
 refine wpList_plain hgd fun K hK => ?_
 have Aa := run_append_zero (P := P) (w := w) base t o.type e i size ht hi v n xs hown sa sc
 unfold Oper.wp
 simp [execOp, ho, resolve, invoke, builtin, hs, hx, Aa, Result.andThen]
 exact hK _ _ h
theorem info_byte : (Tryz.prog.info? 5).map (fun i => (i.zero, i.size, i.bytes)) = some (some (.int .u8 0), 1, 1) := by kernel_rfl
theorem own_form {w : World} {base : Nat} {e : TypeId} {size n : Nat} {v : Value} {xs : List Value} (h : w.ownsRow base e size v n xs) : ∃ a c, v = .slice a n c := by
 rcases h.2 with ⟨rfl, rfl⟩ | ⟨g, cap, cur, rfl, _⟩
 · exact ⟨none, 0, rfl⟩
 · exact ⟨_, _, rfl⟩
theorem wpList_append_bytes {w : World} {ops : Array Oper} {rest : List Oper} {o : Oper} {a : Act} {Q : Exit → Act → World → Prop} (hgd : o.guard = none) (s x : Operand)
   (ho : o.op = .call { callee := .builtin .append, args := #[s, x], argTypes := #[48, 48] })
   (base : Nat) (v : Value) (n : Nat) (xs : List Value) (hs : a.eval s = v) (hown : w.ownsRow base 5 1 v n xs)
   (g : Nat) (vx : Value) (bs : List Nat) (hx : a.eval x = vx) (hb : Bytes w g vx bs) (hlen : n + bs.length ≤ 100000000) (hbase : base ≤ w.heap.size)
   (h : ∀ oa oc w', w'.ownsRow base 5 1 (.slice oa (n + bs.length) oc) (n + bs.length) (xs ++ bcells bs) → w.grownBy w' v.ownBlock → wpList Tryz.prog ops Q rest (a.put o.dst (.slice oa (n + bs.length) oc)) w') : wpList Tryz.prog ops Q (o :: rest) a w := by
 obtain ⟨ii, his, Aa, Ab, Ac⟩ := info_parts info_byte
 obtain ⟨sa, sc, rfl, h1, h2, h3⟩ := hb
 rcases Nat.eq_zero_or_pos bs.length with h0 | h0
 · have e : bs = [] := List.eq_nil_of_length_eq_zero h0
   subst e
   obtain ⟨oa, oc, rfl⟩ := own_form hown
   refine wpList_append_zero hgd s x 48 ho base 5 ii 1 Tryz.underlying48 his _ n xs hs hown sa sc hx ?_
   refine h oa oc w ?_ (World.grownBy.refl w _)
   simpa [bcells] using hown
 · obtain ⟨bg, bo, rfl, _, hc⟩ := h3 h0
   refine wpList_append_own w hgd s x 48 ho base 5 ii (.int .u8 0) 1 1 Tryz.underlying48 his Aa Ab Ac rfl (by decide) v n xs hs hown ⟨bg, bo, none⟩ bs.length sc (bcells bs) hx (by rw [bcells_length, Nat.mul_one]) (fun j u hu => ?_) (bcells_oneC bs) (by unfold maxLen; omega) (by omega) hbase ?_
   · have hj := (List.getElem?_eq_some_iff.1 hu).1
     rw [bcells_length] at hj
     rw [Addr.add_mid, hc j hj]
     rw [bcells_get bs j hj] at hu
     exact hu
   · intro v' w' p1 p2 _
     obtain ⟨oa, oc, rfl⟩ := own_form p1
     exact h oa oc w' p1 p2
theorem step_append_bytes {w : World} {ops : Array Oper} {o : Oper} {a : Act} {K : Act → World → Prop} {Q : Exit → Act → World → Prop} {E : Prop} (hgd : o.guard = none) (s x : Operand)
   (ho : o.op = .call { callee := .builtin .append, args := #[s, x], argTypes := #[48, 48] })
   (base : Nat) (v : Value) (n : Nat) (xs : List Value) (hs : a.eval s = v) (hown : w.ownsRow base 5 1 v n xs)
   (g : Nat) (vx : Value) (bs : List Nat) (hx : a.eval x = vx) (hb : Bytes w g vx bs) (hlen : n + bs.length ≤ 100000000) (hbase : base ≤ w.heap.size)
   (h : ∀ oa oc w', w'.ownsRow base 5 1 (.slice oa (n + bs.length) oc) (n + bs.length) (xs ++ bcells bs) → w.grownBy w' v.ownBlock → K (a.put o.dst (.slice oa (n + bs.length) oc)) w') :
   if Region.wanted o (yielded ops a.tmps) = true then Oper.wp Tryz.prog o a w K Q else E := by
 have hw : Region.wanted o (yielded ops a.tmps) = true := by simp [Region.wanted, hgd]
 rw [if_pos hw]
 obtain ⟨ii, his, Aa, Ab, Ac⟩ := info_parts info_byte
 obtain ⟨sa, sc, rfl, h1, h2, h3⟩ := hb
 rcases Nat.eq_zero_or_pos bs.length with h0 | h0
 · have e : bs = [] := List.eq_nil_of_length_eq_zero h0
   subst e
   obtain ⟨oa, oc, rfl⟩ := own_form hown
   have Ad := run_append_zero (P := Tryz.prog) (w := w) base 48 o.type 5 ii 1 Tryz.underlying48 his _ n xs hown sa sc
   have h' := h oa oc w (by simpa [bcells] using hown) (World.grownBy.refl w _)
   unfold Oper.wp
   simp [execOp, ho, resolve, invoke, builtin, hs, hx, Ad, Result.andThen]
   exact h'
 · obtain ⟨bg, bo, rfl, _, hc⟩ := h3 h0
   refine wp_append_own w s x 48 ho base 5 ii (.int .u8 0) 1 1 Tryz.underlying48 his Aa Ab Ac rfl (by decide) v n xs hs hown ⟨bg, bo, none⟩ bs.length sc (bcells bs) hx (by rw [bcells_length, Nat.mul_one]) (fun j u hu => ?_) (bcells_oneC bs) (by unfold maxLen; omega) (by omega) hbase ?_
   · have hj := (List.getElem?_eq_some_iff.1 hu).1
     rw [bcells_length] at hj
     rw [Addr.add_mid, hc j hj]
     rw [bcells_get bs j hj] at hu
     exact hu
   · intro v' w' p1 p2 _
     obtain ⟨oa, oc, rfl⟩ := own_form p1
     exact h oa oc w' p1 p2
theorem own_bytes {w : World} {base n g : Nat} {v : Value} {bs : List Nat} (h : w.ownsRow base 5 1 v n (bcells bs)) (hn : bs.length = n) (hb : ∀ x ∈ bs, x < 256) (hg : w.heap.size ≤ g) : Bytes w g v bs := by
 rcases h.2 with ⟨rfl, h0⟩ | ⟨b, cap, cur, rfl, hB, hh, h1, h2, h3, h4⟩
 · exact ⟨none, 0, by rw [hn, h0], by omega, hb, fun h => absurd h (by omega)⟩
 · refine ⟨_, cap, by rw [hn], by omega, hb, fun h0 => ⟨b, 0, rfl, by have := (Array.getElem?_eq_some_iff.1 hh).1; omega, fun i hi => ?_⟩⟩
   have hg2 : Has w b 5 cur := hh
   rw [Nat.zero_add]
   refine hg2.cell_is ?_
   rw [← Array.getElem?_toList]
   have e2 : cur.toList[i]? = (cur.toList.take (n * 1))[i]? := by rw [List.getElem?_take_of_lt (by omega)]
   rw [e2, h4]
   exact bcells_get bs i hi
section
/- Rows of structs of any make: in memory, in a row of one's own; appended, and stored into. -/

section
variable {α : Type} {cl : α → List Value} {k : Nat}
structure RowsAt (cl : α → List Value) (k : Nat) (w : World) (A : Option Addr) (n : Nat) (xs : List α) : Prop where
 len : xs.length = n
 sz : ∀ x ∈ xs, (cl x).length = k
 at_ : 0 < n → ∃ b o, A = some ⟨b, o, none⟩ ∧ b < w.heap.size ∧ ∀ (i : Nat) x, xs[i]? = some x → w.rangeAt b (o + i * k) (cl x)
theorem RowsAt.kept {S : Nat → Prop} {w w' : World} {A : Option Addr} {n : Nat} {xs : List α} (h : RowsAt cl k w A n xs) (hk : Kept S w w') (hs : ∀ a, A = some a → ¬ S a.block) : RowsAt cl k w' A n xs := by
 refine ⟨h.len, h.sz, fun hn => ?_⟩
 obtain ⟨b, o, e, hb, hr⟩ := h.at_ hn
 exact ⟨b, o, e, Nat.lt_of_lt_of_le hb hk.size, fun i x hx => rangeAt_kept (hr i x hx) hk (hs _ e)⟩
theorem RowsAt.below {w w' : World} {A : Option Addr} {n : Nat} {xs : List α} (h : RowsAt cl k w A n xs) (hb : Below w.heap.size w w') : RowsAt cl k w' A n xs :=
 h.kept (Kept.of_below (S := fun _ => False) hb) (fun _ _ e => e)
theorem gflat_len (xs : List α) (h : ∀ x ∈ xs, (cl x).length = k) : (xs.flatMap cl).length = xs.length * k := by
 induction xs with
 | nil => simp
 | cons x xs ih => rw [List.flatMap_cons, List.length_append, h x (List.mem_cons_self ..), ih (fun y hy => h y (List.mem_cons_of_mem _ hy)), List.length_cons, Nat.succ_mul, Nat.add_comm]
theorem gflat_get (xs : List α) (h : ∀ x ∈ xs, (cl x).length = k) (i j : Nat) (x : α) (hi : xs[i]? = some x) (hj : j < k) : (xs.flatMap cl)[i * k + j]? = (cl x)[j]? := by
 induction xs generalizing i with
 | nil => simp at hi
 | cons p xs ih =>
  rw [List.flatMap_cons]
  have hp := h p (List.mem_cons_self ..)
  cases i with
  | zero =>
   simp only [List.getElem?_cons_zero, Option.some.injEq] at hi
   subst hi
   rw [Nat.zero_mul, Nat.zero_add, List.getElem?_append_left (by rw [hp]; exact hj)]
  | succ i =>
   rw [List.getElem?_cons_succ] at hi
   rw [List.getElem?_append_right (by rw [hp, Nat.succ_mul]; omega), hp, show (i + 1) * k + j - k = i * k + j by rw [Nat.succ_mul]; omega]
   exact ih (fun y hy => h y (List.mem_cons_of_mem _ hy)) i hi
theorem RowsAt.cells {w : World} {b o n : Nat} {xs : List α} (h : RowsAt cl k w (some ⟨b, o, none⟩) n xs) : ∀ (j : Nat) u, (xs.flatMap cl)[j]? = some u → w.cell? ⟨b, o + j, none⟩ = some u := by
 intro j u hu
 have hj := (List.getElem?_eq_some_iff.1 hu).1
 rw [gflat_len xs h.sz] at hj
 have hk : 0 < k := Nat.pos_of_ne_zero (fun e => by subst e; simp at hj)
 have hi : j / k < xs.length := Nat.div_lt_of_lt_mul (by rw [Nat.mul_comm]; exact hj)
 obtain ⟨b', o', e, _, hr⟩ := h.at_ (Nat.lt_of_le_of_lt (Nat.zero_le _) (h.len ▸ hi))
 injection e with e
 injection e with e1 e2
 subst e1 e2
 have hx := List.getElem?_eq_getElem hi
 have hjd : j / k * k + j % k = j := Nat.div_add_mod' j k
 have h2 := gflat_get xs h.sz (j / k) (j % k) _ hx (Nat.mod_lt _ hk)
 rw [hjd, hu] at h2
 have := hr (j / k) _ hx (j % k) u h2.symm
 rwa [Nat.add_assoc, hjd] at this
theorem own_rows {w : World} {base n : Nat} {e : TypeId} {a : Option Addr} {c : Nat} {xs : List α} (h : w.ownsRow base e k (.slice a n c) n (xs.flatMap cl)) (hl : xs.length = n) (hz : ∀ x ∈ xs, (cl x).length = k) :
   RowsAt cl k w a n xs ∧ (∀ A, a = some A → base ≤ A.block ∧ A.block < w.heap.size) := by
 refine ⟨⟨hl, hz, fun hn => ?_⟩, fun A e => ?_⟩
 · obtain ⟨g, cap, cur, e, hb, hh, h1, h2, h3, h4⟩ := own_open h hn
   injection e with e1 e2 e3
   refine ⟨g, 0, e1, hh.lt, fun i x hx j u hu => ?_⟩
   have hj := (List.getElem?_eq_some_iff.1 hu).1
   rw [hz x (List.mem_of_getElem? hx)] at hj
   have hi := (List.getElem?_eq_some_iff.1 hx).1
   have hlt : i * k + j < n * k := by
     have : (i + 1) * k ≤ n * k := Nat.mul_le_mul_right k (by omega)
     rw [Nat.succ_mul] at this
     omega
   rw [Nat.zero_add]
   exact hh.cell_is (by rw [h4 _ hlt, gflat_get xs hz i j x hx hj]; exact hu)
 · rcases h.2 with ⟨e2, _⟩ | ⟨g, cap, cur, e2, hb, hh, _⟩
   · injection e2 with e2; rw [e] at e2; cases e2
   · injection e2 with e2
     rw [e] at e2
     injection e2 with e2
     subst e2
     exact ⟨hb, (Array.getElem?_eq_some_iff.1 hh).1⟩
theorem rows_has {w : World} {g : Nat} {t : TypeId} {xs : List α} (h : Has w g t (xs.flatMap cl).toArray) (hz : ∀ x ∈ xs, (cl x).length = k) : RowsAt cl k w (some ⟨g, 0, none⟩) xs.length xs := by
 refine ⟨rfl, hz, fun hn => ⟨g, 0, rfl, h.lt, fun i x hx j u hu => ?_⟩⟩
 have hj := (List.getElem?_eq_some_iff.1 hu).1
 rw [hz x (List.mem_of_getElem? hx)] at hj
 rw [Nat.zero_add]
 exact h.cell_is (by rw [List.getElem?_toArray, gflat_get xs hz i j x hx hj]; exact hu)
theorem own_set {w : World} {base n : Nat} {e : TypeId} {a : Option Addr} {c : Nat} {xs : List α} (h : w.ownsRow base e k (.slice a n c) n (xs.flatMap cl)) (hl : xs.length = n) (hz : ∀ x ∈ xs, (cl x).length = k)
   {p : Nat} (hp : p < n) (x y : α) (hx : xs[p]? = some x) (hy : (cl y).length = k) (o : Nat) (L : List Value) (ho : o + L.length ≤ k) (hc : ∀ j, j < k → (cl y)[j]? = if o ≤ j ∧ j < o + L.length then L[j - o]? else (cl x)[j]?) :
   ∃ b, a = some ⟨b, 0, none⟩ ∧ base ≤ b ∧ w.there b (p * k + o) L.length ∧ (w.setCells b (p * k + o) L).ownsRow base e k (.slice a n c) n ((xs.set p y).flatMap cl) ∧ Kept (· = b) w (w.setCells b (p * k + o) L) := by
 obtain ⟨b, cap, cur, e0, hB, hh, h1, h2, h3, h4⟩ := own_open h (by omega)
 injection e0 with e1 e2 e3
 subst e1 e3
 have hpn : (p + 1) * k ≤ n * k := Nat.mul_le_mul_right k hp
 rw [Nat.succ_mul] at hpn
 have hnc : n * k ≤ c * k := Nat.mul_le_mul_right k h1
 obtain ⟨cur', p1, p2, p3, p4⟩ := Has.setCells L (p * k + o) w cur hh
 have hz' : ∀ x ∈ xs.set p y, (cl x).length = k := fun u hu => by
   rcases List.mem_or_eq_of_mem_set hu with h | rfl
   · exact hz u h
   · exact hy
 have Aa : ((xs.set p y).flatMap cl).length = n * k := by rw [gflat_len _ hz', List.length_set, hl]
 refine ⟨b, rfl, hB, hh.there _ _ (by omega), ⟨Aa, .inr ⟨b, c, cur', rfl, hB, p1, h1, h2, by rw [p2, h3], ?_⟩⟩, p4⟩
 apply List.ext_getElem?
 intro j
 rw [List.getElem?_take]
 by_cases hj : j < n * k
 · rw [if_pos hj, Array.getElem?_toList, p3 j (by omega)]
   have hk : 0 < k := Nat.pos_of_ne_zero (fun e => by subst e; simp at hj)
   have hi : j / k < n := Nat.div_lt_of_lt_mul (by rw [Nat.mul_comm]; exact hj)
   have hjd : j / k * k + j % k = j := Nat.div_add_mod' j k
   have hr := Nat.mod_lt j hk
   by_cases e : j / k = p
   · have hx' : (xs.set p y)[j / k]? = some y := by rw [e, List.getElem?_set_self (by omega)]
     have h5 := gflat_get _ hz' (j / k) (j % k) y hx' hr
     have h6 := gflat_get _ hz (j / k) (j % k) x (by rw [e]; exact hx) hr
     rw [hjd] at h5 h6
     rw [h5, hc _ hr]
     rw [e] at hjd
     by_cases hin : p * k + o ≤ j ∧ j < p * k + o + L.length
     · rw [if_pos hin, if_pos (by omega)]
       congr 1; omega
     · rw [if_neg hin, if_neg (by omega), h4 j hj]
       exact h6
   · have hx' : (xs.set p y)[j / k]? = some xs[j / k] := by rw [List.getElem?_set_ne (fun h => e h.symm)]; exact List.getElem?_eq_getElem (by omega)
     have h5 := gflat_get _ hz' (j / k) (j % k) _ hx' hr
     have h6 := gflat_get _ hz (j / k) (j % k) _ (List.getElem?_eq_getElem (by omega)) hr
     rw [hjd] at h5 h6
     rw [h5]
     rw [if_neg, h4 j hj]
     · exact h6
     · intro ⟨q1, q2⟩
       rcases Nat.lt_or_gt_of_ne e with q | q
       · have : (j / k + 1) * k ≤ p * k := Nat.mul_le_mul_right k q
         rw [Nat.succ_mul] at this
         omega
       · have : (p + 1) * k ≤ j / k * k := Nat.mul_le_mul_right k q
         rw [Nat.succ_mul] at this
         omega
 · rw [if_neg hj, List.getElem?_eq_none (by omega)]
theorem wpList_append_rows {P : Program} {w : World} {ops : Array Oper} {rest : List Oper} {o : Oper} {a : Act} {Q : Exit → Act → World → Prop} (hgd : o.guard = none) (s x : Operand) (t : TypeId)
   (ho : o.op = .call { callee := .builtin .append, args := #[s, x], argTypes := #[t, t] })
   (base : Nat) (e : TypeId) (z : Value) (by_ : Nat) (ht : P.underlying t = some (.slice e)) (hinfo : (P.info? e).map (fun i => (i.zero, i.size, i.bytes)) = some (some z, k, by_)) (hzs : z.cells.size = k) (hk : 0 < k)
   (v : Value) (n : Nat) (ys : List Value) (hs : a.eval s = v) (hown : w.ownsRow base e k v n ys) (A : Option Addr) (m c : Nat) (xs : List α) (hx : a.eval x = .slice A m c) (hr : RowsAt cl k w A m xs) (h1 : ∀ x ∈ xs, ∀ u ∈ cl x, u.oneCell' = true)
   (h63 : n + m ≤ maxLen) (hbytes : (n + m) * by_ ≤ 140737488355328) (hbase : base ≤ w.heap.size)
   (h : ∀ oa oc w', w'.ownsRow base e k (.slice oa (n + m) oc) (n + m) (ys ++ xs.flatMap cl) → w.grownBy w' v.ownBlock → wpList P ops Q rest (a.put o.dst (.slice oa (n + m) oc)) w') : wpList P ops Q (o :: rest) a w := by
 obtain ⟨ii, his, Aa, Ab, Ac⟩ := info_parts hinfo
 rcases Nat.eq_zero_or_pos m with h0 | h0
 · subst h0
   have e0 : xs = [] := List.eq_nil_of_length_eq_zero hr.len
   subst e0
   obtain ⟨oa, oc, rfl⟩ := own_form hown
   refine wpList_append_zero hgd s x t ho base e ii k ht his _ n ys hs hown A c hx ?_
   exact h oa oc w (by simpa using hown) (World.grownBy.refl w _)
 · obtain ⟨b, off, rfl, _, hc⟩ := hr.at_ h0
   refine wpList_append_own w hgd s x t ho base e ii z k by_ ht his Aa Ab Ac hzs hk v n ys hs hown ⟨b, off, none⟩ m c (xs.flatMap cl) hx (by rw [gflat_len xs hr.sz, hr.len]) (fun j u hu => ?_) ?_ h63 hbytes hbase ?_
   · rw [Addr.add_mid]; exact hr.cells j u hu
   · intro u hu
     obtain ⟨y, hy, hu⟩ := List.mem_flatMap.1 hu
     exact h1 y hy u hu
   · intro v' w' p1 p2 _
     obtain ⟨oa, oc, rfl⟩ := own_form p1
     exact h oa oc w' p1 p2
theorem step_append_rows {P : Program} {w : World} {ops : Array Oper} {o : Oper} {a : Act} {K : Act → World → Prop} {Q : Exit → Act → World → Prop} {E : Prop} (hgd : o.guard = none) (s x : Operand) (t : TypeId)
   (ho : o.op = .call { callee := .builtin .append, args := #[s, x], argTypes := #[t, t] })
   (base : Nat) (e : TypeId) (z : Value) (by_ : Nat) (ht : P.underlying t = some (.slice e)) (hinfo : (P.info? e).map (fun i => (i.zero, i.size, i.bytes)) = some (some z, k, by_)) (hzs : z.cells.size = k) (hk : 0 < k)
   (v : Value) (n : Nat) (ys : List Value) (hs : a.eval s = v) (hown : w.ownsRow base e k v n ys) (A : Option Addr) (m c : Nat) (xs : List α) (hx : a.eval x = .slice A m c) (hr : RowsAt cl k w A m xs) (h1 : ∀ x ∈ xs, ∀ u ∈ cl x, u.oneCell' = true)
   (h63 : n + m ≤ maxLen) (hbytes : (n + m) * by_ ≤ 140737488355328) (hbase : base ≤ w.heap.size)
   (h : ∀ oa oc w', w'.ownsRow base e k (.slice oa (n + m) oc) (n + m) (ys ++ xs.flatMap cl) → w.grownBy w' v.ownBlock → K (a.put o.dst (.slice oa (n + m) oc)) w') :
   if Region.wanted o (yielded ops a.tmps) = true then Oper.wp P o a w K Q else E := by
 have hw : Region.wanted o (yielded ops a.tmps) = true := by simp [Region.wanted, hgd]
 rw [if_pos hw]
 obtain ⟨ii, his, Aa, Ab, Ac⟩ := info_parts hinfo
 rcases Nat.eq_zero_or_pos m with h0 | h0
 · subst h0
   have e0 : xs = [] := List.eq_nil_of_length_eq_zero hr.len
   subst e0
   obtain ⟨oa, oc, rfl⟩ := own_form hown
   have Ad := run_append_zero (P := P) (w := w) base t o.type e ii k ht his _ n ys hown A c
   have h' := h oa oc w (by simpa using hown) (World.grownBy.refl w _)
   unfold Oper.wp
   simp [execOp, ho, resolve, invoke, builtin, hs, hx, Ad, Result.andThen]
   exact h'
 · obtain ⟨b, off, rfl, _, hc⟩ := hr.at_ h0
   refine wp_append_own w s x t ho base e ii z k by_ ht his Aa Ab Ac hzs hk v n ys hs hown ⟨b, off, none⟩ m c (xs.flatMap cl) hx (by rw [gflat_len xs hr.sz, hr.len]) (fun j u hu => ?_) ?_ h63 hbytes hbase ?_
   · rw [Addr.add_mid]; exact hr.cells j u hu
   · intro u hu
     obtain ⟨y, hy, hu⟩ := List.mem_flatMap.1 hu
     exact h1 y hy u hu
   · intro v' w' p1 p2 _
     obtain ⟨oa, oc, rfl⟩ := own_form p1
     exact h oa oc w' p1 p2
end
theorem own_lt {w : World} {base n size : Nat} {e : TypeId} {v : Value} {xs : List Value} (h : w.ownsRow base e size v n xs) : ∀ k, v.ownBlock = some k → k < w.heap.size := by
 intro k hk
 rcases h.2 with ⟨rfl, _⟩ | ⟨g, cap, cur, rfl, _, hh, _⟩
 · simp [Value.ownBlock] at hk
 · simp [Value.ownBlock] at hk
   subst hk
   exact (Array.getElem?_eq_some_iff.1 hh).1
theorem yieldsIf_build {P : Program} {ops : Array Oper} {S : World → Prop} {op : Oper} {a : Act} (hw : Region.wanted op (yielded ops a.tmps) = true) (t : TypeId) (parts : Array (Nat × Operand)) (ho : op.op = .build t parts)
  (vs : Array (Nat × Value)) (hv : (parts.map fun (i, x) => (i, a.eval x)) = vs) (v : Value) (hrun : ∀ w, S w → (Instr.build t vs).run P w = .ok v w) : YieldsIf P ops S op v a :=
 .inl ⟨hw, fun w hw' => by
  unfold execOp
  simp only [ho, hv, Sem.run_bind, hrun w hw', Result.andThen_ok, Sem.run_pure]⟩
theorem bcells_cat (a b : List Nat) : bcells (a ++ b) = bcells a ++ bcells b := by simp [bcells]
theorem below_drew {B : Nat} {w w' : World} (h : Below B w w') : Below B w w'.drew := ⟨h.os, h.tape, h.output, h.size, h.block⟩
theorem new_row (w : World) (t : TypeId) (Z C : Array Value) : Has ((w.alloc (.cells Z t)).setRow w.heap.size C) w.heap.size t C ∧ Below w.heap.size w ((w.alloc (.cells Z t)).setRow w.heap.size C) := by
 rw [World.setRow_alloc_new]
 exact ⟨Has.new w _ _, (Below.refl _ _).alloc (Nat.le_refl _) _⟩
end
/- The plain law of layer 2: numbers as bytes, records as bytes, and back. -/

def bigN (x n : Nat) : List Nat := (List.range n).map fun i => x / 2 ^ (8 * (n - 1 - i)) % 256
theorem bigN_len (x n : Nat) : (bigN x n).length = n := by simp [bigN]
theorem bigN_lt (x n : Nat) : ∀ y ∈ bigN x n, y < 256 := by
 intro y hy
 obtain ⟨i, _, rfl⟩ := List.mem_map.1 hy
 exact Nat.mod_lt _ (by decide)
theorem bigN_at (x n j : Nat) (h : j < n) : (bigN x n)[j]? = some (x / 2 ^ (8 * (n - 1 - j)) % 256) := by
 simp [bigN, h]
theorem bigN_nth (x n j : Nat) (h : j < n) : (bigN x n).take (j + 1) = (bigN x n).take j ++ [x / 2 ^ (8 * (n - 1 - j)) % 256] := by
 rw [List.take_add_one, bigN_at x n j h]; rfl
theorem eight_big (x : Nat) : eight x = bigN x 8 := rfl
def szB (x : Nat) : List Nat := if x < 253 then [x] else if x < 65536 then 253 :: bigN x 2 else if x < 4294967296 then 254 :: bigN x 4 else 255 :: bigN x 8
theorem szB_len (x : Nat) : (szB x).length ≤ 9 ∧ 0 < (szB x).length := by
 unfold szB
 split
 · simp
 · split
   · simp [bigN_len]
   · split <;> simp [bigN_len]
theorem szB_lt (x : Nat) : ∀ y ∈ szB x, y < 256 := by
 intro y hy
 unfold szB at hy
 split at hy
 · rw [List.mem_singleton.1 hy]; omega
 · split at hy
   · rcases List.mem_cons.1 hy with rfl | h
     · decide
     · exact bigN_lt _ _ _ h
   · split at hy
     · rcases List.mem_cons.1 hy with rfl | h
       · decide
       · exact bigN_lt _ _ _ h
     · rcases List.mem_cons.1 hy with rfl | h
       · decide
       · exact bigN_lt _ _ _ h
def numB (l : List Nat) : Nat := l.foldl (fun a b => a * 256 + b) 0
theorem numB_snoc (l : List Nat) (b : Nat) : numB (l ++ [b]) = numB l * 256 + b := by simp [numB]
theorem snoc_ind {p : List Nat → Prop} (h0 : p []) (hs : ∀ l b, p l → p (l ++ [b])) (l : List Nat) : p l := by
 have h : ∀ l : List Nat, p l.reverse := by
  intro l
  induction l with
  | nil => exact h0
  | cons b l ih => rw [List.reverse_cons]; exact hs _ _ ih
 have := h l.reverse
 rwa [List.reverse_reverse] at this
theorem numB_lt (l : List Nat) (h : ∀ y ∈ l, y < 256) : numB l < 256 ^ l.length := by
 revert h
 induction l using snoc_ind with
 | h0 => intro _; simp [numB]
 | hs l b ih0 =>
  intro h
  have ih := ih0
  rw [numB_snoc, List.length_append]
  have h1 := ih (fun y hy => h y (List.mem_append_left _ hy))
  have h2 := h b (by simp)
  show _ < 256 ^ (l.length + 1)
  rw [Nat.pow_succ]
  have : numB l + 1 ≤ 256 ^ l.length := h1
  have := Nat.mul_le_mul_right 256 this
  omega
theorem numB_big (x : Nat) : ∀ (n : Nat) (j : Nat), j ≤ n → numB ((bigN x n).take j) = x / 2 ^ (8 * (n - j)) % 256 ^ j
 | n, 0, _ => by simp [numB, Nat.mod_one]
 | n, j + 1, h => by
  rw [bigN_nth x n j (by omega), numB_snoc, numB_big x n j (by omega)]
  have e1 : 8 * (n - j) = 8 * (n - 1 - j) + 8 := by omega
  have e2 : n - (j + 1) = n - 1 - j := by omega
  rw [e2, e1, Nat.pow_add, ← Nat.div_div_eq_div_mul]
  generalize x / 2 ^ (8 * (n - 1 - j)) = y
  rw [show (2 : Nat) ^ 8 = 256 by decide, Nat.pow_succ, Nat.mul_comm (256 ^ j) 256, Nat.mod_mul]
  omega
theorem numB_big' (x n : Nat) (h : x < 256 ^ n) : numB (bigN x n) = x := by
 have := numB_big x n n (Nat.le_refl n)
 rw [List.take_of_length_le (by rw [bigN_len]; exact Nat.le_refl _), Nat.sub_self, Nat.mul_zero, Nat.pow_zero, Nat.div_one, Nat.mod_eq_of_lt h] at this
 exact this
theorem big_numB : ∀ (l : List Nat), (∀ y ∈ l, y < 256) → bigN (numB l) l.length = l := by
 intro l
 induction l using snoc_ind with
 | h0 => intro _; rfl
 | hs l b ih =>
  intro h
  have h1 := ih (fun y hy => h y (List.mem_append_left _ hy))
  have hb := h b (by simp)
  rw [numB_snoc, List.length_append]
  show bigN (numB l * 256 + b) (l.length + 1) = _
  apply List.ext_getElem?
  intro i
  by_cases hi : i < l.length
  · have q := bigN_at (numB l) l.length i hi
    rw [h1] at q
    rw [bigN_at _ _ _ (by omega), List.getElem?_append_left hi, q]
    have e : 8 * (l.length + 1 - 1 - i) = 8 + 8 * (l.length - 1 - i) := by omega
    rw [e, Nat.pow_add, ← Nat.div_div_eq_div_mul, show (2 : Nat) ^ 8 = 256 by decide]
    rw [show (numB l * 256 + b) / 256 = numB l by omega]
  · by_cases e : i = l.length
    · subst e
      rw [bigN_at _ _ _ (by omega), List.getElem?_append_right (Nat.le_refl _), Nat.sub_self]
      rw [show l.length + 1 - 1 - l.length = 0 by omega, Nat.mul_zero, Nat.pow_zero, Nat.div_one]
      simp only [List.getElem?_cons_zero, Option.some.injEq]
      omega
    · rw [List.getElem?_eq_none (by rw [bigN_len]; omega), List.getElem?_eq_none (by simp; omega)]
structure Rec where
 t : Nat
 v : List Nat
def recB (r : Rec) : List Nat := szB r.t ++ (szB r.v.length ++ r.v)
def recE (rs : List Rec) (k : Nat) (r : Rec) : Nat :=
 if 0 < k ∧ r.t ≤ (rs[k - 1]?.map (·.t)).getD 0 then 22 else if 65536 < r.v.length then 3 else 0
def tvAt (rs : List Rec) : Nat → Except Nat (List Nat)
 | 0 => .ok []
 | k + 1 => match tvAt rs k with
  | .error e => .error e
  | .ok b => match rs[k]? with
   | none => .ok b
   | some r => if recE rs k r = 0 then .ok (b ++ recB r) else .error (recE rs k r)
def tvEnc (rs : List Rec) : Except Nat (List Nat) := if 256 < rs.length then .error 4 else tvAt rs rs.length
theorem tvAt_up {rs : List Rec} {k e : Nat} (h : tvAt rs k = .error e) : tvAt rs (k + 1) = .error e := by
 unfold tvAt
 rw [h]
theorem tvAt_err {rs : List Rec} {k e : Nat} (h : tvAt rs k = .error e) : ∀ j, k ≤ j → tvAt rs j = .error e := by
 intro j hj
 obtain ⟨d, rfl⟩ : ∃ d, j = k + d := ⟨j - k, by omega⟩
 clear hj
 induction d with
 | zero => exact h
 | succ d ih => exact tvAt_up ih
theorem tvAt_succ {rs : List Rec} {k : Nat} {b : List Nat} {r : Rec} (h : tvAt rs k = .ok b) (hr : rs[k]? = some r) : tvAt rs (k + 1) = if recE rs k r = 0 then .ok (b ++ recB r) else .error (recE rs k r) := by
 unfold tvAt
 rw [h]
 simp only [hr]
theorem recB_lt (r : Rec) (h : ∀ y ∈ r.v, y < 256) : ∀ y ∈ recB r, y < 256 := by
 intro y hy
 unfold recB at hy
 rcases List.mem_append.1 hy with q | q
 · exact szB_lt _ _ q
 · rcases List.mem_append.1 q with q | q
   · exact szB_lt _ _ q
   · exact h y q
theorem recB_len {rs : List Rec} {k : Nat} {r : Rec} (h0 : recE rs k r = 0) : r.v.length ≤ 65536 := by
 unfold recE at h0
 split at h0
 · cases h0
 · split at h0
   · cases h0
   · rename_i h; exact Nat.le_of_not_lt h
theorem tvAt_len {rs : List Rec} (m : Nat) (hm : 65554 ≤ m) : ∀ (k : Nat) b, tvAt rs k = .ok b → b.length ≤ k * m := by
 intro k
 induction k with
 | zero => intro b e; cases e; simp
 | succ k ih =>
  intro b e
  cases c : tvAt rs k with
  | error x => rw [tvAt_up c] at e; cases e
  | ok b0 =>
   have ih := ih b0 c
   rw [Nat.succ_mul]
   cases hr : rs[k]? with
   | none =>
    unfold tvAt at e
    rw [c] at e
    simp only [hr] at e
    cases e
    omega
   | some r =>
    rw [tvAt_succ c hr] at e
    split at e
    · rename_i h0
      cases e
      have hv := recB_len h0
      have h1 := (szB_len r.t).1
      have h2 := (szB_len r.v.length).1
      unfold recB
      rw [List.length_append, List.length_append, List.length_append]
      omega
    · cases e
/- The walks of tlv's big and Size. -/

structure BigW (base : Nat) (w : World) (bs : List Nat) (v : Value) (wr : World) : Prop where
 own : ∃ a c, v = .slice a bs.length c ∧ wr.ownsRow base 5 1 (.slice a bs.length c) bs.length (bcells bs)
 bel : Below base w wr
set_option maxRecDepth 100000 in
set_option maxHeartbeats 2000000 in
theorem big_is (w : World) (base : Nat) (hbase : base ≤ w.heap.size) (v : Value) (bs : List Nat) (hv : BigW base w bs v w) (x n : Nat) (hx : x < 18446744073709551616) (hn : n ≤ 8) (hl : bs.length ≤ 50000000) :
  Calls Tryz.prog 121 #[v, .int .u64 (x : Int), .int .i64 (n : Int)] w fun e w' => ∃ v', e = .returned v' ∧ BigW base w (bs ++ bigN x n) v' w' := by
 have HV := Hh hv
 obtain ⟨⟨a0, c0, rfl, -⟩, -⟩ := hv
 go_enter Tryz.func121, Tryz.ntmps121
 go_wp2_with fail
 go_loopw [0, 7] (fun bv iv wx => ∃ j : Nat, iv = .int .i64 ((n : Int) - 1 - (j : Int)) ∧ j ≤ n ∧ BigW base w (bs ++ (bigN x n).take j) bv wx) (fun _ iv _ => (intOf iv + 1).toNat)
 case atStart => exact ⟨0, by go_num, Nat.zero_le _, by rw [List.take_zero, List.append_nil]; exact HV.o⟩
 case round =>
  obtain ⟨j, rfl, hj, ⟨⟨oa7, oc7, hv7, Ab⟩, Aa⟩⟩ := hrel
  subst hv7
  obtain ⟨cs, hcs⟩ : ∃ l, l = bs ++ (bigN x n).take j := ⟨_, rfl⟩
  rw [← hcs] at Ab ⊢
  have hcl : cs.length ≤ 50000008 := by rw [hcs, List.length_append, List.length_take, bigN_len]; omega
  by_cases hj8 : j < n
  · obtain ⟨m, hm⟩ : ∃ m : Nat, (n : Int) - 1 - (j : Int) = (m : Int) ∧ m = n - 1 - j ∧ m < 8 := ⟨n - 1 - j, by omega, rfl, by omega⟩
    have hm0 : (m : Int) ≥ 0 := by omega
    rw [hm.1]
    obtain ⟨q, hq⟩ : ∃ q, q = x / 2 ^ (8 * m) % 256 := ⟨_, rfl⟩
    have hq8 : q < 256 := by rw [hq]; exact Nat.mod_lt _ (by decide)
    have hal : Below wr.heap.size wr (wr.alloc (.cells #[.int .u8 (q : Int)] 5)) := (Below.refl _ _).alloc (Nat.le_refl _) _
    have Ak := Hh (own_kept Ab (Kept.of_below (S := fun _ => False) hal) (fun _ _ e => e))
    have Ae : Bytes (wr.alloc (.cells #[.int .u8 (q : Int)] 5)) (wr.alloc (.cells #[.int .u8 (q : Int)] 5)).heap.size (.slice (some ⟨wr.heap.size, 0, none⟩) 1 1) [q] := ⟨_, _, rfl, Nat.le_refl _, (fun z hz => by rw [List.mem_singleton.1 hz]; exact hq8), fun _ => ⟨wr.heap.size, 0, rfl, by simp, fun i hi => by
     obtain rfl : i = 0 := Nat.lt_one_iff.1 hi
     exact (Has.new wr _ _).cell_is rfl⟩⟩
    have Ah := Hh Ae
    have hsz := Aa.size
    have Ag := Hh (show ∀ z, base ≤ (wr.alloc (.cells z 5)).heap.size from fun z => by simp; omega)
    have Aj := Hh (show cs.length + [q].length ≤ 100000000 by simp; omega)
    have Al := Hh (Aa.alloc (by omega) (.cells #[.int .u8 (q : Int)] 5))
    have Am := Hh (show bs ++ (bigN x n).take (j + 1) = cs ++ [q] by
     rw [bigN_nth x n j hj8, hcs, ← List.append_assoc, hq, hm.2.1])
    have HJ := Hh hj8
    have Ao := Hh hm
    have hnn : (8 * (m : Int)).toNat = 8 * m := by omega
    have hn0 : (0 : Int) ≤ 8 * (m : Int) := by omega
    have hn1 : 8 * (m : Int) < 64 := by omega
    have hu8 : IntKind.u8.wrap ((x : Int) / 2 ^ (8 * m)) = (q : Int) := by
     rw [IntKind.wrap_u8, hq]
     have : ((x : Int) / 2 ^ (8 * m)) = ((x / 2 ^ (8 * m) : Nat) : Int) := by rw [Int.natCast_ediv, Int.natCast_pow]; rfl
     rw [this]; omega
    clear hal Ae hcs hm hj Ab Aa hq hsz
    go_wp2_with (at_builtin; refine wpList_append_bytes rfl (.tmp 14) (.tmp 20) rfl base _ cs.length (bcells cs) rfl Ak.o _ _ [q] rfl Ah.o Aj.o (Ag.o _) ?_; intro oa8 oc8 w8 Ad Ai)
    have Ac : BigW base w (bs ++ (bigN x n).take (j + 1)) (.slice oa8 (cs.length + [q].length) oc8) w8 := by
     rw [Am.o]
     rw [← bcells_cat, ← List.length_append] at Ad
     exact ⟨⟨oa8, oc8, by rw [List.length_append], Ad⟩, Al.o.grown Ai (Ag.o _) (own_blk Ak.o)⟩
    have Af := Hh Ac
    have An := Hh (show (m : Int) - 1 = (n : Int) - 1 - ((j + 1 : Nat) : Int) by have h1 := Ao.o.2.1; have h2 := HJ.o; omega)
    clear Ac Ad Ai hu8 hnn hn0 hn1
    go_wp2_with fail
    go_roundw
    case rel => exact ⟨j + 1, by rw [An.o], by have := HJ.o; omega, Af.o⟩
    case measure => simp [intOf]
  · obtain rfl : j = n := by omega
    have hm0 : ¬ ((j : Int) - 1 - (j : Int)) ≥ 0 := by omega
    have Ac : BigW base w (bs ++ bigN x j) (.slice oa7 cs.length oc7) wr := by
     have e : cs = bs ++ bigN x j := by rw [hcs, List.take_of_length_le (by rw [bigN_len]; exact Nat.le_refl _)]
     rw [← e]
     exact ⟨⟨oa7, oc7, rfl, Ab⟩, Aa⟩
    have Af := Hh Ac
    clear hcs Ab Aa Ac hj hj8 hcl
    go_wp2_with fail
    go_ret
    exact ⟨_, rfl, Af.o⟩
theorem one_row (w : World) (q : Nat) (hq : q < 256) : BigW w.heap.size (w.alloc (.cells #[.int .u8 (q : Int)] 5)) [q] (.slice (some ⟨w.heap.size, 0, none⟩) 1 1) (w.alloc (.cells #[.int .u8 (q : Int)] 5)) :=
 ⟨⟨_, _, rfl, ⟨rfl, .inr ⟨w.heap.size, 1, #[.int .u8 (q : Int)], rfl, Nat.le_refl _, Has.new w _ _, Nat.le_refl _, by unfold maxLen; decide, rfl, rfl⟩⟩⟩, Below.refl _ _⟩
set_option maxRecDepth 100000 in
set_option maxHeartbeats 2000000 in
theorem size_is (w : World) (x : Nat) (hx : x < 18446744073709551616) :
   Calls Tryz.prog 98 #[.int .u64 (x : Int)] w fun e w' => ∃ v', e = .returned v' ∧ BigW w.heap.size w (szB x) v' w' := by
 have Aa := Hh (show ∀ (q n : Nat), q < 256 → n ≤ 8 → Calls Tryz.prog 121 #[.slice (some ⟨w.heap.size, 0, none⟩) 1 1, .int .u64 (x : Int), .int .i64 (n : Int)] (w.alloc (.cells #[.int .u8 (q : Int)] 5)) fun e w' => ∃ v', e = .returned v' ∧ BigW w.heap.size w (q :: bigN x n) v' w' from fun q n hq hn => by
   refine (big_is _ w.heap.size (by simp) _ [q] (one_row w q hq) x n hx hn (by simp)).mono ?_
   rintro e w' ⟨v', h1, h2⟩
   exact ⟨v', h1, ⟨h2.own, ((Below.refl w.heap.size w).alloc (Nat.le_refl _) _).trans h2.bel⟩⟩)
 by_cases h1 : x < 253
 · have h1' : (x : Int) < 253 := by omega
   have hw8 : IntKind.u8.wrap (x : Int) = (x : Int) := by rw [IntKind.wrap_u8]; omega
   have HF := Hh (show BigW w.heap.size w (szB x) (.slice (some ⟨w.heap.size, 0, none⟩) 1 1) (w.alloc (.cells #[.int .u8 (x : Int)] 5)) by
    have := one_row w x (by omega)
    rw [show szB x = [x] by unfold szB; rw [if_pos h1]]
    exact ⟨this.own, (Below.refl w.heap.size w).alloc (Nat.le_refl _) _⟩)
   clear h1
   go_enter Tryz.func98, Tryz.ntmps98
   go_wp2_with fail
   go_ret
   exact ⟨_, rfl, HF.o⟩
 have h1' : ¬ (x : Int) < 253 := by omega
 by_cases h2 : x < 65536
 · have h2' : (x : Int) < 65536 := by omega
   have HE := Hh (show szB x = 253 :: bigN x 2 by unfold szB; rw [if_neg h1, if_pos h2])
   clear h1 h2
   go_enter Tryz.func98, Tryz.ntmps98
   go_wp2_with fail
   refine (Aa.o 253 2 (by decide) (by decide)).mono ?_
   rintro _ w' ⟨v', rfl, hb⟩
   have HF := Hh hb
   clear hb
   go_wp2_with fail
   go_ret
   exact ⟨_, rfl, by rw [HE.o]; exact HF.o⟩
 have h2' : ¬ (x : Int) < 65536 := by omega
 by_cases h3 : x < 4294967296
 · have h3' : (x : Int) < 4294967296 := by omega
   have HE := Hh (show szB x = 254 :: bigN x 4 by unfold szB; rw [if_neg h1, if_neg h2, if_pos h3])
   clear h1 h2 h3
   go_enter Tryz.func98, Tryz.ntmps98
   go_wp2_with fail
   refine (Aa.o 254 4 (by decide) (by decide)).mono ?_
   rintro _ w' ⟨v', rfl, hb⟩
   have HF := Hh hb
   clear hb
   go_wp2_with fail
   go_ret
   exact ⟨_, rfl, by rw [HE.o]; exact HF.o⟩
 have h3' : ¬ (x : Int) < 4294967296 := by omega
 have HE := Hh (show szB x = 255 :: bigN x 8 by unfold szB; rw [if_neg h1, if_neg h2, if_neg h3])
 clear h1 h2 h3
 go_enter Tryz.func98, Tryz.ntmps98
 go_wp2_with fail
 refine (Aa.o 255 8 (by decide) (by decide)).mono ?_
 rintro _ w' ⟨v', rfl, hb⟩
 have HF := Hh hb
 clear hb
 go_wp2_with fail
 go_ret
 exact ⟨_, rfl, by rw [HE.o]; exact HF.o⟩
end Go.Proofs.YtknfbccbdiidjaaGreatDoor
