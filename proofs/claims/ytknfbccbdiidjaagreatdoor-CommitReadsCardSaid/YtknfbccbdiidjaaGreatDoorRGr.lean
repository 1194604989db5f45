/- One leaf's way up a tree, quick for the kernel. -/
import Derived.Test.YtknfbccbdiidjaaGreatDoorWs
import Derived.Test.YtknfbccbdiidjaaGreatDoorRFd
import Derived.Test.YtknfbccbdiidjaaGreatDoorRTree1
import Derived.Test.YtknfbccbdiidjaaGreatDoorRSha7
import Derived.Test.YtknfbccbdiidjaaGreatDoorRMem
import Derived.Deep.WholeRow
namespace Go.Proofs.YtknfbccbdiidjaaGreatDoor
set_option linter.unusedVariables false
set_option linter.unusedSimpArgs false

def oneN (sh sl : Nat) : List Bool → Nat → Nat → Nat → Nat → Nat → Nat → Nat → Nat → Nat → Nat → Nat → Nat → Nat → Nat → Nat → Nat → List Nat
 | [], e0, e1, e2, e3, e4, e5, e6, e7, v0, v1, v2, v3, v4, v5, v6, v7 => [e0, e1, e2, e3, e4, e5, e6, e7, v0, v1, v2, v3, v4, v5, v6, v7]
 | b :: bs, e0, e1, e2, e3, e4, e5, e6, e7, v0, v1, v2, v3, v4, v5, v6, v7 => nodeN (fun f0 f1 f2 f3 f4 f5 f6 f7 => match b with
  | true => nodeN (fun u0 u1 u2 u3 u4 u5 u6 u7 => oneN sh sl bs f0 f1 f2 f3 f4 f5 f6 f7 u0 u1 u2 u3 u4 u5 u6 u7) e0 e1 e2 e3 e4 e5 e6 e7 0 0 v0 v1 v2 v3 v4 v5 v6 v7 sh sl
  | false => nodeN (fun u0 u1 u2 u3 u4 u5 u6 u7 => oneN sh sl bs f0 f1 f2 f3 f4 f5 f6 f7 u0 u1 u2 u3 u4 u5 u6 u7) v0 v1 v2 v3 v4 v5 v6 v7 sh sl e0 e1 e2 e3 e4 e5 e6 e7 0 0) e0 e1 e2 e3 e4 e5 e6 e7 0 0 e0 e1 e2 e3 e4 e5 e6 e7 0 0
def oneL (sh sl : Nat) (bs : List Bool) (X : List Nat) : List Nat := match X with
 | [e0, e1, e2, e3, e4, e5, e6, e7, v0, v1, v2, v3, v4, v5, v6, v7] => oneN sh sl bs e0 e1 e2 e3 e4 e5 e6 e7 v0 v1 v2 v3 v4 v5 v6 v7
 | _ => []
theorem part_lone (t : Lf) (h : Nat) : partNd KS SS (h + 1) [t] = if bitAt t.k h = 1 then brNd KS SS (emptyNd KS SS h) (partNd KS SS h [t]) else brNd KS SS (partNd KS SS h [t]) (emptyNd KS SS h) := by
 show brNd KS SS (partNd KS SS h (side [t] h 0)) (partNd KS SS h (side [t] h 1)) = _
 have hb := bitAt_lt t.k h
 unfold side
 by_cases e : bitAt t.k h = 1
 · rw [if_pos e, List.filter_cons_of_neg (by simp [e]), List.filter_cons_of_pos (by simp [e]), List.filter_nil, List.filter_nil, part_nil]
 · have e0 : bitAt t.k h = 0 := by omega
   rw [if_neg e, List.filter_cons_of_pos (by simp [e0]), List.filter_cons_of_neg (by simp [e0]), List.filter_nil, List.filter_nil, part_nil]
def Clm (t : Lf) (h : Nat) (X : List Nat) : Prop := ∃ e0 e1 e2 e3 e4 e5 e6 e7 v0 v1 v2 v3 v4 v5 v6 v7 : Wd, X = [e0.toNat, e1.toNat, e2.toNat, e3.toNat, e4.toNat, e5.toNat, e6.toNat, e7.toNat, v0.toNat, v1.toNat, v2.toNat, v3.toNat, v4.toNat, v5.toNat, v6.toNat, v7.toNat] ∧ emptyNd KS SS h = ⟨[e0, e1, e2, e3, e4, e5, e6, e7].flatMap bytesOf, 0⟩ ∧ partNd KS SS h [t] = ⟨[v0, v1, v2, v3, v4, v5, v6, v7].flatMap bytesOf, t.s⟩
theorem clm_go (t : Lf) (ht : t.s < 18446744073709551616) : ∀ (bs : List Bool) (h : Nat) (X : List Nat), Clm t h X → (∀ i, i < bs.length → bs.getD i false = decide (bitAt t.k (h + i) = 1)) → Clm t (h + bs.length) (oneL (t.s / 4294967296) (t.s % 4294967296) bs X)
 | [], h, X, hX, _ => by
  obtain ⟨e0, e1, e2, e3, e4, e5, e6, e7, v0, v1, v2, v3, v4, v5, v6, v7, rfl, h1, h2⟩ := hX
  exact ⟨e0, e1, e2, e3, e4, e5, e6, e7, v0, v1, v2, v3, v4, v5, v6, v7, rfl, h1, h2⟩
 | b :: bs, h, X, hX, hb => by
  obtain ⟨e0, e1, e2, e3, e4, e5, e6, e7, v0, v1, v2, v3, v4, v5, v6, v7, rfl, h1, h2⟩ := hX
  have hb0 : b = decide (bitAt t.k h = 1) := hb 0 (by simp)
  obtain ⟨f0, f1, f2, f3, f4, f5, f6, f7, d1, q1⟩ := node_is e0 e1 e2 e3 e4 e5 e6 e7 e0 e1 e2 e3 e4 e5 e6 e7 0 0 (by decide) (by decide)
  have s1 : emptyNd KS SS (h + 1) = ⟨[f0, f1, f2, f3, f4, f5, f6, f7].flatMap bytesOf, 0⟩ := by
   show brNd KS SS (emptyNd KS SS h) (emptyNd KS SS h) = _
   rw [h1]
   unfold brNd
   rw [d1]
   rfl
  have hb' : ∀ i, i < bs.length → bs.getD i false = decide (bitAt t.k (h + 1 + i) = 1) := fun i hi => by
   have := hb (i + 1) (by simpa using hi)
   rw [show h + 1 + i = h + (i + 1) by omega]
   exact this
  have e : h + (b :: bs).length = h + 1 + bs.length := by rw [List.length_cons]; omega
  rw [e]
  cases b with
  | true =>
   obtain ⟨u0, u1, u2, u3, u4, u5, u6, u7, d2, q2⟩ := node_is e0 e1 e2 e3 e4 e5 e6 e7 v0 v1 v2 v3 v4 v5 v6 v7 0 t.s (by decide) ht
   have hbit :  bitAt t.k h = 1 := of_decide_eq_true hb0.symm
   have s2 : partNd KS SS (h + 1) [t] = ⟨[u0, u1, u2, u3, u4, u5, u6, u7].flatMap bytesOf, t.s⟩ := by
    rw [part_lone, if_pos hbit, h1, h2]
    unfold brNd
    rw [d2]
    simp
   have IH := clm_go t ht bs (h + 1) [f0.toNat, f1.toNat, f2.toNat, f3.toNat, f4.toNat, f5.toNat, f6.toNat, f7.toNat, u0.toNat, u1.toNat, u2.toNat, u3.toNat, u4.toNat, u5.toNat, u6.toNat, u7.toNat] ⟨f0, f1, f2, f3, f4, f5, f6, f7, u0, u1, u2, u3, u4, u5, u6, u7, rfl, s1, s2⟩ hb'
   have g1 := q1 (List Nat) (fun f0 f1 f2 f3 f4 f5 f6 f7 => match true with
    | true => nodeN (fun u0 u1 u2 u3 u4 u5 u6 u7 => oneN (t.s / 4294967296) (t.s % 4294967296) bs f0 f1 f2 f3 f4 f5 f6 f7 u0 u1 u2 u3 u4 u5 u6 u7) e0.toNat e1.toNat e2.toNat e3.toNat e4.toNat e5.toNat e6.toNat e7.toNat 0 0 v0.toNat v1.toNat v2.toNat v3.toNat v4.toNat v5.toNat v6.toNat v7.toNat (t.s / 4294967296) (t.s % 4294967296)
    | false => nodeN (fun u0 u1 u2 u3 u4 u5 u6 u7 => oneN (t.s / 4294967296) (t.s % 4294967296) bs f0 f1 f2 f3 f4 f5 f6 f7 u0 u1 u2 u3 u4 u5 u6 u7) v0.toNat v1.toNat v2.toNat v3.toNat v4.toNat v5.toNat v6.toNat v7.toNat (t.s / 4294967296) (t.s % 4294967296) e0.toNat e1.toNat e2.toNat e3.toNat e4.toNat e5.toNat e6.toNat e7.toNat 0 0)
   have g2 := q2 (List Nat) (fun u0 u1 u2 u3 u4 u5 u6 u7 => oneN (t.s / 4294967296) (t.s % 4294967296) bs f0.toNat f1.toNat f2.toNat f3.toNat f4.toNat f5.toNat f6.toNat f7.toNat u0 u1 u2 u3 u4 u5 u6 u7)
   have g : oneL (t.s / 4294967296) (t.s % 4294967296) (true :: bs) [e0.toNat, e1.toNat, e2.toNat, e3.toNat, e4.toNat, e5.toNat, e6.toNat, e7.toNat, v0.toNat, v1.toNat, v2.toNat, v3.toNat, v4.toNat, v5.toNat, v6.toNat, v7.toNat] = oneL (t.s / 4294967296) (t.s % 4294967296) bs [f0.toNat, f1.toNat, f2.toNat, f3.toNat, f4.toNat, f5.toNat, f6.toNat, f7.toNat, u0.toNat, u1.toNat, u2.toNat, u3.toNat, u4.toNat, u5.toNat, u6.toNat, u7.toNat] := g1.trans g2
   rw [g]
   exact IH
  | false =>
   obtain ⟨u0, u1, u2, u3, u4, u5, u6, u7, d2, q2⟩ := node_is v0 v1 v2 v3 v4 v5 v6 v7 e0 e1 e2 e3 e4 e5 e6 e7 t.s 0 ht (by decide)
   have hbit : ¬ bitAt t.k h = 1 := of_decide_eq_false hb0.symm
   have s2 : partNd KS SS (h + 1) [t] = ⟨[u0, u1, u2, u3, u4, u5, u6, u7].flatMap bytesOf, t.s⟩ := by
    rw [part_lone, if_neg hbit, h1, h2]
    unfold brNd
    rw [d2]
    simp
   have IH := clm_go t ht bs (h + 1) [f0.toNat, f1.toNat, f2.toNat, f3.toNat, f4.toNat, f5.toNat, f6.toNat, f7.toNat, u0.toNat, u1.toNat, u2.toNat, u3.toNat, u4.toNat, u5.toNat, u6.toNat, u7.toNat] ⟨f0, f1, f2, f3, f4, f5, f6, f7, u0, u1, u2, u3, u4, u5, u6, u7, rfl, s1, s2⟩ hb'
   have g1 := q1 (List Nat) (fun f0 f1 f2 f3 f4 f5 f6 f7 => match false with
    | true => nodeN (fun u0 u1 u2 u3 u4 u5 u6 u7 => oneN (t.s / 4294967296) (t.s % 4294967296) bs f0 f1 f2 f3 f4 f5 f6 f7 u0 u1 u2 u3 u4 u5 u6 u7) e0.toNat e1.toNat e2.toNat e3.toNat e4.toNat e5.toNat e6.toNat e7.toNat 0 0 v0.toNat v1.toNat v2.toNat v3.toNat v4.toNat v5.toNat v6.toNat v7.toNat (t.s / 4294967296) (t.s % 4294967296)
    | false => nodeN (fun u0 u1 u2 u3 u4 u5 u6 u7 => oneN (t.s / 4294967296) (t.s % 4294967296) bs f0 f1 f2 f3 f4 f5 f6 f7 u0 u1 u2 u3 u4 u5 u6 u7) v0.toNat v1.toNat v2.toNat v3.toNat v4.toNat v5.toNat v6.toNat v7.toNat (t.s / 4294967296) (t.s % 4294967296) e0.toNat e1.toNat e2.toNat e3.toNat e4.toNat e5.toNat e6.toNat e7.toNat 0 0)
   have g2 := q2 (List Nat) (fun u0 u1 u2 u3 u4 u5 u6 u7 => oneN (t.s / 4294967296) (t.s % 4294967296) bs f0.toNat f1.toNat f2.toNat f3.toNat f4.toNat f5.toNat f6.toNat f7.toNat u0 u1 u2 u3 u4 u5 u6 u7)
   have g : oneL (t.s / 4294967296) (t.s % 4294967296) (false :: bs) [e0.toNat, e1.toNat, e2.toNat, e3.toNat, e4.toNat, e5.toNat, e6.toNat, e7.toNat, v0.toNat, v1.toNat, v2.toNat, v3.toNat, v4.toNat, v5.toNat, v6.toNat, v7.toNat] = oneL (t.s / 4294967296) (t.s % 4294967296) bs [f0.toNat, f1.toNat, f2.toNat, f3.toNat, f4.toNat, f5.toNat, f6.toNat, f7.toNat, u0.toNat, u1.toNat, u2.toNat, u3.toNat, u4.toNat, u5.toNat, u6.toNat, u7.toNat] := g1.trans g2
   rw [g]
   exact IH
end Go.Proofs.YtknfbccbdiidjaaGreatDoor
/- Bytes appended to a row of one's own, whatever bytes; the reference's turn, Eight and Tables.Sum lean on it. -/
namespace Go.Proofs.YtknfbccbdiidjaaGreatDoor
set_option linter.unusedVariables false
set_option linter.unusedSimpArgs false
open Go.ChangeShapes Go.WideShapes Go.ChangeAt Go.RowKit Go.Maps

theorem run_append_zero {P : Program} {w : World} (base : Nat) (t ty e : TypeId) (i : TypeInfo) (size : Nat) (ht : P.underlying t = some (.slice e)) (hi : P.info? e = some i)
   (v : Value) (n : Nat) (xs : List Value) (hown : w.ownsRow base e size v n xs) (sa : Option Addr) (sc : Nat) :
   (Builtin.append_ #[t, t] ty #[v, .slice sa 0 sc]).run P w = .ok v w := by
 rcases hown.2 with ⟨rfl, rfl⟩ | ⟨g, cap, cur, rfl, _, _, hnc, _⟩
 · cases sa <;> simp [Builtin.append_, run_underlying ht, sizeOf, typeInfo, hi, Builtin.lenOf, Builtin.firstCells, loadCells, loadCellsFrom, Result.andThen]
 · cases sa <;> simp [Builtin.append_, run_underlying ht, sizeOf, typeInfo, hi, Builtin.lenOf, Builtin.firstCells, hnc, storeCells, loadCells, loadCellsFrom, Result.andThen]
theorem wpList_append_zero {P : Program} {w : World} {ops : Array Oper} {rest : List Oper} {o : Oper} {a : Act} {Q : Exit → Act → World → Prop} (hgd : o.guard = none) (s x : Operand) (t : TypeId)
  (ho : o.op = .call { callee := .builtin .append, args := #[s, x], argTypes := #[t, t] })
  (base : Nat) (e : TypeId) (i : TypeInfo) (size : Nat) (ht : P.underlying t = some (.slice e)) (hi : P.info? e = some i)
  (v : Value) (n : Nat) (xs : List Value) (hs : a.eval s = v) (hown : w.ownsRow base e size v n xs) (sa : Option Addr) (sc : Nat) (hx : a.eval x = .slice sa 0 sc)
  (h : wpList P ops Q rest (a.put o.dst v) w) : wpList P ops Q (o :: rest) a w := by
 refine wpList_plain hgd fun K hK => ?_
 have hrun := run_append_zero (P := P) (w := w) base t o.type e i size ht hi v n xs hown sa sc
 unfold Oper.wp
 simp [execOp, ho, resolve, invoke, builtin, hs, hx, hrun, Result.andThen]
 exact hK _ _ h
theorem info_byte : (Tryz.prog.info? 5).map (fun i => (i.zero, i.size, i.bytes)) = some (some (.int .u8 0), 1, 1) := by kernel_rfl
theorem own_form {w : World} {base : Nat} {e : TypeId} {size n : Nat} {v : Value} {xs : List Value} (h : w.ownsRow base e size v n xs) : ∃ a c, v = .slice a n c := by
 rcases h.2 with ⟨rfl, rfl⟩ | ⟨g, cap, cur, rfl, _⟩
 · exact ⟨none, 0, rfl⟩
 · exact ⟨_, _, rfl⟩
theorem wpList_append_bytes {w : World} {ops : Array Oper} {rest : List Oper} {o : Oper} {a : Act} {Q : Exit → Act → World → Prop} (hgd : o.guard = none) (s x : Operand)
   (ho : o.op = .call { callee := .builtin .append, args := #[s, x], argTypes := #[48, 48] })
   (base : Nat) (v : Value) (n : Nat) (xs : List Value) (hs : a.eval s = v) (hown : w.ownsRow base 5 1 v n xs)
   (g : Nat) (vx : Value) (bs : List Nat) (hx : a.eval x = vx) (hb : Bytes w g vx bs) (hlen : n + bs.length ≤ 100000000) (hbase : base ≤ w.heap.size)
   (h : ∀ oa oc w', w'.ownsRow base 5 1 (.slice oa (n + bs.length) oc) (n + bs.length) (xs ++ bcells bs) → w.grownBy w' v.ownBlock → wpList Tryz.prog ops Q rest (a.put o.dst (.slice oa (n + bs.length) oc)) w') : wpList Tryz.prog ops Q (o :: rest) a w := by
 obtain ⟨ii, his, his0, his1, his2⟩ := info_parts info_byte
 obtain ⟨sa, sc, rfl, h1, h2, h3⟩ := hb
 rcases Nat.eq_zero_or_pos bs.length with h0 | h0
 · have e : bs = [] := List.eq_nil_of_length_eq_zero h0
   subst e
   obtain ⟨oa, oc, rfl⟩ := own_form hown
   refine wpList_append_zero hgd s x 48 ho base 5 ii 1 Tryz.underlying48 his _ n xs hs hown sa sc hx ?_
   refine h oa oc w ?_ (World.grownBy.refl w _)
   simpa [bcells] using hown
 · obtain ⟨bg, bo, rfl, _, hc⟩ := h3 h0
   refine wpList_append_own w hgd s x 48 ho base 5 ii (.int .u8 0) 1 1 Tryz.underlying48 his his0 his1 his2 rfl (by decide) v n xs hs hown ⟨bg, bo, none⟩ bs.length sc (bcells bs) hx (by rw [bcells_length, Nat.mul_one]) (fun j u hu => ?_) (bcells_oneC bs) (by unfold maxLen; omega) (by omega) hbase ?_
   · have hj := (List.getElem?_eq_some_iff.1 hu).1
     rw [bcells_length] at hj
     rw [Addr.add_mid, hc j hj]
     rw [bcells_get bs j hj] at hu
     exact hu
   · intro v' w' p1 p2 _
     obtain ⟨oa, oc, rfl⟩ := own_form p1
     exact h oa oc w' p1 p2
theorem step_append_bytes {w : World} {ops : Array Oper} {o : Oper} {a : Act} {K : Act → World → Prop} {Q : Exit → Act → World → Prop} {E : Prop} (hgd : o.guard = none) (s x : Operand)
   (ho : o.op = .call { callee := .builtin .append, args := #[s, x], argTypes := #[48, 48] })
   (base : Nat) (v : Value) (n : Nat) (xs : List Value) (hs : a.eval s = v) (hown : w.ownsRow base 5 1 v n xs)
   (g : Nat) (vx : Value) (bs : List Nat) (hx : a.eval x = vx) (hb : Bytes w g vx bs) (hlen : n + bs.length ≤ 100000000) (hbase : base ≤ w.heap.size)
   (h : ∀ oa oc w', w'.ownsRow base 5 1 (.slice oa (n + bs.length) oc) (n + bs.length) (xs ++ bcells bs) → w.grownBy w' v.ownBlock → K (a.put o.dst (.slice oa (n + bs.length) oc)) w') :
   if Region.wanted o (yielded ops a.tmps) = true then Oper.wp Tryz.prog o a w K Q else E := by
 have hw : Region.wanted o (yielded ops a.tmps) = true := by simp [Region.wanted, hgd]
 rw [if_pos hw]
 obtain ⟨ii, his, his0, his1, his2⟩ := info_parts info_byte
 obtain ⟨sa, sc, rfl, h1, h2, h3⟩ := hb
 rcases Nat.eq_zero_or_pos bs.length with h0 | h0
 · have e : bs = [] := List.eq_nil_of_length_eq_zero h0
   subst e
   obtain ⟨oa, oc, rfl⟩ := own_form hown
   have hrun := run_append_zero (P := Tryz.prog) (w := w) base 48 o.type 5 ii 1 Tryz.underlying48 his _ n xs hown sa sc
   have h' := h oa oc w (by simpa [bcells] using hown) (World.grownBy.refl w _)
   unfold Oper.wp
   simp [execOp, ho, resolve, invoke, builtin, hs, hx, hrun, Result.andThen]
   exact h'
 · obtain ⟨bg, bo, rfl, _, hc⟩ := h3 h0
   refine wp_append_own w s x 48 ho base 5 ii (.int .u8 0) 1 1 Tryz.underlying48 his his0 his1 his2 rfl (by decide) v n xs hs hown ⟨bg, bo, none⟩ bs.length sc (bcells bs) hx (by rw [bcells_length, Nat.mul_one]) (fun j u hu => ?_) (bcells_oneC bs) (by unfold maxLen; omega) (by omega) hbase ?_
   · have hj := (List.getElem?_eq_some_iff.1 hu).1
     rw [bcells_length] at hj
     rw [Addr.add_mid, hc j hj]
     rw [bcells_get bs j hj] at hu
     exact hu
   · intro v' w' p1 p2 _
     obtain ⟨oa, oc, rfl⟩ := own_form p1
     exact h oa oc w' p1 p2
theorem own_bytes {w : World} {base n g : Nat} {v : Value} {bs : List Nat} (h : w.ownsRow base 5 1 v n (bcells bs)) (hn : bs.length = n) (hb : ∀ x ∈ bs, x < 256) (hg : w.heap.size ≤ g) : Bytes w g v bs := by
 rcases h.2 with ⟨rfl, h0⟩ | ⟨b, cap, cur, rfl, hB, hh, h1, h2, h3, h4⟩
 · exact ⟨none, 0, by rw [hn, h0], by omega, hb, fun h => absurd h (by omega)⟩
 · refine ⟨_, cap, by rw [hn], by omega, hb, fun h0 => ⟨b, 0, rfl, by have := (Array.getElem?_eq_some_iff.1 hh).1; omega, fun i hi => ?_⟩⟩
   have hg2 : Has w b 5 cur := hh
   rw [Nat.zero_add]
   refine hg2.cell_is ?_
   rw [← Array.getElem?_toList]
   have e2 : cur.toList[i]? = (cur.toList.take (n * 1))[i]? := by rw [List.getElem?_take_of_lt (by omega)]
   rw [e2, h4]
   exact bcells_get bs i hi
end Go.Proofs.YtknfbccbdiidjaaGreatDoor
/- Rows of structs of any make: in memory, in a row of one's own; appended, and stored into. -/
namespace Go.Proofs.YtknfbccbdiidjaaGreatDoor
set_option linter.unusedVariables false
set_option linter.unusedSimpArgs false
open Go.ChangeShapes Go.WideShapes Go.ChangeAt Go.RowKit Go.Maps

section
variable {α : Type} {cl : α → List Value} {k : Nat}
structure RowsAt (cl : α → List Value) (k : Nat) (w : World) (A : Option Addr) (n : Nat) (xs : List α) : Prop where
 len : xs.length = n
 sz : ∀ x ∈ xs, (cl x).length = k
 at_ : 0 < n → ∃ b o, A = some ⟨b, o, none⟩ ∧ b < w.heap.size ∧ ∀ (i : Nat) x, xs[i]? = some x → w.rangeAt b (o + i * k) (cl x)
theorem RowsAt.kept {S : Nat → Prop} {w w' : World} {A : Option Addr} {n : Nat} {xs : List α} (h : RowsAt cl k w A n xs) (hk : Kept S w w') (hs : ∀ a, A = some a → ¬ S a.block) : RowsAt cl k w' A n xs := by
 refine ⟨h.len, h.sz, fun hn => ?_⟩
 obtain ⟨b, o, e, hb, hr⟩ := h.at_ hn
 exact ⟨b, o, e, Nat.lt_of_lt_of_le hb hk.size, fun i x hx => rangeAt_kept (hr i x hx) hk (hs _ e)⟩
theorem RowsAt.below {w w' : World} {A : Option Addr} {n : Nat} {xs : List α} (h : RowsAt cl k w A n xs) (hb : Below w.heap.size w w') : RowsAt cl k w' A n xs :=
 h.kept (Kept.of_below (S := fun _ => False) hb) (fun _ _ e => e)
theorem gflat_len (xs : List α) (h : ∀ x ∈ xs, (cl x).length = k) : (xs.flatMap cl).length = xs.length * k := by
 induction xs with
 | nil => simp
 | cons x xs ih => rw [List.flatMap_cons, List.length_append, h x (List.mem_cons_self ..), ih (fun y hy => h y (List.mem_cons_of_mem _ hy)), List.length_cons, Nat.succ_mul, Nat.add_comm]
theorem gflat_get (xs : List α) (h : ∀ x ∈ xs, (cl x).length = k) (i j : Nat) (x : α) (hi : xs[i]? = some x) (hj : j < k) : (xs.flatMap cl)[i * k + j]? = (cl x)[j]? := by
 induction xs generalizing i with
 | nil => simp at hi
 | cons p xs ih =>
  rw [List.flatMap_cons]
  have hp := h p (List.mem_cons_self ..)
  cases i with
  | zero =>
   simp only [List.getElem?_cons_zero, Option.some.injEq] at hi
   subst hi
   rw [Nat.zero_mul, Nat.zero_add, List.getElem?_append_left (by rw [hp]; exact hj)]
  | succ i =>
   rw [List.getElem?_cons_succ] at hi
   rw [List.getElem?_append_right (by rw [hp, Nat.succ_mul]; omega), hp, show (i + 1) * k + j - k = i * k + j by rw [Nat.succ_mul]; omega]
   exact ih (fun y hy => h y (List.mem_cons_of_mem _ hy)) i hi
theorem RowsAt.cells {w : World} {b o n : Nat} {xs : List α} (h : RowsAt cl k w (some ⟨b, o, none⟩) n xs) : ∀ (j : Nat) u, (xs.flatMap cl)[j]? = some u → w.cell? ⟨b, o + j, none⟩ = some u := by
 intro j u hu
 have hj := (List.getElem?_eq_some_iff.1 hu).1
 rw [gflat_len xs h.sz] at hj
 have hk : 0 < k := Nat.pos_of_ne_zero (fun e => by subst e; simp at hj)
 have hi : j / k < xs.length := Nat.div_lt_of_lt_mul (by rw [Nat.mul_comm]; exact hj)
 obtain ⟨b', o', e, _, hr⟩ := h.at_ (Nat.lt_of_le_of_lt (Nat.zero_le _) (h.len ▸ hi))
 injection e with e
 injection e with e1 e2
 subst e1 e2
 have hx := List.getElem?_eq_getElem hi
 have hjd : j / k * k + j % k = j := Nat.div_add_mod' j k
 have h2 := gflat_get xs h.sz (j / k) (j % k) _ hx (Nat.mod_lt _ hk)
 rw [hjd, hu] at h2
 have := hr (j / k) _ hx (j % k) u h2.symm
 rwa [Nat.add_assoc, hjd] at this
theorem own_rows {w : World} {base n : Nat} {e : TypeId} {a : Option Addr} {c : Nat} {xs : List α} (h : w.ownsRow base e k (.slice a n c) n (xs.flatMap cl)) (hl : xs.length = n) (hz : ∀ x ∈ xs, (cl x).length = k) :
   RowsAt cl k w a n xs ∧ (∀ A, a = some A → base ≤ A.block ∧ A.block < w.heap.size) := by
 refine ⟨⟨hl, hz, fun hn => ?_⟩, fun A e => ?_⟩
 · obtain ⟨g, cap, cur, e, hb, hh, h1, h2, h3, h4⟩ := own_open h hn
   injection e with e1 e2 e3
   refine ⟨g, 0, e1, hh.lt, fun i x hx j u hu => ?_⟩
   have hj := (List.getElem?_eq_some_iff.1 hu).1
   rw [hz x (List.mem_of_getElem? hx)] at hj
   have hi := (List.getElem?_eq_some_iff.1 hx).1
   have hlt : i * k + j < n * k := by
     have : (i + 1) * k ≤ n * k := Nat.mul_le_mul_right k (by omega)
     rw [Nat.succ_mul] at this
     omega
   rw [Nat.zero_add]
   exact hh.cell_is (by rw [h4 _ hlt, gflat_get xs hz i j x hx hj]; exact hu)
 · rcases h.2 with ⟨e2, _⟩ | ⟨g, cap, cur, e2, hb, hh, _⟩
   · injection e2 with e2; rw [e] at e2; cases e2
   · injection e2 with e2
     rw [e] at e2
     injection e2 with e2
     subst e2
     exact ⟨hb, (Array.getElem?_eq_some_iff.1 hh).1⟩
theorem rows_has {w : World} {g : Nat} {t : TypeId} {xs : List α} (h : Has w g t (xs.flatMap cl).toArray) (hz : ∀ x ∈ xs, (cl x).length = k) : RowsAt cl k w (some ⟨g, 0, none⟩) xs.length xs := by
 refine ⟨rfl, hz, fun hn => ⟨g, 0, rfl, h.lt, fun i x hx j u hu => ?_⟩⟩
 have hj := (List.getElem?_eq_some_iff.1 hu).1
 rw [hz x (List.mem_of_getElem? hx)] at hj
 rw [Nat.zero_add]
 exact h.cell_is (by rw [List.getElem?_toArray, gflat_get xs hz i j x hx hj]; exact hu)
theorem own_set {w : World} {base n : Nat} {e : TypeId} {a : Option Addr} {c : Nat} {xs : List α} (h : w.ownsRow base e k (.slice a n c) n (xs.flatMap cl)) (hl : xs.length = n) (hz : ∀ x ∈ xs, (cl x).length = k)
   {p : Nat} (hp : p < n) (x y : α) (hx : xs[p]? = some x) (hy : (cl y).length = k) (o : Nat) (L : List Value) (ho : o + L.length ≤ k) (hc : ∀ j, j < k → (cl y)[j]? = if o ≤ j ∧ j < o + L.length then L[j - o]? else (cl x)[j]?) :
   ∃ b, a = some ⟨b, 0, none⟩ ∧ base ≤ b ∧ w.there b (p * k + o) L.length ∧ (w.setCells b (p * k + o) L).ownsRow base e k (.slice a n c) n ((xs.set p y).flatMap cl) ∧ Kept (· = b) w (w.setCells b (p * k + o) L) := by
 obtain ⟨b, cap, cur, e0, hB, hh, h1, h2, h3, h4⟩ := own_open h (by omega)
 injection e0 with e1 e2 e3
 subst e1 e3
 have hpn : (p + 1) * k ≤ n * k := Nat.mul_le_mul_right k hp
 rw [Nat.succ_mul] at hpn
 have hnc : n * k ≤ c * k := Nat.mul_le_mul_right k h1
 obtain ⟨cur', p1, p2, p3, p4⟩ := Has.setCells L (p * k + o) w cur hh
 have hz' : ∀ x ∈ xs.set p y, (cl x).length = k := fun u hu => by
   rcases List.mem_or_eq_of_mem_set hu with h | rfl
   · exact hz u h
   · exact hy
 have hlen : ((xs.set p y).flatMap cl).length = n * k := by rw [gflat_len _ hz', List.length_set, hl]
 refine ⟨b, rfl, hB, hh.there _ _ (by omega), ⟨hlen, .inr ⟨b, c, cur', rfl, hB, p1, h1, h2, by rw [p2, h3], ?_⟩⟩, p4⟩
 apply List.ext_getElem?
 intro j
 rw [List.getElem?_take]
 by_cases hj : j < n * k
 · rw [if_pos hj, Array.getElem?_toList, p3 j (by omega)]
   have hk : 0 < k := Nat.pos_of_ne_zero (fun e => by subst e; simp at hj)
   have hi : j / k < n := Nat.div_lt_of_lt_mul (by rw [Nat.mul_comm]; exact hj)
   have hjd : j / k * k + j % k = j := Nat.div_add_mod' j k
   have hr := Nat.mod_lt j hk
   by_cases e : j / k = p
   · have hx' : (xs.set p y)[j / k]? = some y := by rw [e, List.getElem?_set_self (by omega)]
     have h5 := gflat_get _ hz' (j / k) (j % k) y hx' hr
     have h6 := gflat_get _ hz (j / k) (j % k) x (by rw [e]; exact hx) hr
     rw [hjd] at h5 h6
     rw [h5, hc _ hr]
     rw [e] at hjd
     by_cases hin : p * k + o ≤ j ∧ j < p * k + o + L.length
     · rw [if_pos hin, if_pos (by omega)]
       congr 1; omega
     · rw [if_neg hin, if_neg (by omega), h4 j hj]
       exact h6
   · have hx' : (xs.set p y)[j / k]? = some xs[j / k] := by rw [List.getElem?_set_ne (fun h => e h.symm)]; exact List.getElem?_eq_getElem (by omega)
     have h5 := gflat_get _ hz' (j / k) (j % k) _ hx' hr
     have h6 := gflat_get _ hz (j / k) (j % k) _ (List.getElem?_eq_getElem (by omega)) hr
     rw [hjd] at h5 h6
     rw [h5]
     rw [if_neg, h4 j hj]
     · exact h6
     · intro ⟨q1, q2⟩
       rcases Nat.lt_or_gt_of_ne e with q | q
       · have : (j / k + 1) * k ≤ p * k := Nat.mul_le_mul_right k q
         rw [Nat.succ_mul] at this
         omega
       · have : (p + 1) * k ≤ j / k * k := Nat.mul_le_mul_right k q
         rw [Nat.succ_mul] at this
         omega
 · rw [if_neg hj, List.getElem?_eq_none (by omega)]
theorem wpList_append_rows {P : Program} {w : World} {ops : Array Oper} {rest : List Oper} {o : Oper} {a : Act} {Q : Exit → Act → World → Prop} (hgd : o.guard = none) (s x : Operand) (t : TypeId)
   (ho : o.op = .call { callee := .builtin .append, args := #[s, x], argTypes := #[t, t] })
   (base : Nat) (e : TypeId) (z : Value) (by_ : Nat) (ht : P.underlying t = some (.slice e)) (hinfo : (P.info? e).map (fun i => (i.zero, i.size, i.bytes)) = some (some z, k, by_)) (hzs : z.cells.size = k) (hk : 0 < k)
   (v : Value) (n : Nat) (ys : List Value) (hs : a.eval s = v) (hown : w.ownsRow base e k v n ys) (A : Option Addr) (m c : Nat) (xs : List α) (hx : a.eval x = .slice A m c) (hr : RowsAt cl k w A m xs) (h1 : ∀ x ∈ xs, ∀ u ∈ cl x, u.oneCell' = true)
   (h63 : n + m ≤ maxLen) (hbytes : (n + m) * by_ ≤ 140737488355328) (hbase : base ≤ w.heap.size)
   (h : ∀ oa oc w', w'.ownsRow base e k (.slice oa (n + m) oc) (n + m) (ys ++ xs.flatMap cl) → w.grownBy w' v.ownBlock → wpList P ops Q rest (a.put o.dst (.slice oa (n + m) oc)) w') : wpList P ops Q (o :: rest) a w := by
 obtain ⟨ii, his, his0, his1, his2⟩ := info_parts hinfo
 rcases Nat.eq_zero_or_pos m with h0 | h0
 · subst h0
   have e0 : xs = [] := List.eq_nil_of_length_eq_zero hr.len
   subst e0
   obtain ⟨oa, oc, rfl⟩ := own_form hown
   refine wpList_append_zero hgd s x t ho base e ii k ht his _ n ys hs hown A c hx ?_
   exact h oa oc w (by simpa using hown) (World.grownBy.refl w _)
 · obtain ⟨b, off, rfl, _, hc⟩ := hr.at_ h0
   refine wpList_append_own w hgd s x t ho base e ii z k by_ ht his his0 his1 his2 hzs hk v n ys hs hown ⟨b, off, none⟩ m c (xs.flatMap cl) hx (by rw [gflat_len xs hr.sz, hr.len]) (fun j u hu => ?_) ?_ h63 hbytes hbase ?_
   · rw [Addr.add_mid]; exact hr.cells j u hu
   · intro u hu
     obtain ⟨y, hy, hu⟩ := List.mem_flatMap.1 hu
     exact h1 y hy u hu
   · intro v' w' p1 p2 _
     obtain ⟨oa, oc, rfl⟩ := own_form p1
     exact h oa oc w' p1 p2
end
theorem own_empty {w : World} {base : Nat} (hb : base ≤ w.heap.size) (t : TypeId) (size : Nat) : (w.alloc (.cells #[] t)).ownsRow base t size (.slice (some ⟨w.heap.size, 0, none⟩) 0 0) 0 [] :=
 ⟨by simp, .inr ⟨w.heap.size, 0, #[], rfl, hb, Has.new w t #[], Nat.le_refl _, by unfold maxLen; decide, by simp, by simp⟩⟩
theorem own_lt {w : World} {base n size : Nat} {e : TypeId} {v : Value} {xs : List Value} (h : w.ownsRow base e size v n xs) : ∀ k, v.ownBlock = some k → k < w.heap.size := by
 intro k hk
 rcases h.2 with ⟨rfl, _⟩ | ⟨g, cap, cur, rfl, _, hh, _⟩
 · simp [Value.ownBlock] at hk
 · simp [Value.ownBlock] at hk
   subst hk
   exact (Array.getElem?_eq_some_iff.1 hh).1
theorem yieldsIf_build {P : Program} {ops : Array Oper} {S : World → Prop} {op : Oper} {a : Act} (hw : Region.wanted op (yielded ops a.tmps) = true) (t : TypeId) (parts : Array (Nat × Operand)) (ho : op.op = .build t parts)
  (vs : Array (Nat × Value)) (hv : (parts.map fun (i, x) => (i, a.eval x)) = vs) (v : Value) (hrun : ∀ w, S w → (Instr.build t vs).run P w = .ok v w) : YieldsIf P ops S op v a :=
 .inl ⟨hw, fun w hw' => by
  unfold execOp
  simp only [ho, hv, Sem.run_bind, hrun w hw', Result.andThen_ok, Sem.run_pure]⟩
theorem bcells_cat (a b : List Nat) : bcells (a ++ b) = bcells a ++ bcells b := by simp [bcells]
theorem below_drew {B : Nat} {w w' : World} (h : Below B w w') : Below B w w'.drew := ⟨h.os, h.tape, h.output, h.size, h.block⟩
theorem new_row (w : World) (t : TypeId) (Z C : Array Value) : Has ((w.alloc (.cells Z t)).setRow w.heap.size C) w.heap.size t C ∧ Below w.heap.size w ((w.alloc (.cells Z t)).setRow w.heap.size C) := by
 rw [World.setRow_alloc_new]
 exact ⟨Has.new w _ _, (Below.refl _ _).alloc (Nat.le_refl _) _⟩
end Go.Proofs.YtknfbccbdiidjaaGreatDoor
