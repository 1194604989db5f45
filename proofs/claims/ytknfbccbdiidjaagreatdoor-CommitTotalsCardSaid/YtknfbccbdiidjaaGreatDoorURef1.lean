/- One leaf's way up a tree, quick for the kernel. -/
import Derived.Test.YtknfbccbdiidjaaGreatDoorWs
import Derived.Test.YtknfbccbdiidjaaGreatDoorUFd
import Derived.Test.YtknfbccbdiidjaaGreatDoorUTree1
import Derived.Test.YtknfbccbdiidjaaGreatDoorUKs
import Derived.Test.YtknfbccbdiidjaaGreatDoorUSha7
namespace Go.Proofs.YtknfbccbdiidjaaGreatDoor
set_option linter.unusedVariables false
set_option linter.unusedSimpArgs false

def oneN (sh sl : Nat) : List Bool → Nat → Nat → Nat → Nat → Nat → Nat → Nat → Nat → Nat → Nat → Nat → Nat → Nat → Nat → Nat → Nat → List Nat
 | [], e0, e1, e2, e3, e4, e5, e6, e7, v0, v1, v2, v3, v4, v5, v6, v7 => [e0, e1, e2, e3, e4, e5, e6, e7, v0, v1, v2, v3, v4, v5, v6, v7]
 | b :: bs, e0, e1, e2, e3, e4, e5, e6, e7, v0, v1, v2, v3, v4, v5, v6, v7 => nodeN (fun f0 f1 f2 f3 f4 f5 f6 f7 => match b with
  | true => nodeN (fun u0 u1 u2 u3 u4 u5 u6 u7 => oneN sh sl bs f0 f1 f2 f3 f4 f5 f6 f7 u0 u1 u2 u3 u4 u5 u6 u7) e0 e1 e2 e3 e4 e5 e6 e7 0 0 v0 v1 v2 v3 v4 v5 v6 v7 sh sl
  | false => nodeN (fun u0 u1 u2 u3 u4 u5 u6 u7 => oneN sh sl bs f0 f1 f2 f3 f4 f5 f6 f7 u0 u1 u2 u3 u4 u5 u6 u7) v0 v1 v2 v3 v4 v5 v6 v7 sh sl e0 e1 e2 e3 e4 e5 e6 e7 0 0) e0 e1 e2 e3 e4 e5 e6 e7 0 0 e0 e1 e2 e3 e4 e5 e6 e7 0 0
def oneL (sh sl : Nat) (bs : List Bool) (X : List Nat) : List Nat := match X with
 | [e0, e1, e2, e3, e4, e5, e6, e7, v0, v1, v2, v3, v4, v5, v6, v7] => oneN sh sl bs e0 e1 e2 e3 e4 e5 e6 e7 v0 v1 v2 v3 v4 v5 v6 v7
 | _ => []
theorem part_lone (t : Lf) (h : Nat) : partNd KS SS (h + 1) [t] = if bitAt t.k h = 1 then brNd KS SS (emptyNd KS SS h) (partNd KS SS h [t]) else brNd KS SS (partNd KS SS h [t]) (emptyNd KS SS h) := by
 show brNd KS SS (partNd KS SS h (side [t] h 0)) (partNd KS SS h (side [t] h 1)) = _
 have hb := bitAt_lt t.k h
 unfold side
 by_cases e : bitAt t.k h = 1
 · rw [if_pos e, List.filter_cons_of_neg (by simp [e]), List.filter_cons_of_pos (by simp [e]), List.filter_nil, List.filter_nil, part_nil]
 · have e0 : bitAt t.k h = 0 := by omega
   rw [if_neg e, List.filter_cons_of_pos (by simp [e0]), List.filter_cons_of_neg (by simp [e0]), List.filter_nil, List.filter_nil, part_nil]
def Clm (t : Lf) (h : Nat) (X : List Nat) : Prop := ∃ e0 e1 e2 e3 e4 e5 e6 e7 v0 v1 v2 v3 v4 v5 v6 v7 : Wd, X = [e0.toNat, e1.toNat, e2.toNat, e3.toNat, e4.toNat, e5.toNat, e6.toNat, e7.toNat, v0.toNat, v1.toNat, v2.toNat, v3.toNat, v4.toNat, v5.toNat, v6.toNat, v7.toNat] ∧ emptyNd KS SS h = ⟨[e0, e1, e2, e3, e4, e5, e6, e7].flatMap bytesOf, 0⟩ ∧ partNd KS SS h [t] = ⟨[v0, v1, v2, v3, v4, v5, v6, v7].flatMap bytesOf, t.s⟩
theorem clm_go (t : Lf) (ht : t.s < 18446744073709551616) : ∀ (bs : List Bool) (h : Nat) (X : List Nat), Clm t h X → (∀ i, i < bs.length → bs.getD i false = decide (bitAt t.k (h + i) = 1)) → Clm t (h + bs.length) (oneL (t.s / 4294967296) (t.s % 4294967296) bs X)
 | [], h, X, hX, _ => by
  obtain ⟨e0, e1, e2, e3, e4, e5, e6, e7, v0, v1, v2, v3, v4, v5, v6, v7, rfl, h1, h2⟩ := hX
  exact ⟨e0, e1, e2, e3, e4, e5, e6, e7, v0, v1, v2, v3, v4, v5, v6, v7, rfl, h1, h2⟩
 | b :: bs, h, X, hX, hb => by
  obtain ⟨e0, e1, e2, e3, e4, e5, e6, e7, v0, v1, v2, v3, v4, v5, v6, v7, rfl, h1, h2⟩ := hX
  have hb0 : b = decide (bitAt t.k h = 1) := hb 0 (by simp)
  obtain ⟨f0, f1, f2, f3, f4, f5, f6, f7, d1, q1⟩ := node_is e0 e1 e2 e3 e4 e5 e6 e7 e0 e1 e2 e3 e4 e5 e6 e7 0 0 (by decide) (by decide)
  have s1 : emptyNd KS SS (h + 1) = ⟨[f0, f1, f2, f3, f4, f5, f6, f7].flatMap bytesOf, 0⟩ := by
   show brNd KS SS (emptyNd KS SS h) (emptyNd KS SS h) = _
   rw [h1]
   unfold brNd
   rw [d1]
   rfl
  have hb' : ∀ i, i < bs.length → bs.getD i false = decide (bitAt t.k (h + 1 + i) = 1) := fun i hi => by
   have := hb (i + 1) (by simpa using hi)
   rw [show h + 1 + i = h + (i + 1) by omega]
   exact this
  have e : h + (b :: bs).length = h + 1 + bs.length := by rw [List.length_cons]; omega
  rw [e]
  cases b with
  | true =>
   obtain ⟨u0, u1, u2, u3, u4, u5, u6, u7, d2, q2⟩ := node_is e0 e1 e2 e3 e4 e5 e6 e7 v0 v1 v2 v3 v4 v5 v6 v7 0 t.s (by decide) ht
   have hbit :  bitAt t.k h = 1 := of_decide_eq_true hb0.symm
   have s2 : partNd KS SS (h + 1) [t] = ⟨[u0, u1, u2, u3, u4, u5, u6, u7].flatMap bytesOf, t.s⟩ := by
    rw [part_lone, if_pos hbit, h1, h2]
    unfold brNd
    rw [d2]
    simp
   have IH := clm_go t ht bs (h + 1) [f0.toNat, f1.toNat, f2.toNat, f3.toNat, f4.toNat, f5.toNat, f6.toNat, f7.toNat, u0.toNat, u1.toNat, u2.toNat, u3.toNat, u4.toNat, u5.toNat, u6.toNat, u7.toNat] ⟨f0, f1, f2, f3, f4, f5, f6, f7, u0, u1, u2, u3, u4, u5, u6, u7, rfl, s1, s2⟩ hb'
   have g1 := q1 (List Nat) (fun f0 f1 f2 f3 f4 f5 f6 f7 => match true with
    | true => nodeN (fun u0 u1 u2 u3 u4 u5 u6 u7 => oneN (t.s / 4294967296) (t.s % 4294967296) bs f0 f1 f2 f3 f4 f5 f6 f7 u0 u1 u2 u3 u4 u5 u6 u7) e0.toNat e1.toNat e2.toNat e3.toNat e4.toNat e5.toNat e6.toNat e7.toNat 0 0 v0.toNat v1.toNat v2.toNat v3.toNat v4.toNat v5.toNat v6.toNat v7.toNat (t.s / 4294967296) (t.s % 4294967296)
    | false => nodeN (fun u0 u1 u2 u3 u4 u5 u6 u7 => oneN (t.s / 4294967296) (t.s % 4294967296) bs f0 f1 f2 f3 f4 f5 f6 f7 u0 u1 u2 u3 u4 u5 u6 u7) v0.toNat v1.toNat v2.toNat v3.toNat v4.toNat v5.toNat v6.toNat v7.toNat (t.s / 4294967296) (t.s % 4294967296) e0.toNat e1.toNat e2.toNat e3.toNat e4.toNat e5.toNat e6.toNat e7.toNat 0 0)
   have g2 := q2 (List Nat) (fun u0 u1 u2 u3 u4 u5 u6 u7 => oneN (t.s / 4294967296) (t.s % 4294967296) bs f0.toNat f1.toNat f2.toNat f3.toNat f4.toNat f5.toNat f6.toNat f7.toNat u0 u1 u2 u3 u4 u5 u6 u7)
   have g : oneL (t.s / 4294967296) (t.s % 4294967296) (true :: bs) [e0.toNat, e1.toNat, e2.toNat, e3.toNat, e4.toNat, e5.toNat, e6.toNat, e7.toNat, v0.toNat, v1.toNat, v2.toNat, v3.toNat, v4.toNat, v5.toNat, v6.toNat, v7.toNat] = oneL (t.s / 4294967296) (t.s % 4294967296) bs [f0.toNat, f1.toNat, f2.toNat, f3.toNat, f4.toNat, f5.toNat, f6.toNat, f7.toNat, u0.toNat, u1.toNat, u2.toNat, u3.toNat, u4.toNat, u5.toNat, u6.toNat, u7.toNat] := g1.trans g2
   rw [g]
   exact IH
  | false =>
   obtain ⟨u0, u1, u2, u3, u4, u5, u6, u7, d2, q2⟩ := node_is v0 v1 v2 v3 v4 v5 v6 v7 e0 e1 e2 e3 e4 e5 e6 e7 t.s 0 ht (by decide)
   have hbit : ¬ bitAt t.k h = 1 := of_decide_eq_false hb0.symm
   have s2 : partNd KS SS (h + 1) [t] = ⟨[u0, u1, u2, u3, u4, u5, u6, u7].flatMap bytesOf, t.s⟩ := by
    rw [part_lone, if_neg hbit, h1, h2]
    unfold brNd
    rw [d2]
    simp
   have IH := clm_go t ht bs (h + 1) [f0.toNat, f1.toNat, f2.toNat, f3.toNat, f4.toNat, f5.toNat, f6.toNat, f7.toNat, u0.toNat, u1.toNat, u2.toNat, u3.toNat, u4.toNat, u5.toNat, u6.toNat, u7.toNat] ⟨f0, f1, f2, f3, f4, f5, f6, f7, u0, u1, u2, u3, u4, u5, u6, u7, rfl, s1, s2⟩ hb'
   have g1 := q1 (List Nat) (fun f0 f1 f2 f3 f4 f5 f6 f7 => match false with
    | true => nodeN (fun u0 u1 u2 u3 u4 u5 u6 u7 => oneN (t.s / 4294967296) (t.s % 4294967296) bs f0 f1 f2 f3 f4 f5 f6 f7 u0 u1 u2 u3 u4 u5 u6 u7) e0.toNat e1.toNat e2.toNat e3.toNat e4.toNat e5.toNat e6.toNat e7.toNat 0 0 v0.toNat v1.toNat v2.toNat v3.toNat v4.toNat v5.toNat v6.toNat v7.toNat (t.s / 4294967296) (t.s % 4294967296)
    | false => nodeN (fun u0 u1 u2 u3 u4 u5 u6 u7 => oneN (t.s / 4294967296) (t.s % 4294967296) bs f0 f1 f2 f3 f4 f5 f6 f7 u0 u1 u2 u3 u4 u5 u6 u7) v0.toNat v1.toNat v2.toNat v3.toNat v4.toNat v5.toNat v6.toNat v7.toNat (t.s / 4294967296) (t.s % 4294967296) e0.toNat e1.toNat e2.toNat e3.toNat e4.toNat e5.toNat e6.toNat e7.toNat 0 0)
   have g2 := q2 (List Nat) (fun u0 u1 u2 u3 u4 u5 u6 u7 => oneN (t.s / 4294967296) (t.s % 4294967296) bs f0.toNat f1.toNat f2.toNat f3.toNat f4.toNat f5.toNat f6.toNat f7.toNat u0 u1 u2 u3 u4 u5 u6 u7)
   have g : oneL (t.s / 4294967296) (t.s % 4294967296) (false :: bs) [e0.toNat, e1.toNat, e2.toNat, e3.toNat, e4.toNat, e5.toNat, e6.toNat, e7.toNat, v0.toNat, v1.toNat, v2.toNat, v3.toNat, v4.toNat, v5.toNat, v6.toNat, v7.toNat] = oneL (t.s / 4294967296) (t.s % 4294967296) bs [f0.toNat, f1.toNat, f2.toNat, f3.toNat, f4.toNat, f5.toNat, f6.toNat, f7.toNat, u0.toNat, u1.toNat, u2.toNat, u3.toNat, u4.toNat, u5.toNat, u6.toNat, u7.toNat] := g1.trans g2
   rw [g]
   exact IH
end Go.Proofs.YtknfbccbdiidjaaGreatDoor
/- Bytes appended to a row of one's own, whatever bytes; the reference's turn, Eight and Tables.Sum lean on it. -/
namespace Go.Proofs.YtknfbccbdiidjaaGreatDoor
set_option linter.unusedVariables false
set_option linter.unusedSimpArgs false
open Go.ChangeShapes Go.WideShapes Go.ChangeAt Go.RowKit Go.Maps

theorem run_append_zero {P : Program} {w : World} (base : Nat) (t ty e : TypeId) (i : TypeInfo) (size : Nat) (ht : P.underlying t = some (.slice e)) (hi : P.info? e = some i)
   (v : Value) (n : Nat) (xs : List Value) (hown : w.ownsRow base e size v n xs) (sa : Option Addr) (sc : Nat) :
   (Builtin.append_ #[t, t] ty #[v, .slice sa 0 sc]).run P w = .ok v w := by
 rcases hown.2 with ⟨rfl, rfl⟩ | ⟨g, cap, cur, rfl, _, _, hnc, _⟩
 · cases sa <;> simp [Builtin.append_, run_underlying ht, sizeOf, typeInfo, hi, Builtin.lenOf, Builtin.firstCells, loadCells, loadCellsFrom, Result.andThen]
 · cases sa <;> simp [Builtin.append_, run_underlying ht, sizeOf, typeInfo, hi, Builtin.lenOf, Builtin.firstCells, hnc, storeCells, loadCells, loadCellsFrom, Result.andThen]
theorem wpList_append_zero {P : Program} {w : World} {ops : Array Oper} {rest : List Oper} {o : Oper} {a : Act} {Q : Exit → Act → World → Prop} (hgd : o.guard = none) (s x : Operand) (t : TypeId)
  (ho : o.op = .call { callee := .builtin .append, args := #[s, x], argTypes := #[t, t] })
  (base : Nat) (e : TypeId) (i : TypeInfo) (size : Nat) (ht : P.underlying t = some (.slice e)) (hi : P.info? e = some i)
  (v : Value) (n : Nat) (xs : List Value) (hs : a.eval s = v) (hown : w.ownsRow base e size v n xs) (sa : Option Addr) (sc : Nat) (hx : a.eval x = .slice sa 0 sc)
  (h : wpList P ops Q rest (a.put o.dst v) w) : wpList P ops Q (o :: rest) a w := by
 refine wpList_plain hgd fun K hK => ?_
 have hrun := run_append_zero (P := P) (w := w) base t o.type e i size ht hi v n xs hown sa sc
 unfold Oper.wp
 simp [execOp, ho, resolve, invoke, builtin, hs, hx, hrun, Result.andThen]
 exact hK _ _ h
theorem info_byte : (Tryz.prog.info? 5).map (fun i => (i.zero, i.size, i.bytes)) = some (some (.int .u8 0), 1, 1) := by kernel_rfl
theorem own_form {w : World} {base : Nat} {e : TypeId} {size n : Nat} {v : Value} {xs : List Value} (h : w.ownsRow base e size v n xs) : ∃ a c, v = .slice a n c := by
 rcases h.2 with ⟨rfl, rfl⟩ | ⟨g, cap, cur, rfl, _⟩
 · exact ⟨none, 0, rfl⟩
 · exact ⟨_, _, rfl⟩
theorem wpList_append_bytes {w : World} {ops : Array Oper} {rest : List Oper} {o : Oper} {a : Act} {Q : Exit → Act → World → Prop} (hgd : o.guard = none) (s x : Operand)
   (ho : o.op = .call { callee := .builtin .append, args := #[s, x], argTypes := #[48, 48] })
   (base : Nat) (v : Value) (n : Nat) (xs : List Value) (hs : a.eval s = v) (hown : w.ownsRow base 5 1 v n xs)
   (g : Nat) (vx : Value) (bs : List Nat) (hx : a.eval x = vx) (hb : Bytes w g vx bs) (hlen : n + bs.length ≤ 100000000) (hbase : base ≤ w.heap.size)
   (h : ∀ oa oc w', w'.ownsRow base 5 1 (.slice oa (n + bs.length) oc) (n + bs.length) (xs ++ bcells bs) → w.grownBy w' v.ownBlock → wpList Tryz.prog ops Q rest (a.put o.dst (.slice oa (n + bs.length) oc)) w') : wpList Tryz.prog ops Q (o :: rest) a w := by
 obtain ⟨ii, his, his0, his1, his2⟩ := info_parts info_byte
 obtain ⟨sa, sc, rfl, h1, h2, h3⟩ := hb
 rcases Nat.eq_zero_or_pos bs.length with h0 | h0
 · have e : bs = [] := List.eq_nil_of_length_eq_zero h0
   subst e
   obtain ⟨oa, oc, rfl⟩ := own_form hown
   refine wpList_append_zero hgd s x 48 ho base 5 ii 1 Tryz.underlying48 his _ n xs hs hown sa sc hx ?_
   refine h oa oc w ?_ (World.grownBy.refl w _)
   simpa [bcells] using hown
 · obtain ⟨bg, bo, rfl, _, hc⟩ := h3 h0
   refine wpList_append_own w hgd s x 48 ho base 5 ii (.int .u8 0) 1 1 Tryz.underlying48 his his0 his1 his2 rfl (by decide) v n xs hs hown ⟨bg, bo, none⟩ bs.length sc (bcells bs) hx (by rw [bcells_length, Nat.mul_one]) (fun j u hu => ?_) (bcells_oneC bs) (by unfold maxLen; omega) (by omega) hbase ?_
   · have hj := (List.getElem?_eq_some_iff.1 hu).1
     rw [bcells_length] at hj
     rw [Addr.add_mid, hc j hj]
     rw [bcells_get bs j hj] at hu
     exact hu
   · intro v' w' p1 p2 _
     obtain ⟨oa, oc, rfl⟩ := own_form p1
     exact h oa oc w' p1 p2
theorem step_append_bytes {w : World} {ops : Array Oper} {o : Oper} {a : Act} {K : Act → World → Prop} {Q : Exit → Act → World → Prop} {E : Prop} (hgd : o.guard = none) (s x : Operand)
   (ho : o.op = .call { callee := .builtin .append, args := #[s, x], argTypes := #[48, 48] })
   (base : Nat) (v : Value) (n : Nat) (xs : List Value) (hs : a.eval s = v) (hown : w.ownsRow base 5 1 v n xs)
   (g : Nat) (vx : Value) (bs : List Nat) (hx : a.eval x = vx) (hb : Bytes w g vx bs) (hlen : n + bs.length ≤ 100000000) (hbase : base ≤ w.heap.size)
   (h : ∀ oa oc w', w'.ownsRow base 5 1 (.slice oa (n + bs.length) oc) (n + bs.length) (xs ++ bcells bs) → w.grownBy w' v.ownBlock → K (a.put o.dst (.slice oa (n + bs.length) oc)) w') :
   if Region.wanted o (yielded ops a.tmps) = true then Oper.wp Tryz.prog o a w K Q else E := by
 have hw : Region.wanted o (yielded ops a.tmps) = true := by simp [Region.wanted, hgd]
 rw [if_pos hw]
 obtain ⟨ii, his, his0, his1, his2⟩ := info_parts info_byte
 obtain ⟨sa, sc, rfl, h1, h2, h3⟩ := hb
 rcases Nat.eq_zero_or_pos bs.length with h0 | h0
 · have e : bs = [] := List.eq_nil_of_length_eq_zero h0
   subst e
   obtain ⟨oa, oc, rfl⟩ := own_form hown
   have hrun := run_append_zero (P := Tryz.prog) (w := w) base 48 o.type 5 ii 1 Tryz.underlying48 his _ n xs hown sa sc
   have h' := h oa oc w (by simpa [bcells] using hown) (World.grownBy.refl w _)
   unfold Oper.wp
   simp [execOp, ho, resolve, invoke, builtin, hs, hx, hrun, Result.andThen]
   exact h'
 · obtain ⟨bg, bo, rfl, _, hc⟩ := h3 h0
   refine wp_append_own w s x 48 ho base 5 ii (.int .u8 0) 1 1 Tryz.underlying48 his his0 his1 his2 rfl (by decide) v n xs hs hown ⟨bg, bo, none⟩ bs.length sc (bcells bs) hx (by rw [bcells_length, Nat.mul_one]) (fun j u hu => ?_) (bcells_oneC bs) (by unfold maxLen; omega) (by omega) hbase ?_
   · have hj := (List.getElem?_eq_some_iff.1 hu).1
     rw [bcells_length] at hj
     rw [Addr.add_mid, hc j hj]
     rw [bcells_get bs j hj] at hu
     exact hu
   · intro v' w' p1 p2 _
     obtain ⟨oa, oc, rfl⟩ := own_form p1
     exact h oa oc w' p1 p2
theorem own_bytes {w : World} {base n g : Nat} {v : Value} {bs : List Nat} (h : w.ownsRow base 5 1 v n (bcells bs)) (hn : bs.length = n) (hb : ∀ x ∈ bs, x < 256) (hg : w.heap.size ≤ g) : Bytes w g v bs := by
 rcases h.2 with ⟨rfl, h0⟩ | ⟨b, cap, cur, rfl, hB, hh, h1, h2, h3, h4⟩
 · exact ⟨none, 0, by rw [hn, h0], by omega, hb, fun h => absurd h (by omega)⟩
 · refine ⟨_, cap, by rw [hn], by omega, hb, fun h0 => ⟨b, 0, rfl, by have := (Array.getElem?_eq_some_iff.1 hh).1; omega, fun i hi => ?_⟩⟩
   have hg2 : Has w b 5 cur := hh
   rw [Nat.zero_add]
   refine hg2.cell_is ?_
   rw [← Array.getElem?_toList]
   have e2 : cur.toList[i]? = (cur.toList.take (n * 1))[i]? := by rw [List.getElem?_take_of_lt (by omega)]
   rw [e2, h4]
   exact bcells_get bs i hi
end Go.Proofs.YtknfbccbdiidjaaGreatDoor
