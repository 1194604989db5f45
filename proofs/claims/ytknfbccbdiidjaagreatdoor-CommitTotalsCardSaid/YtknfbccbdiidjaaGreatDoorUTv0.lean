/- Rows of structs of any make: in memory, in a row of one's own; appended, and stored into. -/
import Derived.Test.YtknfbccbdiidjaaGreatDoorWs
import Derived.Test.YtknfbccbdiidjaaGreatDoorUMem
import Derived.Test.YtknfbccbdiidjaaGreatDoorURef1
import Derived.Deep.WholeRow
import Derived.Test.YtknfbccbdiidjaaGreatDoorUSha7
namespace Go.Proofs.YtknfbccbdiidjaaGreatDoor
set_option linter.unusedVariables false
set_option linter.unusedSimpArgs false
open Go.ChangeShapes Go.WideShapes Go.ChangeAt Go.RowKit Go.Maps

section
variable {α : Type} {cl : α → List Value} {k : Nat}
structure RowsAt (cl : α → List Value) (k : Nat) (w : World) (A : Option Addr) (n : Nat) (xs : List α) : Prop where
 len : xs.length = n
 sz : ∀ x ∈ xs, (cl x).length = k
 at_ : 0 < n → ∃ b o, A = some ⟨b, o, none⟩ ∧ b < w.heap.size ∧ ∀ (i : Nat) x, xs[i]? = some x → w.rangeAt b (o + i * k) (cl x)
theorem RowsAt.kept {S : Nat → Prop} {w w' : World} {A : Option Addr} {n : Nat} {xs : List α} (h : RowsAt cl k w A n xs) (hk : Kept S w w') (hs : ∀ a, A = some a → ¬ S a.block) : RowsAt cl k w' A n xs := by
 refine ⟨h.len, h.sz, fun hn => ?_⟩
 obtain ⟨b, o, e, hb, hr⟩ := h.at_ hn
 exact ⟨b, o, e, Nat.lt_of_lt_of_le hb hk.size, fun i x hx => rangeAt_kept (hr i x hx) hk (hs _ e)⟩
theorem RowsAt.below {w w' : World} {A : Option Addr} {n : Nat} {xs : List α} (h : RowsAt cl k w A n xs) (hb : Below w.heap.size w w') : RowsAt cl k w' A n xs :=
 h.kept (Kept.of_below (S := fun _ => False) hb) (fun _ _ e => e)
theorem gflat_len (xs : List α) (h : ∀ x ∈ xs, (cl x).length = k) : (xs.flatMap cl).length = xs.length * k := by
 induction xs with
 | nil => simp
 | cons x xs ih => rw [List.flatMap_cons, List.length_append, h x (List.mem_cons_self ..), ih (fun y hy => h y (List.mem_cons_of_mem _ hy)), List.length_cons, Nat.succ_mul, Nat.add_comm]
theorem gflat_get (xs : List α) (h : ∀ x ∈ xs, (cl x).length = k) (i j : Nat) (x : α) (hi : xs[i]? = some x) (hj : j < k) : (xs.flatMap cl)[i * k + j]? = (cl x)[j]? := by
 induction xs generalizing i with
 | nil => simp at hi
 | cons p xs ih =>
  rw [List.flatMap_cons]
  have hp := h p (List.mem_cons_self ..)
  cases i with
  | zero =>
   simp only [List.getElem?_cons_zero, Option.some.injEq] at hi
   subst hi
   rw [Nat.zero_mul, Nat.zero_add, List.getElem?_append_left (by rw [hp]; exact hj)]
  | succ i =>
   rw [List.getElem?_cons_succ] at hi
   rw [List.getElem?_append_right (by rw [hp, Nat.succ_mul]; omega), hp, show (i + 1) * k + j - k = i * k + j by rw [Nat.succ_mul]; omega]
   exact ih (fun y hy => h y (List.mem_cons_of_mem _ hy)) i hi
theorem RowsAt.cells {w : World} {b o n : Nat} {xs : List α} (h : RowsAt cl k w (some ⟨b, o, none⟩) n xs) : ∀ (j : Nat) u, (xs.flatMap cl)[j]? = some u → w.cell? ⟨b, o + j, none⟩ = some u := by
 intro j u hu
 have hj := (List.getElem?_eq_some_iff.1 hu).1
 rw [gflat_len xs h.sz] at hj
 have hk : 0 < k := Nat.pos_of_ne_zero (fun e => by subst e; simp at hj)
 have hi : j / k < xs.length := Nat.div_lt_of_lt_mul (by rw [Nat.mul_comm]; exact hj)
 obtain ⟨b', o', e, _, hr⟩ := h.at_ (Nat.lt_of_le_of_lt (Nat.zero_le _) (h.len ▸ hi))
 injection e with e
 injection e with e1 e2
 subst e1 e2
 have hx := List.getElem?_eq_getElem hi
 have hjd : j / k * k + j % k = j := Nat.div_add_mod' j k
 have h2 := gflat_get xs h.sz (j / k) (j % k) _ hx (Nat.mod_lt _ hk)
 rw [hjd, hu] at h2
 have := hr (j / k) _ hx (j % k) u h2.symm
 rwa [Nat.add_assoc, hjd] at this
theorem own_rows {w : World} {base n : Nat} {e : TypeId} {a : Option Addr} {c : Nat} {xs : List α} (h : w.ownsRow base e k (.slice a n c) n (xs.flatMap cl)) (hl : xs.length = n) (hz : ∀ x ∈ xs, (cl x).length = k) :
   RowsAt cl k w a n xs ∧ (∀ A, a = some A → base ≤ A.block ∧ A.block < w.heap.size) := by
 refine ⟨⟨hl, hz, fun hn => ?_⟩, fun A e => ?_⟩
 · obtain ⟨g, cap, cur, e, hb, hh, h1, h2, h3, h4⟩ := own_open h hn
   injection e with e1 e2 e3
   refine ⟨g, 0, e1, hh.lt, fun i x hx j u hu => ?_⟩
   have hj := (List.getElem?_eq_some_iff.1 hu).1
   rw [hz x (List.mem_of_getElem? hx)] at hj
   have hi := (List.getElem?_eq_some_iff.1 hx).1
   have hlt : i * k + j < n * k := by
     have : (i + 1) * k ≤ n * k := Nat.mul_le_mul_right k (by omega)
     rw [Nat.succ_mul] at this
     omega
   rw [Nat.zero_add]
   exact hh.cell_is (by rw [h4 _ hlt, gflat_get xs hz i j x hx hj]; exact hu)
 · rcases h.2 with ⟨e2, _⟩ | ⟨g, cap, cur, e2, hb, hh, _⟩
   · injection e2 with e2; rw [e] at e2; cases e2
   · injection e2 with e2
     rw [e] at e2
     injection e2 with e2
     subst e2
     exact ⟨hb, (Array.getElem?_eq_some_iff.1 hh).1⟩
theorem rows_has {w : World} {g : Nat} {t : TypeId} {xs : List α} (h : Has w g t (xs.flatMap cl).toArray) (hz : ∀ x ∈ xs, (cl x).length = k) : RowsAt cl k w (some ⟨g, 0, none⟩) xs.length xs := by
 refine ⟨rfl, hz, fun hn => ⟨g, 0, rfl, h.lt, fun i x hx j u hu => ?_⟩⟩
 have hj := (List.getElem?_eq_some_iff.1 hu).1
 rw [hz x (List.mem_of_getElem? hx)] at hj
 rw [Nat.zero_add]
 exact h.cell_is (by rw [List.getElem?_toArray, gflat_get xs hz i j x hx hj]; exact hu)
theorem own_set {w : World} {base n : Nat} {e : TypeId} {a : Option Addr} {c : Nat} {xs : List α} (h : w.ownsRow base e k (.slice a n c) n (xs.flatMap cl)) (hl : xs.length = n) (hz : ∀ x ∈ xs, (cl x).length = k)
   {p : Nat} (hp : p < n) (x y : α) (hx : xs[p]? = some x) (hy : (cl y).length = k) (o : Nat) (L : List Value) (ho : o + L.length ≤ k) (hc : ∀ j, j < k → (cl y)[j]? = if o ≤ j ∧ j < o + L.length then L[j - o]? else (cl x)[j]?) :
   ∃ b, a = some ⟨b, 0, none⟩ ∧ base ≤ b ∧ w.there b (p * k + o) L.length ∧ (w.setCells b (p * k + o) L).ownsRow base e k (.slice a n c) n ((xs.set p y).flatMap cl) ∧ Kept (· = b) w (w.setCells b (p * k + o) L) := by
 obtain ⟨b, cap, cur, e0, hB, hh, h1, h2, h3, h4⟩ := own_open h (by omega)
 injection e0 with e1 e2 e3
 subst e1 e3
 have hpn : (p + 1) * k ≤ n * k := Nat.mul_le_mul_right k hp
 rw [Nat.succ_mul] at hpn
 have hnc : n * k ≤ c * k := Nat.mul_le_mul_right k h1
 obtain ⟨cur', p1, p2, p3, p4⟩ := Has.setCells L (p * k + o) w cur hh
 have hz' : ∀ x ∈ xs.set p y, (cl x).length = k := fun u hu => by
   rcases List.mem_or_eq_of_mem_set hu with h | rfl
   · exact hz u h
   · exact hy
 have hlen : ((xs.set p y).flatMap cl).length = n * k := by rw [gflat_len _ hz', List.length_set, hl]
 refine ⟨b, rfl, hB, hh.there _ _ (by omega), ⟨hlen, .inr ⟨b, c, cur', rfl, hB, p1, h1, h2, by rw [p2, h3], ?_⟩⟩, p4⟩
 apply List.ext_getElem?
 intro j
 rw [List.getElem?_take]
 by_cases hj : j < n * k
 · rw [if_pos hj, Array.getElem?_toList, p3 j (by omega)]
   have hk : 0 < k := Nat.pos_of_ne_zero (fun e => by subst e; simp at hj)
   have hi : j / k < n := Nat.div_lt_of_lt_mul (by rw [Nat.mul_comm]; exact hj)
   have hjd : j / k * k + j % k = j := Nat.div_add_mod' j k
   have hr := Nat.mod_lt j hk
   by_cases e : j / k = p
   · have hx' : (xs.set p y)[j / k]? = some y := by rw [e, List.getElem?_set_self (by omega)]
     have h5 := gflat_get _ hz' (j / k) (j % k) y hx' hr
     have h6 := gflat_get _ hz (j / k) (j % k) x (by rw [e]; exact hx) hr
     rw [hjd] at h5 h6
     rw [h5, hc _ hr]
     rw [e] at hjd
     by_cases hin : p * k + o ≤ j ∧ j < p * k + o + L.length
     · rw [if_pos hin, if_pos (by omega)]
       congr 1; omega
     · rw [if_neg hin, if_neg (by omega), h4 j hj]
       exact h6
   · have hx' : (xs.set p y)[j / k]? = some xs[j / k] := by rw [List.getElem?_set_ne (fun h => e h.symm)]; exact List.getElem?_eq_getElem (by omega)
     have h5 := gflat_get _ hz' (j / k) (j % k) _ hx' hr
     have h6 := gflat_get _ hz (j / k) (j % k) _ (List.getElem?_eq_getElem (by omega)) hr
     rw [hjd] at h5 h6
     rw [h5]
     rw [if_neg, h4 j hj]
     · exact h6
     · intro ⟨q1, q2⟩
       rcases Nat.lt_or_gt_of_ne e with q | q
       · have : (j / k + 1) * k ≤ p * k := Nat.mul_le_mul_right k q
         rw [Nat.succ_mul] at this
         omega
       · have : (p + 1) * k ≤ j / k * k := Nat.mul_le_mul_right k q
         rw [Nat.succ_mul] at this
         omega
 · rw [if_neg hj, List.getElem?_eq_none (by omega)]
theorem wpList_append_rows {P : Program} {w : World} {ops : Array Oper} {rest : List Oper} {o : Oper} {a : Act} {Q : Exit → Act → World → Prop} (hgd : o.guard = none) (s x : Operand) (t : TypeId)
   (ho : o.op = .call { callee := .builtin .append, args := #[s, x], argTypes := #[t, t] })
   (base : Nat) (e : TypeId) (z : Value) (by_ : Nat) (ht : P.underlying t = some (.slice e)) (hinfo : (P.info? e).map (fun i => (i.zero, i.size, i.bytes)) = some (some z, k, by_)) (hzs : z.cells.size = k) (hk : 0 < k)
   (v : Value) (n : Nat) (ys : List Value) (hs : a.eval s = v) (hown : w.ownsRow base e k v n ys) (A : Option Addr) (m c : Nat) (xs : List α) (hx : a.eval x = .slice A m c) (hr : RowsAt cl k w A m xs) (h1 : ∀ x ∈ xs, ∀ u ∈ cl x, u.oneCell' = true)
   (h63 : n + m ≤ maxLen) (hbytes : (n + m) * by_ ≤ 140737488355328) (hbase : base ≤ w.heap.size)
   (h : ∀ oa oc w', w'.ownsRow base e k (.slice oa (n + m) oc) (n + m) (ys ++ xs.flatMap cl) → w.grownBy w' v.ownBlock → wpList P ops Q rest (a.put o.dst (.slice oa (n + m) oc)) w') : wpList P ops Q (o :: rest) a w := by
 obtain ⟨ii, his, his0, his1, his2⟩ := info_parts hinfo
 rcases Nat.eq_zero_or_pos m with h0 | h0
 · subst h0
   have e0 : xs = [] := List.eq_nil_of_length_eq_zero hr.len
   subst e0
   obtain ⟨oa, oc, rfl⟩ := own_form hown
   refine wpList_append_zero hgd s x t ho base e ii k ht his _ n ys hs hown A c hx ?_
   exact h oa oc w (by simpa using hown) (World.grownBy.refl w _)
 · obtain ⟨b, off, rfl, _, hc⟩ := hr.at_ h0
   refine wpList_append_own w hgd s x t ho base e ii z k by_ ht his his0 his1 his2 hzs hk v n ys hs hown ⟨b, off, none⟩ m c (xs.flatMap cl) hx (by rw [gflat_len xs hr.sz, hr.len]) (fun j u hu => ?_) ?_ h63 hbytes hbase ?_
   · rw [Addr.add_mid]; exact hr.cells j u hu
   · intro u hu
     obtain ⟨y, hy, hu⟩ := List.mem_flatMap.1 hu
     exact h1 y hy u hu
   · intro v' w' p1 p2 _
     obtain ⟨oa, oc, rfl⟩ := own_form p1
     exact h oa oc w' p1 p2
theorem step_append_rows {P : Program} {w : World} {ops : Array Oper} {o : Oper} {a : Act} {K : Act → World → Prop} {Q : Exit → Act → World → Prop} {E : Prop} (hgd : o.guard = none) (s x : Operand) (t : TypeId)
   (ho : o.op = .call { callee := .builtin .append, args := #[s, x], argTypes := #[t, t] })
   (base : Nat) (e : TypeId) (z : Value) (by_ : Nat) (ht : P.underlying t = some (.slice e)) (hinfo : (P.info? e).map (fun i => (i.zero, i.size, i.bytes)) = some (some z, k, by_)) (hzs : z.cells.size = k) (hk : 0 < k)
   (v : Value) (n : Nat) (ys : List Value) (hs : a.eval s = v) (hown : w.ownsRow base e k v n ys) (A : Option Addr) (m c : Nat) (xs : List α) (hx : a.eval x = .slice A m c) (hr : RowsAt cl k w A m xs) (h1 : ∀ x ∈ xs, ∀ u ∈ cl x, u.oneCell' = true)
   (h63 : n + m ≤ maxLen) (hbytes : (n + m) * by_ ≤ 140737488355328) (hbase : base ≤ w.heap.size)
   (h : ∀ oa oc w', w'.ownsRow base e k (.slice oa (n + m) oc) (n + m) (ys ++ xs.flatMap cl) → w.grownBy w' v.ownBlock → K (a.put o.dst (.slice oa (n + m) oc)) w') :
   if Region.wanted o (yielded ops a.tmps) = true then Oper.wp P o a w K Q else E := by
 have hw : Region.wanted o (yielded ops a.tmps) = true := by simp [Region.wanted, hgd]
 rw [if_pos hw]
 obtain ⟨ii, his, his0, his1, his2⟩ := info_parts hinfo
 rcases Nat.eq_zero_or_pos m with h0 | h0
 · subst h0
   have e0 : xs = [] := List.eq_nil_of_length_eq_zero hr.len
   subst e0
   obtain ⟨oa, oc, rfl⟩ := own_form hown
   have hrun := run_append_zero (P := P) (w := w) base t o.type e ii k ht his _ n ys hown A c
   have h' := h oa oc w (by simpa using hown) (World.grownBy.refl w _)
   unfold Oper.wp
   simp [execOp, ho, resolve, invoke, builtin, hs, hx, hrun, Result.andThen]
   exact h'
 · obtain ⟨b, off, rfl, _, hc⟩ := hr.at_ h0
   refine wp_append_own w s x t ho base e ii z k by_ ht his his0 his1 his2 hzs hk v n ys hs hown ⟨b, off, none⟩ m c (xs.flatMap cl) hx (by rw [gflat_len xs hr.sz, hr.len]) (fun j u hu => ?_) ?_ h63 hbytes hbase ?_
   · rw [Addr.add_mid]; exact hr.cells j u hu
   · intro u hu
     obtain ⟨y, hy, hu⟩ := List.mem_flatMap.1 hu
     exact h1 y hy u hu
   · intro v' w' p1 p2 _
     obtain ⟨oa, oc, rfl⟩ := own_form p1
     exact h oa oc w' p1 p2
end
theorem own_lt {w : World} {base n size : Nat} {e : TypeId} {v : Value} {xs : List Value} (h : w.ownsRow base e size v n xs) : ∀ k, v.ownBlock = some k → k < w.heap.size := by
 intro k hk
 rcases h.2 with ⟨rfl, _⟩ | ⟨g, cap, cur, rfl, _, hh, _⟩
 · simp [Value.ownBlock] at hk
 · simp [Value.ownBlock] at hk
   subst hk
   exact (Array.getElem?_eq_some_iff.1 hh).1
theorem yieldsIf_build {P : Program} {ops : Array Oper} {S : World → Prop} {op : Oper} {a : Act} (hw : Region.wanted op (yielded ops a.tmps) = true) (t : TypeId) (parts : Array (Nat × Operand)) (ho : op.op = .build t parts)
  (vs : Array (Nat × Value)) (hv : (parts.map fun (i, x) => (i, a.eval x)) = vs) (v : Value) (hrun : ∀ w, S w → (Instr.build t vs).run P w = .ok v w) : YieldsIf P ops S op v a :=
 .inl ⟨hw, fun w hw' => by
  unfold execOp
  simp only [ho, hv, Sem.run_bind, hrun w hw', Result.andThen_ok, Sem.run_pure]⟩
theorem bcells_cat (a b : List Nat) : bcells (a ++ b) = bcells a ++ bcells b := by simp [bcells]
theorem below_drew {B : Nat} {w w' : World} (h : Below B w w') : Below B w w'.drew := ⟨h.os, h.tape, h.output, h.size, h.block⟩
theorem new_row (w : World) (t : TypeId) (Z C : Array Value) : Has ((w.alloc (.cells Z t)).setRow w.heap.size C) w.heap.size t C ∧ Below w.heap.size w ((w.alloc (.cells Z t)).setRow w.heap.size C) := by
 rw [World.setRow_alloc_new]
 exact ⟨Has.new w _ _, (Below.refl _ _).alloc (Nat.le_refl _) _⟩
end Go.Proofs.YtknfbccbdiidjaaGreatDoor
/- The plain law of layer 2: numbers as bytes, records as bytes, and back. -/
namespace Go.Proofs.YtknfbccbdiidjaaGreatDoor
set_option linter.unusedVariables false
set_option linter.unusedSimpArgs false

def bigN (x n : Nat) : List Nat := (List.range n).map fun i => x / 2 ^ (8 * (n - 1 - i)) % 256
theorem bigN_len (x n : Nat) : (bigN x n).length = n := by simp [bigN]
theorem bigN_lt (x n : Nat) : ∀ y ∈ bigN x n, y < 256 := by
 intro y hy
 obtain ⟨i, _, rfl⟩ := List.mem_map.1 hy
 exact Nat.mod_lt _ (by decide)
theorem bigN_at (x n j : Nat) (h : j < n) : (bigN x n)[j]? = some (x / 2 ^ (8 * (n - 1 - j)) % 256) := by
 simp [bigN, h]
theorem bigN_nth (x n j : Nat) (h : j < n) : (bigN x n).take (j + 1) = (bigN x n).take j ++ [x / 2 ^ (8 * (n - 1 - j)) % 256] := by
 rw [List.take_add_one, bigN_at x n j h]; rfl
theorem eight_big (x : Nat) : eight x = bigN x 8 := rfl
def szB (x : Nat) : List Nat := if x < 253 then [x] else if x < 65536 then 253 :: bigN x 2 else if x < 4294967296 then 254 :: bigN x 4 else 255 :: bigN x 8
theorem szB_len (x : Nat) : (szB x).length ≤ 9 ∧ 0 < (szB x).length := by
 unfold szB
 split
 · simp
 · split
   · simp [bigN_len]
   · split <;> simp [bigN_len]
theorem szB_lt (x : Nat) : ∀ y ∈ szB x, y < 256 := by
 intro y hy
 unfold szB at hy
 split at hy
 · rw [List.mem_singleton.1 hy]; omega
 · split at hy
   · rcases List.mem_cons.1 hy with rfl | h
     · decide
     · exact bigN_lt _ _ _ h
   · split at hy
     · rcases List.mem_cons.1 hy with rfl | h
       · decide
       · exact bigN_lt _ _ _ h
     · rcases List.mem_cons.1 hy with rfl | h
       · decide
       · exact bigN_lt _ _ _ h
def numB (l : List Nat) : Nat := l.foldl (fun a b => a * 256 + b) 0
structure Rec where
 t : Nat
 v : List Nat
def recB (r : Rec) : List Nat := szB r.t ++ (szB r.v.length ++ r.v)
def recE (rs : List Rec) (k : Nat) (r : Rec) : Nat :=
 if 0 < k ∧ r.t ≤ (rs[k - 1]?.map (·.t)).getD 0 then 22 else if 65536 < r.v.length then 3 else 0
def tvAt (rs : List Rec) : Nat → Except Nat (List Nat)
 | 0 => .ok []
 | k + 1 => match tvAt rs k with
  | .error e => .error e
  | .ok b => match rs[k]? with
   | none => .ok b
   | some r => if recE rs k r = 0 then .ok (b ++ recB r) else .error (recE rs k r)
def tvEnc (rs : List Rec) : Except Nat (List Nat) := if 256 < rs.length then .error 4 else tvAt rs rs.length
theorem tvAt_up {rs : List Rec} {k e : Nat} (h : tvAt rs k = .error e) : tvAt rs (k + 1) = .error e := by
 unfold tvAt
 rw [h]
theorem tvAt_err {rs : List Rec} {k e : Nat} (h : tvAt rs k = .error e) : ∀ j, k ≤ j → tvAt rs j = .error e := by
 intro j hj
 obtain ⟨d, rfl⟩ : ∃ d, j = k + d := ⟨j - k, by omega⟩
 clear hj
 induction d with
 | zero => exact h
 | succ d ih => exact tvAt_up ih
theorem tvAt_succ {rs : List Rec} {k : Nat} {b : List Nat} {r : Rec} (h : tvAt rs k = .ok b) (hr : rs[k]? = some r) : tvAt rs (k + 1) = if recE rs k r = 0 then .ok (b ++ recB r) else .error (recE rs k r) := by
 unfold tvAt
 rw [h]
 simp only [hr]
theorem recB_lt (r : Rec) (h : ∀ y ∈ r.v, y < 256) : ∀ y ∈ recB r, y < 256 := by
 intro y hy
 unfold recB at hy
 rcases List.mem_append.1 hy with q | q
 · exact szB_lt _ _ q
 · rcases List.mem_append.1 q with q | q
   · exact szB_lt _ _ q
   · exact h y q
theorem recB_len {rs : List Rec} {k : Nat} {r : Rec} (h0 : recE rs k r = 0) : r.v.length ≤ 65536 := by
 unfold recE at h0
 split at h0
 · cases h0
 · split at h0
   · cases h0
   · rename_i h; exact Nat.le_of_not_lt h
theorem tvAt_len {rs : List Rec} (m : Nat) (hm : 65554 ≤ m) : ∀ (k : Nat) b, tvAt rs k = .ok b → b.length ≤ k * m := by
 intro k
 induction k with
 | zero => intro b e; cases e; simp
 | succ k ih =>
  intro b e
  cases c : tvAt rs k with
  | error x => rw [tvAt_up c] at e; cases e
  | ok b0 =>
   have ih := ih b0 c
   rw [Nat.succ_mul]
   cases hr : rs[k]? with
   | none =>
    unfold tvAt at e
    rw [c] at e
    simp only [hr] at e
    cases e
    omega
   | some r =>
    rw [tvAt_succ c hr] at e
    split at e
    · rename_i h0
      cases e
      have hv := recB_len h0
      have h1 := (szB_len r.t).1
      have h2 := (szB_len r.v.length).1
      unfold recB
      rw [List.length_append, List.length_append, List.length_append]
      omega
    · cases e
end Go.Proofs.YtknfbccbdiidjaaGreatDoor
