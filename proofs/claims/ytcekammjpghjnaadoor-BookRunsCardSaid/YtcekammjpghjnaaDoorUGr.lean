/- Rows of structs of any make: in memory, in a row of one's own; appended, and stored into. -/
import Derived.Test.YtcekammjpghjnaaDoorWs
import Derived.Test.YtcekammjpghjnaaDoorUMem
import Derived.Test.YtcekammjpghjnaaDoorURef1
import Derived.Deep.WholeRow
namespace Go.Proofs.YtcekammjpghjnaaDoor
set_option linter.unusedVariables false
set_option linter.unusedSimpArgs false
open Go.ChangeShapes Go.WideShapes Go.ChangeAt Go.RowKit Go.Maps

section
variable {α : Type} {cl : α → List Value} {k : Nat}
structure RowsAt (cl : α → List Value) (k : Nat) (w : World) (A : Option Addr) (n : Nat) (xs : List α) : Prop where
 len : xs.length = n
 sz : ∀ x ∈ xs, (cl x).length = k
 at_ : 0 < n → ∃ b o, A = some ⟨b, o, none⟩ ∧ b < w.heap.size ∧ ∀ (i : Nat) x, xs[i]? = some x → w.rangeAt b (o + i * k) (cl x)
theorem RowsAt.kept {S : Nat → Prop} {w w' : World} {A : Option Addr} {n : Nat} {xs : List α} (h : RowsAt cl k w A n xs) (hk : Kept S w w') (hs : ∀ a, A = some a → ¬ S a.block) : RowsAt cl k w' A n xs := by
 refine ⟨h.len, h.sz, fun hn => ?_⟩
 obtain ⟨b, o, e, hb, hr⟩ := h.at_ hn
 exact ⟨b, o, e, Nat.lt_of_lt_of_le hb hk.size, fun i x hx => rangeAt_kept (hr i x hx) hk (hs _ e)⟩
theorem RowsAt.below {w w' : World} {A : Option Addr} {n : Nat} {xs : List α} (h : RowsAt cl k w A n xs) (hb : Below w.heap.size w w') : RowsAt cl k w' A n xs :=
 h.kept (Kept.of_below (S := fun _ => False) hb) (fun _ _ e => e)
theorem gflat_len (xs : List α) (h : ∀ x ∈ xs, (cl x).length = k) : (xs.flatMap cl).length = xs.length * k := by
 induction xs with
 | nil => simp
 | cons x xs ih => rw [List.flatMap_cons, List.length_append, h x (List.mem_cons_self ..), ih (fun y hy => h y (List.mem_cons_of_mem _ hy)), List.length_cons, Nat.succ_mul, Nat.add_comm]
theorem gflat_get (xs : List α) (h : ∀ x ∈ xs, (cl x).length = k) (i j : Nat) (x : α) (hi : xs[i]? = some x) (hj : j < k) : (xs.flatMap cl)[i * k + j]? = (cl x)[j]? := by
 induction xs generalizing i with
 | nil => simp at hi
 | cons p xs ih =>
  rw [List.flatMap_cons]
  have hp := h p (List.mem_cons_self ..)
  cases i with
  | zero =>
   simp only [List.getElem?_cons_zero, Option.some.injEq] at hi
   subst hi
   rw [Nat.zero_mul, Nat.zero_add, List.getElem?_append_left (by rw [hp]; exact hj)]
  | succ i =>
   rw [List.getElem?_cons_succ] at hi
   rw [List.getElem?_append_right (by rw [hp, Nat.succ_mul]; omega), hp, show (i + 1) * k + j - k = i * k + j by rw [Nat.succ_mul]; omega]
   exact ih (fun y hy => h y (List.mem_cons_of_mem _ hy)) i hi
theorem RowsAt.cells {w : World} {b o n : Nat} {xs : List α} (h : RowsAt cl k w (some ⟨b, o, none⟩) n xs) : ∀ (j : Nat) u, (xs.flatMap cl)[j]? = some u → w.cell? ⟨b, o + j, none⟩ = some u := by
 intro j u hu
 have hj := (List.getElem?_eq_some_iff.1 hu).1
 rw [gflat_len xs h.sz] at hj
 have hk : 0 < k := Nat.pos_of_ne_zero (fun e => by subst e; simp at hj)
 have hi : j / k < xs.length := Nat.div_lt_of_lt_mul (by rw [Nat.mul_comm]; exact hj)
 obtain ⟨b', o', e, _, hr⟩ := h.at_ (Nat.lt_of_le_of_lt (Nat.zero_le _) (h.len ▸ hi))
 injection e with e
 injection e with e1 e2
 subst e1 e2
 have hx := List.getElem?_eq_getElem hi
 have hjd : j / k * k + j % k = j := Nat.div_add_mod' j k
 have h2 := gflat_get xs h.sz (j / k) (j % k) _ hx (Nat.mod_lt _ hk)
 rw [hjd, hu] at h2
 have := hr (j / k) _ hx (j % k) u h2.symm
 rwa [Nat.add_assoc, hjd] at this
theorem own_rows {w : World} {base n : Nat} {e : TypeId} {a : Option Addr} {c : Nat} {xs : List α} (h : w.ownsRow base e k (.slice a n c) n (xs.flatMap cl)) (hl : xs.length = n) (hz : ∀ x ∈ xs, (cl x).length = k) :
   RowsAt cl k w a n xs ∧ (∀ A, a = some A → base ≤ A.block ∧ A.block < w.heap.size) := by
 refine ⟨⟨hl, hz, fun hn => ?_⟩, fun A e => ?_⟩
 · obtain ⟨g, cap, cur, e, hb, hh, h1, h2, h3, h4⟩ := own_open h hn
   injection e with e1 e2 e3
   refine ⟨g, 0, e1, hh.lt, fun i x hx j u hu => ?_⟩
   have hj := (List.getElem?_eq_some_iff.1 hu).1
   rw [hz x (List.mem_of_getElem? hx)] at hj
   have hi := (List.getElem?_eq_some_iff.1 hx).1
   have hlt : i * k + j < n * k := by
     have : (i + 1) * k ≤ n * k := Nat.mul_le_mul_right k (by omega)
     rw [Nat.succ_mul] at this
     omega
   rw [Nat.zero_add]
   exact hh.cell_is (by rw [h4 _ hlt, gflat_get xs hz i j x hx hj]; exact hu)
 · rcases h.2 with ⟨e2, _⟩ | ⟨g, cap, cur, e2, hb, hh, _⟩
   · injection e2 with e2; rw [e] at e2; cases e2
   · injection e2 with e2
     rw [e] at e2
     injection e2 with e2
     subst e2
     exact ⟨hb, (Array.getElem?_eq_some_iff.1 hh).1⟩
theorem rows_has {w : World} {g : Nat} {t : TypeId} {xs : List α} (h : Has w g t (xs.flatMap cl).toArray) (hz : ∀ x ∈ xs, (cl x).length = k) : RowsAt cl k w (some ⟨g, 0, none⟩) xs.length xs := by
 refine ⟨rfl, hz, fun hn => ⟨g, 0, rfl, h.lt, fun i x hx j u hu => ?_⟩⟩
 have hj := (List.getElem?_eq_some_iff.1 hu).1
 rw [hz x (List.mem_of_getElem? hx)] at hj
 rw [Nat.zero_add]
 exact h.cell_is (by rw [List.getElem?_toArray, gflat_get xs hz i j x hx hj]; exact hu)
theorem wpList_append_rows {P : Program} {w : World} {ops : Array Oper} {rest : List Oper} {o : Oper} {a : Act} {Q : Exit → Act → World → Prop} (hgd : o.guard = none) (s x : Operand) (t : TypeId)
   (ho : o.op = .call { callee := .builtin .append, args := #[s, x], argTypes := #[t, t] })
   (base : Nat) (e : TypeId) (z : Value) (by_ : Nat) (ht : P.underlying t = some (.slice e)) (hinfo : (P.info? e).map (fun i => (i.zero, i.size, i.bytes)) = some (some z, k, by_)) (hzs : z.cells.size = k) (hk : 0 < k)
   (v : Value) (n : Nat) (ys : List Value) (hs : a.eval s = v) (hown : w.ownsRow base e k v n ys) (A : Option Addr) (m c : Nat) (xs : List α) (hx : a.eval x = .slice A m c) (hr : RowsAt cl k w A m xs) (h1 : ∀ x ∈ xs, ∀ u ∈ cl x, u.oneCell' = true)
   (h63 : n + m ≤ maxLen) (hbytes : (n + m) * by_ ≤ 140737488355328) (hbase : base ≤ w.heap.size)
   (h : ∀ oa oc w', w'.ownsRow base e k (.slice oa (n + m) oc) (n + m) (ys ++ xs.flatMap cl) → w.grownBy w' v.ownBlock → wpList P ops Q rest (a.put o.dst (.slice oa (n + m) oc)) w') : wpList P ops Q (o :: rest) a w := by
 obtain ⟨ii, his, his0, his1, his2⟩ := info_parts hinfo
 rcases Nat.eq_zero_or_pos m with h0 | h0
 · subst h0
   have e0 : xs = [] := List.eq_nil_of_length_eq_zero hr.len
   subst e0
   obtain ⟨oa, oc, rfl⟩ := own_form hown
   refine wpList_append_zero hgd s x t ho base e ii k ht his _ n ys hs hown A c hx ?_
   exact h oa oc w (by simpa using hown) (World.grownBy.refl w _)
 · obtain ⟨b, off, rfl, _, hc⟩ := hr.at_ h0
   refine wpList_append_own w hgd s x t ho base e ii z k by_ ht his his0 his1 his2 hzs hk v n ys hs hown ⟨b, off, none⟩ m c (xs.flatMap cl) hx (by rw [gflat_len xs hr.sz, hr.len]) (fun j u hu => ?_) ?_ h63 hbytes hbase ?_
   · rw [Addr.add_mid]; exact hr.cells j u hu
   · intro u hu
     obtain ⟨y, hy, hu⟩ := List.mem_flatMap.1 hu
     exact h1 y hy u hu
   · intro v' w' p1 p2 _
     obtain ⟨oa, oc, rfl⟩ := own_form p1
     exact h oa oc w' p1 p2
theorem step_append_rows {P : Program} {w : World} {ops : Array Oper} {o : Oper} {a : Act} {K : Act → World → Prop} {Q : Exit → Act → World → Prop} {E : Prop} (hgd : o.guard = none) (s x : Operand) (t : TypeId)
   (ho : o.op = .call { callee := .builtin .append, args := #[s, x], argTypes := #[t, t] })
   (base : Nat) (e : TypeId) (z : Value) (by_ : Nat) (ht : P.underlying t = some (.slice e)) (hinfo : (P.info? e).map (fun i => (i.zero, i.size, i.bytes)) = some (some z, k, by_)) (hzs : z.cells.size = k) (hk : 0 < k)
   (v : Value) (n : Nat) (ys : List Value) (hs : a.eval s = v) (hown : w.ownsRow base e k v n ys) (A : Option Addr) (m c : Nat) (xs : List α) (hx : a.eval x = .slice A m c) (hr : RowsAt cl k w A m xs) (h1 : ∀ x ∈ xs, ∀ u ∈ cl x, u.oneCell' = true)
   (h63 : n + m ≤ maxLen) (hbytes : (n + m) * by_ ≤ 140737488355328) (hbase : base ≤ w.heap.size)
   (h : ∀ oa oc w', w'.ownsRow base e k (.slice oa (n + m) oc) (n + m) (ys ++ xs.flatMap cl) → w.grownBy w' v.ownBlock → K (a.put o.dst (.slice oa (n + m) oc)) w') :
   if Region.wanted o (yielded ops a.tmps) = true then Oper.wp P o a w K Q else E := by
 have hw : Region.wanted o (yielded ops a.tmps) = true := by simp [Region.wanted, hgd]
 rw [if_pos hw]
 obtain ⟨ii, his, his0, his1, his2⟩ := info_parts hinfo
 rcases Nat.eq_zero_or_pos m with h0 | h0
 · subst h0
   have e0 : xs = [] := List.eq_nil_of_length_eq_zero hr.len
   subst e0
   obtain ⟨oa, oc, rfl⟩ := own_form hown
   have hrun := run_append_zero (P := P) (w := w) base t o.type e ii k ht his _ n ys hown A c
   have h' := h oa oc w (by simpa using hown) (World.grownBy.refl w _)
   unfold Oper.wp
   simp [execOp, ho, resolve, invoke, builtin, hs, hx, hrun, Result.andThen]
   exact h'
 · obtain ⟨b, off, rfl, _, hc⟩ := hr.at_ h0
   refine wp_append_own w s x t ho base e ii z k by_ ht his his0 his1 his2 hzs hk v n ys hs hown ⟨b, off, none⟩ m c (xs.flatMap cl) hx (by rw [gflat_len xs hr.sz, hr.len]) (fun j u hu => ?_) ?_ h63 hbytes hbase ?_
   · rw [Addr.add_mid]; exact hr.cells j u hu
   · intro u hu
     obtain ⟨y, hy, hu⟩ := List.mem_flatMap.1 hu
     exact h1 y hy u hu
   · intro v' w' p1 p2 _
     obtain ⟨oa, oc, rfl⟩ := own_form p1
     exact h oa oc w' p1 p2
end
theorem own_empty {w : World} {base : Nat} (hb : base ≤ w.heap.size) (t : TypeId) (size : Nat) : (w.alloc (.cells #[] t)).ownsRow base t size (.slice (some ⟨w.heap.size, 0, none⟩) 0 0) 0 [] :=
 ⟨by simp, .inr ⟨w.heap.size, 0, #[], rfl, hb, Has.new w t #[], Nat.le_refl _, by unfold maxLen; decide, by simp, by simp⟩⟩
theorem own_lt {w : World} {base n size : Nat} {e : TypeId} {v : Value} {xs : List Value} (h : w.ownsRow base e size v n xs) : ∀ k, v.ownBlock = some k → k < w.heap.size := by
 intro k hk
 rcases h.2 with ⟨rfl, _⟩ | ⟨g, cap, cur, rfl, _, hh, _⟩
 · simp [Value.ownBlock] at hk
 · simp [Value.ownBlock] at hk
   subst hk
   exact (Array.getElem?_eq_some_iff.1 hh).1
theorem ne_new {w : World} {g : Nat} {t : TypeId} {cs : Array Value} (h : Has w g t cs) : ∀ k, (Value.slice (some ⟨w.heap.size, 0, none⟩) 0 0).ownBlock = some k → k ≠ g := by
 intro k hk
 simp [Value.ownBlock] at hk
 have := h.lt
 omega
theorem yieldsIf_build {P : Program} {ops : Array Oper} {S : World → Prop} {op : Oper} {a : Act} (hw : Region.wanted op (yielded ops a.tmps) = true) (t : TypeId) (parts : Array (Nat × Operand)) (ho : op.op = .build t parts)
  (vs : Array (Nat × Value)) (hv : (parts.map fun (i, x) => (i, a.eval x)) = vs) (v : Value) (hrun : ∀ w, S w → (Instr.build t vs).run P w = .ok v w) : YieldsIf P ops S op v a :=
 .inl ⟨hw, fun w hw' => by
  unfold execOp
  simp only [ho, hv, Sem.run_bind, hrun w hw', Result.andThen_ok, Sem.run_pure]⟩
end Go.Proofs.YtcekammjpghjnaaDoor

