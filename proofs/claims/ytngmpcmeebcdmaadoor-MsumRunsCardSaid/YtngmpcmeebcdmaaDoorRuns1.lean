/- The world of MsumRuns: the tree, and the list of the leaves that stand there. -/
import Derived.Test.YtngmpcmeebcdmaaDoorRuns0
import Derived.Test.YtngmpcmeebcdmaaDoorSame
import Derived.Test.YtngmpcmeebcdmaaDoorApp
import Derived.Test.YtngmpcmeebcdmaaDoorNum8
namespace Go.Proofs.YtngmpcmeebcdmaaDoor
set_option linter.unusedVariables false
set_option linter.unusedSimpArgs false
open Go.ChangeShapes Go.WideShapes Go.ChangeAt Go.RowKit Go.Maps

theorem put_newX {xs : List Sel} {n : Sel} (h : ∀ (i : Nat) x, xs[i]? = some x → x.key ≠ n.key) : putT (xs.map Sel.leaf) n.leaf = (xs ++ [n]).map Sel.leaf := by
  rw [put_new (show findT (xs.map Sel.leaf) n.leaf.k = none from find_absent h), List.map_append]
  rfl
theorem flat_len (xs : List Sel) : (xs.flatMap Sel.cells).length = xs.length * 34 := by
  induction xs with
  | nil => rfl
  | cons x xs ih => rw [List.flatMap_cons, List.length_append, ih, Sel.len', List.length_cons]; omega
/-- the blocks from one on, but for the list's own. -/
def zoneA (lo : Nat) (a : Option Addr) (j : Nat) : Prop := lo ≤ j ∧ ∀ A, a = some A → A.block ≠ j
theorem own_of {w : World} {base g n cap size : Nat} {e : TypeId} {cur : Array Value} {L : List Value} (hg : Has w g e cur) (hb : base ≤ g) (h1 : n ≤ cap) (h2 : cap ≤ maxLen) (h3 : cur.size = cap * size) (hl : L.length = n * size) (h4 : ∀ j, j < n * size → cur[j]? = L[j]?) : w.ownsRow base e size (.slice (some ⟨g, 0, none⟩) n cap) n L := by
  refine ⟨hl, .inr ⟨g, cap, cur, rfl, hb, hg, h1, h2, h3, ?_⟩⟩
  apply List.ext_getElem?
  intro j
  rw [List.getElem?_take]
  split
  · rw [Array.getElem?_toList]; exact h4 j (by assumption)
  · rw [List.getElem?_eq_none (by omega)]
structure RunW (K s0 : List Wd) (w W : World) (g : Nat) (T : List Lf) (xs : List Sel) (a : Option Addr) (n c : Nat) : Prop where
  own : W.ownsRow w.heap.size 38 34 (.slice a n c) n (xs.flatMap Sel.cells)
  len : xs.length = n
  bel : Below w.heap.size w W
  tr : Tr K s0 (zoneA w.heap.size a) W g T
theorem blk_addr {a : Option Addr} {n c k : Nat} (h : (Value.slice a n c).ownBlock = some k) : ∃ A, a = some A ∧ A.block = k := by
  cases a with
  | none => simp [Value.ownBlock] at h
  | some A => exact ⟨A, rfl, by simpa [Value.ownBlock] using h⟩
section
variable {K s0 : List Wd} {w W W' : World} {g n c : Nat} {T T' : List Lf} {a : Option Addr} {xs : List Sel}
theorem RunW.below (h : RunW K s0 w W g T xs a n c) (hb : Below W.heap.size W W') : RunW K s0 w W' g T xs a n c :=
  ⟨own_kept h.own (Kept.of_below (S := fun _ => False) hb) (fun _ _ h => h), h.len, h.bel.trans (hb.mono h.bel.size), h.tr.quiet hb⟩
theorem RunW.kept (h : RunW K s0 w W g T xs a n c) (hk : Kept (fun _ => False) W W') : RunW K s0 w W' g T xs a n c :=
  h.below (hk.below (Nat.le_refl _) (fun _ h => h.elim))
theorem RunW.step (h : RunW K s0 w W g T xs a n c) (hk : Kept (zoneA w.heap.size a) W W') (ht : Tr K s0 (zoneA w.heap.size a) W' g T') : RunW K s0 w W' g T' xs a n c :=
  ⟨own_kept h.own hk (fun k e hz => by obtain ⟨A, e1, e2⟩ := blk_addr e; exact hz.2 A e1 e2), h.len, h.bel.trans (hk.below h.bel.size (fun k hz => hz.1)), ht⟩
/-- the row lies below the world's end. -/
theorem RunW.new (h : RunW K s0 w W g T xs a n c) : ∀ k, W.heap.size ≤ k → zoneA w.heap.size a k := fun k hk => by
  refine ⟨by have := h.bel.size; omega, fun A e => ?_⟩
  rcases h.own.2 with ⟨e2, _⟩ | ⟨b, cap, cur, e2, _, hh, _⟩
  · injection e2 with e2; rw [e] at e2; cases e2
  · injection e2 with e2
    rw [e] at e2
    injection e2 with e2
    have := (Array.getElem?_eq_some_iff.1 hh).1
    rw [e2]
    show b ≠ k
    omega
theorem RunW.put (h : RunW K s0 w W g T xs a n c) (hl8 : s0.length = 8) (l : Lf) (hk : IsHash l.k) (v : Value) (hv : Bytes W W.heap.size v l.v) (hs : l.s < 18446744073709551616) (hlen : l.v.length ≤ 1000000) :
    Calls Tryd.prog 18 #[.pointer (some ⟨g, 0, none⟩), arr l.k, leafV v l.s] W fun e W' => e = .returned (.int .i64 (putE T l)) ∧ RunW K s0 w W' g (putN T l) xs a n c ∧ Kept (zoneA w.heap.size a) W W' :=
  (tr_put h.tr hl8 h.new l hk v hv hs hlen).mono fun e W' ⟨h1, h2, h3⟩ => ⟨h1, h.step h3 h2, h3⟩
/-- Put, between whose start and the world of the list there are blocks of one's own. -/
theorem RunW.putC (h : RunW K s0 w W g T xs a n c) {W1 : World} (hb : Below W.heap.size W W1) {v : Value} {bs : List Nat} (hv : Bytes W1 W1.heap.size v bs) (hl8 : s0.length = 8) (k : List Nat) (hk : IsHash k) (s : Nat) (hs : s < 18446744073709551616) (hlen : bs.length ≤ 1000000) :
    Calls Tryd.prog 18 #[.pointer (some ⟨g, 0, none⟩), arr k, .agg #[v, .int .u64 (s : Int)]] W1 fun e W' => e = .returned (.int .i64 (putE T ⟨k, bs, s⟩)) ∧ (∃ S, Kept S W1 W' ∧ ∀ j, S j → ¬ (W.heap.size ≤ j ∧ j < W1.heap.size)) ∧ (∀ W2 Z, Kept Z W' W2 → (∀ j, Z j → W.heap.size ≤ j ∧ j < W1.heap.size) → RunW K s0 w W2 g (putN T ⟨k, bs, s⟩) xs a n c) := by
  have h1 := h.below hb
  have htr : Tr K s0 (fun j => zoneA w.heap.size a j ∧ ¬ (W.heap.size ≤ j ∧ j < W1.heap.size)) W1 g T := (h.tr.zone (fun j hj hz => ⟨hz, fun e => by omega⟩)).quiet hb
  refine (tr_put htr hl8 (fun j hj => ⟨h1.new j hj, fun e => by omega⟩) ⟨k, bs, s⟩ hk v hv hs (by show bs.length ≤ _; omega)).mono ?_
  rintro e W' ⟨p1, p2, p3⟩
  have hl' := own_kept h1.own p3 (fun j e hz => by obtain ⟨A, e1, e2⟩ := blk_addr e; exact hz.1.2 A e1 e2)
  have hnl : ∀ A, a = some A → A.block < W.heap.size := fun A e => by
    rcases h.own.2 with ⟨e2, _⟩ | ⟨b, cap, cur, e2, _, hh, _⟩
    · injection e2 with e2; rw [e] at e2; cases e2
    · injection e2 with e2
      rw [e] at e2
      injection e2 with e2
      rw [e2]
      exact (Array.getElem?_eq_some_iff.1 hh).1
  refine ⟨p1, ⟨_, p3, fun j hz => hz.2⟩, fun W2 Z hk2 hZ => ⟨own_kept hl' hk2 (fun j e e2 => by obtain ⟨A, e1, e3⟩ := blk_addr e; have := hnl A e1; have := hZ j e2; omega), h.len, ?_, (p2.kept hk2 (fun j _ hz e => hz.2 (hZ j e))).zone (fun j _ hz => hz.1)⟩⟩
  have hW := h.bel.size
  exact (h1.bel.trans (p3.below h1.bel.size (fun j hz => hz.1.1))).trans (hk2.below (by have := p3.size; have := hb.size; omega) (fun j e => by have := hZ j e; omega))
theorem RunW.drop (h : RunW K s0 w W g T xs a n c) (hl8 : s0.length = 8) (k : List Nat) (hk : IsHash k) :
    Calls Tryd.prog 21 #[.pointer (some ⟨g, 0, none⟩), arr k] W fun e W' => e = .returned (.bool (findT T k).isSome) ∧ RunW K s0 w W' g (dropT T k) xs a n c :=
  (tr_drop h.tr hl8 k hk).mono fun e W' ⟨h1, h2, h3⟩ => ⟨h1, h.step h3 h2⟩
theorem RunW.get (h : RunW K s0 w W g T xs a n c) (k : List Nat) (hk : IsHash k) :
    Calls Tryd.prog 22 #[.pointer (some ⟨g, 0, none⟩), arr k] W fun e W' => ∃ a0 c0, e = .returned (.tuple #[.agg #[.slice a0 (valT T k).length c0, .int .u64 (wasS T k : Int)], .bool (findT T k).isSome]) ∧ Bytes W' W'.heap.size (.slice a0 (valT T k).length c0) (valT T k) ∧ RunW K s0 w W' g T xs a n c :=
  (tr_get h.tr k hk).mono fun e W' ⟨v', h1, h2, h3⟩ => by
    have hb := h2.bytes (Nat.le_refl W'.heap.size)
    obtain ⟨a0, c0, rfl, -⟩ := h2
    exact ⟨a0, c0, h1, hb, h.below h3⟩
theorem RunW.keys (h : RunW K s0 w W g T xs a n c) :
    Calls Tryd.prog 24 #[.pointer (some ⟨g, 0, none⟩)] W fun e W' => ∃ a1 n1 c1 ks, e = .returned (.slice a1 n1 c1) ∧ KeysT T ks ∧ KeysAt W' a1 n1 ks ∧ n1 ≤ 256 ∧ RunW K s0 w W' g T xs a n c :=
  (tr_keys h.tr).mono fun e W' ⟨a1, n1, c1, ks, h1, h2, h3, h4, h5, h6, h7⟩ => ⟨a1, n1, c1, ks, h1, h2, h3, h5, h.below h7⟩
theorem RunW.row (h : RunW K s0 w W g T xs a n c) (hn : 0 < n) : ∃ b, a = some ⟨b, 0, none⟩ ∧ b < W.heap.size ∧ n ≤ c ∧ ∀ (i : Nat) x, xs[i]? = some x → W.rangeAt b (i * 34) x.cells := by
  obtain ⟨b, cap, cur, e, hB, hh, h1, h2, h3, h4⟩ := own_open h.own hn
  injection e with e1 e2 e3
  refine ⟨b, e1, hh.lt, by omega, fun i x hx j u hu => ?_⟩
  have hj := (List.getElem?_eq_some_iff.1 hu).1
  rw [Sel.len'] at hj
  have hi := (List.getElem?_eq_some_iff.1 hx).1
  have hlt : i * 34 + j < n * 34 := by
    have : (i + 1) * 34 ≤ n * 34 := Nat.mul_le_mul_right 34 (by have := h.len; omega)
    omega
  exact hh.cell_is (by rw [h4 _ hlt, flat_getK Sel.cells 34 Sel.len' xs i j x hx hj]; exact hu)
theorem RunW.set (h : RunW K s0 w W g T xs a n c) {p : Nat} (hp : p < n) (x : Sel) : ∃ b, a = some ⟨b, 0, none⟩ ∧ W.there b (p * 34) 34 ∧ RunW K s0 w (W.setCells b (p * 34) x.cells) g T (xs.set p x) a n c ∧ w.heap.size ≤ b := by
  obtain ⟨b, cap, cur, e, hB, hh, h1, h2, h3, h4⟩ := own_open h.own (by omega)
  injection e with e1 e2 e3
  subst e1 e3
  have hpn : (p + 1) * 34 ≤ n * 34 := Nat.mul_le_mul_right 34 hp
  have hnc : n * 34 ≤ c * 34 := Nat.mul_le_mul_right 34 h1
  obtain ⟨cur', p1, p2, p3, p4⟩ := Has.setCells x.cells (p * 34) W cur hh
  refine ⟨b, rfl, hh.there _ _ (by omega), ⟨own_of p1 hB h1 h2 (by rw [p2, h3]) ?_ ?_, by rw [List.length_set, h.len], h.bel.trans (p4.below h.bel.size (fun k e => by rw [show k = b from e]; exact hB)), h.tr.kept p4 (fun k _ hz e => hz.2 _ rfl (show b = k from (show k = b from e).symm))⟩, hB⟩
  · rw [flat_len, List.length_set, h.len]
  · intro j hj
    rw [p3 j (by omega), Sel.len']
    have hjd : j = j / 34 * 34 + j % 34 := by omega
    have hi : j / 34 < xs.length := by rw [h.len]; omega
    have hr : j % 34 < 34 := Nat.mod_lt _ (by decide)
    by_cases e : j / 34 = p
    · rw [if_pos (by omega)]
      have hx : (xs.set p x)[j / 34]? = some x := by rw [e, List.getElem?_set_self (by omega)]
      have h5 := flat_getK Sel.cells 34 Sel.len' (xs.set p x) (j / 34) (j % 34) x hx hr
      rw [← hjd] at h5
      rw [h5]
      congr 1
      omega
    · rw [if_neg (by omega), h4 j hj]
      have hx : (xs.set p x)[j / 34]? = some xs[j / 34] := by rw [List.getElem?_set_ne (by omega)]; exact List.getElem?_eq_getElem hi
      have h5 := flat_getK Sel.cells 34 Sel.len' (xs.set p x) (j / 34) (j % 34) _ hx hr
      have h6 := flat_getK Sel.cells 34 Sel.len' xs (j / 34) (j % 34) _ (List.getElem?_eq_getElem hi) hr
      rw [← hjd] at h5 h6
      rw [h5, h6]
/-- a row of the list's element type that was made anew takes the list's place. -/
theorem RunW.swap (h : RunW K s0 w W g T xs a n c) {S : Nat → Prop} (hk : Kept S W W') (hS : ∀ k, S k → W.heap.size ≤ k ∨ ∃ A, a = some A ∧ A.block = k) {ys : List Sel} {a' : Option Addr} {n' c' : Nat} (ho : W'.ownsRow w.heap.size 38 34 (.slice a' n' c') n' (ys.flatMap Sel.cells)) (hl : ys.length = n') (ha : ∀ A, a' = some A → W.heap.size ≤ A.block ∨ ∃ A0, a = some A0 ∧ A0.block = A.block) : RunW K s0 w W' g T ys a' n' c' := by
  have hsz := h.bel.size
  have hlo : ∀ k, S k → w.heap.size ≤ k := fun k hs => (hS k hs).elim (fun e => by omega) (fun ⟨A, e1, e2⟩ => by
    rcases h.own.2 with ⟨e3, _⟩ | ⟨b, cap, cur, e3, hb, _⟩
    · injection e3 with e3; rw [e1] at e3; cases e3
    · injection e3 with e3
      rw [e1] at e3
      injection e3 with e3
      rw [← e2, e3]; exact hb)
  refine ⟨ho, hl, h.bel.trans (hk.below hsz hlo), (h.tr.zone (S' := fun k => zoneA w.heap.size a' k ∧ ¬ S k) (fun k hlt hz => ⟨⟨hz.1, fun A e e2 => ?_⟩, fun hs => ?_⟩)).kept hk (fun k _ hz => hz.2) |>.zone (fun k _ hz => hz.1)⟩
  · rcases ha A e with e3 | ⟨A0, e3, e4⟩
    · omega
    · exact hz.2 A0 e3 (by omega)
  · rcases hS k hs with e3 | ⟨A0, e3, e4⟩
    · omega
    · exact hz.2 A0 e3 e4
theorem RunW.app (h : RunW K s0 w W g T xs a n c) (x : Sel) {W1 : World} (hk : Kept (fun _ => False) W W1) {g6 cap6 : Nat} {w6 : World} (ho : w6.ownsRow w.heap.size 38 34 (.slice (some ⟨g6, 0, none⟩) (n + 1) cap6) (n + 1) (xs.flatMap Sel.cells ++ x.cells)) (hg : W1.grownBy w6 (Value.slice a n c).ownBlock) (hb : (Value.slice a n c).ownBlock = some g6 ∨ g6 = W1.heap.size) : RunW K s0 w w6 g T (xs ++ [x]) (some ⟨g6, 0, none⟩) (n + 1) cap6 := by
  refine h.swap (S := fun k => (Value.slice a n c).ownBlock = some k) ((hk.mono (fun _ _ h => h.elim)).grown hg (fun k e => .inl e)) (fun k e => .inr (blk_addr e)) (by rw [List.flatMap_append]; simpa using ho) (by rw [List.length_append, h.len]; rfl) (fun A e => ?_)
  injection e with e
  subst e
  rcases hb with e | e
  · exact .inr (blk_addr e)
  · exact .inl (by show _ ≤ g6; rw [e]; exact hk.size)
/-- the list's beginning, and its end: cut. -/
theorem RunW.cuts (h : RunW K s0 w W g T xs a n c) {p : Nat} (hp : p < n) : ∃ b a1 c1 c2, a = some ⟨b, 0, none⟩ ∧ b < W.heap.size ∧
    (∀ w', (Instr.slice 26 (.slice (some ⟨b, 0, none⟩) n c) none (some (.int .i64 (p : Int))) none).run Tryd.prog w' = .ok (.slice (some ⟨b, 0, none⟩) p c1) w') ∧
    (∀ w', (Instr.slice 26 (.slice (some ⟨b, 0, none⟩) n c) (some (.int .i64 ((p : Int) + 1))) none none).run Tryd.prog w' = .ok (.slice (some a1) (n - (p + 1)) c2) w') ∧
    (∀ (j : Nat) u, ((xs.take p).flatMap Sel.cells)[j]? = some u → W.cell? ((⟨b, 0, none⟩ : Addr).add j) = some u) ∧
    (∀ (j : Nat) u, ((xs.drop (p + 1)).flatMap Sel.cells)[j]? = some u → W.cell? (a1.add j) = some u ∧ (a1.add j).block = b) := by
  obtain ⟨b, e1, hb, hc, hr⟩ := h.row (by omega)
  subst e1
  have hu : Tryd.prog.underlying 26 = some (.slice (Tryd.prog.elem 26)) := by kernel_rfl
  have he : Tryd.prog.elem 26 = 38 := by kernel_rfl
  have hz : ∀ w, (sizeOf 38).run Tryd.prog w = .ok 34 w := fun w => by kernel_rfl
  have hlen := h.len
  have key : ∀ (ys : List Sel) (q : Nat), (∀ (i : Nat) x, ys[i]? = some x → xs[q + i]? = some x) → ∀ (j : Nat) u, (ys.flatMap Sel.cells)[j]? = some u → W.cell? ⟨b, q * 34 + j, none⟩ = some u := fun ys q hq j u hu2 => by
    have hj := (List.getElem?_eq_some_iff.1 hu2).1
    rw [flat_len] at hj
    have hi : j / 34 < ys.length := by omega
    have hjd : j = j / 34 * 34 + j % 34 := by omega
    have hr1 : j % 34 < 34 := Nat.mod_lt _ (by decide)
    have h5 := flat_getK Sel.cells 34 Sel.len' ys (j / 34) (j % 34) _ (List.getElem?_eq_getElem hi) hr1
    rw [← hjd, hu2] at h5
    have h6 := hr (q + j / 34) _ (hq _ _ (List.getElem?_eq_getElem hi)) (j % 34) u h5.symm
    rw [show q * 34 + j = (q + j / 34) * 34 + j % 34 by omega]
    exact h6
  refine ⟨b, if c - (p + 1) = 0 then ⟨b, 0, none⟩ else ⟨b, (p + 1) * 34, none⟩, c, c - (p + 1), rfl, hb, fun w' => ?_, fun w' => ?_, fun j u hu2 => ?_, fun j u hu2 => ?_⟩
  · rw [run_slice_h w' 26 _ n c hu .i64 (p : Int) (by omega) (by omega), he, hz]
    simp only [Result.andThen, sliced, Int.toNat_natCast, Nat.zero_mul, Nat.sub_zero]
    rw [if_neg (by omega), Option.map_some, Addr.add_mid]
  · rw [run_slice_l w' 26 _ n c hu .i64 ((p : Int) + 1) (by omega) (by omega), he, hz]
    have e2 : ((p : Int) + 1).toNat = p + 1 := by omega
    simp only [Result.andThen, sliced, e2]
    by_cases e3 : c - (p + 1) = 0
    · rw [if_pos e3, if_pos (show c = p + 1 by omega)]
    · rw [if_neg e3, if_neg (show ¬ c = p + 1 by omega), Option.map_some, Addr.add_mid, Nat.zero_add]
  · rw [Addr.add_mid]
    have := key (xs.take p) 0 (fun i x hx => by
      have hi := (List.getElem?_eq_some_iff.1 hx).1
      rw [List.length_take] at hi
      rw [List.getElem?_take_of_lt (by omega)] at hx
      rw [Nat.zero_add]; exact hx) j u hu2
    rwa [Nat.zero_mul] at this
  · have hj := (List.getElem?_eq_some_iff.1 hu2).1
    rw [flat_len, List.length_drop, hlen] at hj
    have hn2 : ¬ c - (p + 1) = 0 := fun e => by have : n - (p + 1) = 0 := by omega
                                                rw [this] at hj; omega
    rw [if_neg hn2, Addr.add_mid]
    exact ⟨key (xs.drop (p + 1)) (p + 1) (fun i x hx => by rw [List.getElem?_drop] at hx; exact hx) j u hu2, rfl⟩
end
/-- append of a row that may be empty, at a step of a region that draws. -/
theorem step_append_any {P : Program} {w : World} {ops : Array Oper} {o : Oper} {a : Act} {K : Act → World → Prop} {Q : Exit → Act → World → Prop} {E : Prop} (hgd : o.guard = none) (s x : Operand) (t : TypeId)
    (ho : o.op = .call { callee := .builtin .append, args := #[s, x], argTypes := #[t, t] })
    (base : Nat) (e : TypeId) (i : TypeInfo) (z : Value) (size bytes : Nat) (ht : P.underlying t = some (.slice e)) (hi : P.info? e = some i) (hz : i.zero = some z)
    (hsize : i.size = size) (hby : i.bytes = bytes) (hzs : z.cells.size = size) (hsz : 0 < size)
    (v : Value) (n : Nat) (xs : List Value) (hs : a.eval s = v) (hown : w.ownsRow base e size v n xs)
    (ad : Addr) (m c : Nat) (news : List Value) (hx : a.eval x = .slice (some ad) m c) (hl : news.length = m * size) (hnews : ∀ (j : Nat) u, news[j]? = some u → w.cell? (ad.add j) = some u) (h1 : ∀ u ∈ news, u.oneCell' = true)
    (h63 : n + m ≤ maxLen) (hbytes : (n + m) * bytes ≤ 140737488355328) (hbase : base ≤ w.heap.size)
    (h : ∀ oa oc w', w'.ownsRow base e size (.slice oa (n + m) oc) (n + m) (xs ++ news) → w.grownBy w' v.ownBlock → K (a.put o.dst (.slice oa (n + m) oc)) w') :
    if Region.wanted o (yielded ops a.tmps) = true then Oper.wp P o a w K Q else E := by
  have hw : Region.wanted o (yielded ops a.tmps) = true := by simp [Region.wanted, hgd]
  rw [if_pos hw]
  refine wp_append_own w s x t ho base e i z size bytes ht hi hz hsize hby hzs hsz v n xs hs hown ad m c news hx hl hnews h1 h63 hbytes hbase ?_
  intro v' w' p1 p2 _
  obtain ⟨oa, oc, rfl⟩ := own_form p1
  exact h oa oc w' p1 p2
end Go.Proofs.YtngmpcmeebcdmaaDoor
