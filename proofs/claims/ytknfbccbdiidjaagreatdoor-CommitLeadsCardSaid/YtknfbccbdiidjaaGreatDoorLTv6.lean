/- Bytes appended to a row of one's own, whatever bytes; the reference's turn, Eight and Tables.Sum lean on it. -/
import Derived.Test.YtknfbccbdiidjaaGreatDoorWu
import Derived.Test.YtknfbccbdiidjaaGreatDoorLFc
import Derived.Test.YtknfbccbdiidjaaGreatDoorLSha7
import Derived.Test.YtknfbccbdiidjaaGreatDoorLMem
import Derived.Deep.WholeRow
namespace Go.Proofs.YtknfbccbdiidjaaGreatDoor
set_option linter.unusedVariables false
set_option linter.unusedSimpArgs false
open Go.ChangeShapes Go.WideShapes Go.ChangeAt Go.RowKit Go.Maps

theorem run_append_zero {P : Program} {w : World} (base : Nat) (t ty e : TypeId) (i : TypeInfo) (size : Nat) (ht : P.underlying t = some (.slice e)) (hi : P.info? e = some i)
   (v : Value) (n : Nat) (xs : List Value) (hown : w.ownsRow base e size v n xs) (sa : Option Addr) (sc : Nat) :
   (Builtin.append_ #[t, t] ty #[v, .slice sa 0 sc]).run P w = .ok v w := by
 rcases hown.2 with ⟨rfl, rfl⟩ | ⟨g, cap, cur, rfl, _, _, hnc, _⟩
 · cases sa <;> simp [Builtin.append_, run_underlying ht, sizeOf, typeInfo, hi, Builtin.lenOf, Builtin.firstCells, loadCells, loadCellsFrom, Result.andThen]
 · cases sa <;> simp [Builtin.append_, run_underlying ht, sizeOf, typeInfo, hi, Builtin.lenOf, Builtin.firstCells, hnc, storeCells, loadCells, loadCellsFrom, Result.andThen]
theorem wpList_append_zero {P : Program} {w : World} {ops : Array Oper} {rest : List Oper} {o : Oper} {a : Act} {Q : Exit → Act → World → Prop} (hgd : o.guard = none) (s x : Operand) (t : TypeId)
  (ho : o.op = .call { callee := .builtin .append, args := #[s, x], argTypes := #[t, t] })
  (base : Nat) (e : TypeId) (i : TypeInfo) (size : Nat) (ht : P.underlying t = some (.slice e)) (hi : P.info? e = some i)
  (v : Value) (n : Nat) (xs : List Value) (hs : a.eval s = v) (hown : w.ownsRow base e size v n xs) (sa : Option Addr) (sc : Nat) (hx : a.eval x = .slice sa 0 sc)
  (h : wpList P ops Q rest (a.put o.dst v) w) : wpList P ops Q (o :: rest) a w := by
 refine wpList_plain hgd fun K hK => ?_
 have Aa := run_append_zero (P := P) (w := w) base t o.type e i size ht hi v n xs hown sa sc
 unfold Oper.wp
 simp [execOp, ho, resolve, invoke, builtin, hs, hx, Aa, Result.andThen]
 exact hK _ _ h
theorem info_byte : (Tryz.prog.info? 5).map (fun i => (i.zero, i.size, i.bytes)) = some (some (.int .u8 0), 1, 1) := by kernel_rfl
theorem own_form {w : World} {base : Nat} {e : TypeId} {size n : Nat} {v : Value} {xs : List Value} (h : w.ownsRow base e size v n xs) : ∃ a c, v = .slice a n c := by
 rcases h.2 with ⟨rfl, rfl⟩ | ⟨g, cap, cur, rfl, _⟩
 · exact ⟨none, 0, rfl⟩
 · exact ⟨_, _, rfl⟩
theorem wpList_append_bytes {w : World} {ops : Array Oper} {rest : List Oper} {o : Oper} {a : Act} {Q : Exit → Act → World → Prop} (hgd : o.guard = none) (s x : Operand)
   (ho : o.op = .call { callee := .builtin .append, args := #[s, x], argTypes := #[48, 48] })
   (base : Nat) (v : Value) (n : Nat) (xs : List Value) (hs : a.eval s = v) (hown : w.ownsRow base 5 1 v n xs)
   (g : Nat) (vx : Value) (bs : List Nat) (hx : a.eval x = vx) (hb : Bytes w g vx bs) (hlen : n + bs.length ≤ 100000000) (hbase : base ≤ w.heap.size)
   (h : ∀ oa oc w', w'.ownsRow base 5 1 (.slice oa (n + bs.length) oc) (n + bs.length) (xs ++ bcells bs) → w.grownBy w' v.ownBlock → wpList Tryz.prog ops Q rest (a.put o.dst (.slice oa (n + bs.length) oc)) w') : wpList Tryz.prog ops Q (o :: rest) a w := by
 obtain ⟨ii, his, Aa, Ab, Ac⟩ := info_parts info_byte
 obtain ⟨sa, sc, rfl, h1, h2, h3⟩ := hb
 rcases Nat.eq_zero_or_pos bs.length with h0 | h0
 · have e : bs = [] := List.eq_nil_of_length_eq_zero h0
   subst e
   obtain ⟨oa, oc, rfl⟩ := own_form hown
   refine wpList_append_zero hgd s x 48 ho base 5 ii 1 Tryz.underlying48 his _ n xs hs hown sa sc hx ?_
   refine h oa oc w ?_ (World.grownBy.refl w _)
   simpa [bcells] using hown
 · obtain ⟨bg, bo, rfl, _, hc⟩ := h3 h0
   refine wpList_append_own w hgd s x 48 ho base 5 ii (.int .u8 0) 1 1 Tryz.underlying48 his Aa Ab Ac rfl (by decide) v n xs hs hown ⟨bg, bo, none⟩ bs.length sc (bcells bs) hx (by rw [bcells_length, Nat.mul_one]) (fun j u hu => ?_) (bcells_oneC bs) (by unfold maxLen; omega) (by omega) hbase ?_
   · have hj := (List.getElem?_eq_some_iff.1 hu).1
     rw [bcells_length] at hj
     rw [Addr.add_mid, hc j hj]
     rw [bcells_get bs j hj] at hu
     exact hu
   · intro v' w' p1 p2 _
     obtain ⟨oa, oc, rfl⟩ := own_form p1
     exact h oa oc w' p1 p2
theorem step_append_bytes {w : World} {ops : Array Oper} {o : Oper} {a : Act} {K : Act → World → Prop} {Q : Exit → Act → World → Prop} {E : Prop} (hgd : o.guard = none) (s x : Operand)
   (ho : o.op = .call { callee := .builtin .append, args := #[s, x], argTypes := #[48, 48] })
   (base : Nat) (v : Value) (n : Nat) (xs : List Value) (hs : a.eval s = v) (hown : w.ownsRow base 5 1 v n xs)
   (g : Nat) (vx : Value) (bs : List Nat) (hx : a.eval x = vx) (hb : Bytes w g vx bs) (hlen : n + bs.length ≤ 100000000) (hbase : base ≤ w.heap.size)
   (h : ∀ oa oc w', w'.ownsRow base 5 1 (.slice oa (n + bs.length) oc) (n + bs.length) (xs ++ bcells bs) → w.grownBy w' v.ownBlock → K (a.put o.dst (.slice oa (n + bs.length) oc)) w') :
   if Region.wanted o (yielded ops a.tmps) = true then Oper.wp Tryz.prog o a w K Q else E := by
 have hw : Region.wanted o (yielded ops a.tmps) = true := by simp [Region.wanted, hgd]
 rw [if_pos hw]
 obtain ⟨ii, his, Aa, Ab, Ac⟩ := info_parts info_byte
 obtain ⟨sa, sc, rfl, h1, h2, h3⟩ := hb
 rcases Nat.eq_zero_or_pos bs.length with h0 | h0
 · have e : bs = [] := List.eq_nil_of_length_eq_zero h0
   subst e
   obtain ⟨oa, oc, rfl⟩ := own_form hown
   have Ad := run_append_zero (P := Tryz.prog) (w := w) base 48 o.type 5 ii 1 Tryz.underlying48 his _ n xs hown sa sc
   have h' := h oa oc w (by simpa [bcells] using hown) (World.grownBy.refl w _)
   unfold Oper.wp
   simp [execOp, ho, resolve, invoke, builtin, hs, hx, Ad, Result.andThen]
   exact h'
 · obtain ⟨bg, bo, rfl, _, hc⟩ := h3 h0
   refine wp_append_own w s x 48 ho base 5 ii (.int .u8 0) 1 1 Tryz.underlying48 his Aa Ab Ac rfl (by decide) v n xs hs hown ⟨bg, bo, none⟩ bs.length sc (bcells bs) hx (by rw [bcells_length, Nat.mul_one]) (fun j u hu => ?_) (bcells_oneC bs) (by unfold maxLen; omega) (by omega) hbase ?_
   · have hj := (List.getElem?_eq_some_iff.1 hu).1
     rw [bcells_length] at hj
     rw [Addr.add_mid, hc j hj]
     rw [bcells_get bs j hj] at hu
     exact hu
   · intro v' w' p1 p2 _
     obtain ⟨oa, oc, rfl⟩ := own_form p1
     exact h oa oc w' p1 p2
theorem own_bytes {w : World} {base n g : Nat} {v : Value} {bs : List Nat} (h : w.ownsRow base 5 1 v n (bcells bs)) (hn : bs.length = n) (hb : ∀ x ∈ bs, x < 256) (hg : w.heap.size ≤ g) : Bytes w g v bs := by
 rcases h.2 with ⟨rfl, h0⟩ | ⟨b, cap, cur, rfl, hB, hh, h1, h2, h3, h4⟩
 · exact ⟨none, 0, by rw [hn, h0], by omega, hb, fun h => absurd h (by omega)⟩
 · refine ⟨_, cap, by rw [hn], by omega, hb, fun h0 => ⟨b, 0, rfl, by have := (Array.getElem?_eq_some_iff.1 hh).1; omega, fun i hi => ?_⟩⟩
   have hg2 : Has w b 5 cur := hh
   rw [Nat.zero_add]
   refine hg2.cell_is ?_
   rw [← Array.getElem?_toList]
   have e2 : cur.toList[i]? = (cur.toList.take (n * 1))[i]? := by rw [List.getElem?_take_of_lt (by omega)]
   rw [e2, h4]
   exact bcells_get bs i hi
theorem turn_sub : ∀ n : Fin 33, IntKind.u64.wrap (32 - (n.val : Int)) = ((32 - n.val : Nat) : Int) := of_decide_eq_true (by kernel_rfl)
set_option maxRecDepth 100000 in
theorem turn_is (w : World) (x : Wd) (n : Nat) (hn : 0 < n) (hn2 : n < 32) (k : Int) (hk : k = (n : Int)) :
  Calls Tryz.prog 109 #[.int .u32 (x.toNat : Int), .int .u64 k] w fun e w' => e = .returned (.int .u32 ((rotr n x).toNat : Int)) ∧ w' = w := by
 subst hk
 have ht := turn_sub ⟨n, by omega⟩
 have ht2 : (32 - (n : Int)) % 18446744073709551616 = ((32 - n : Nat) : Int) := by omega
 go_enter Tryz.func109, Tryz.ntmps109
 go_wp2
 go_ret
 refine ⟨ret_int ?_, rfl⟩
 unfold rotr
 rw [shl_wd, shr_wd, or_wd, BitVec.or_comm]
theorem div_step (n i : Nat) : n / 256 ^ i / 256 = n / 256 ^ (i + 1) := by rw [Nat.div_div_eq_div_mul, Nat.pow_succ]
theorem byte_facts {x d q : Nat} (hx : x < 18446744073709551616) (hd : d = x % 256) (hq : q = x / 256) :
  Int.tmod (x : Int) 256 = (d : Int) ∧ (x : Int) % 256 = (d : Int) ∧ Int.tdiv (x : Int) 256 = (q : Int) ∧ (x : Int) / 256 = (q : Int) ∧ IntKind.u64.wrap (d : Int) = (d : Int) ∧ (d : Int) % 18446744073709551616 = (d : Int) ∧ IntKind.u64.wrap (q : Int) = (q : Int) ∧ (q : Int) % 18446744073709551616 = (q : Int) ∧ IntKind.u8.wrap (d : Int) = (d : Int) ∧ (d : Int) % 256 = (d : Int) := by
 refine ⟨by rw [Int.tmod_eq_emod_of_nonneg (Int.natCast_nonneg _)]; omega, by omega, by rw [Int.tdiv_eq_ediv_of_nonneg (Int.natCast_nonneg _)]; omega, by omega, by rw [IntKind.wrap_u64]; omega, by omega, by rw [IntKind.wrap_u64]; omega, by omega, by rw [IntKind.wrap_u8]; omega, by omega⟩
set_option maxRecDepth 100000 in
set_option maxHeartbeats 1000000 in
theorem eight_is (w : World) (x : Nat) (hx : x < 18446744073709551616) :
  Calls Tryz.prog 22 #[.int .u64 (x : Int)] w fun e w' => (∃ a c, e = .returned (.slice a 8 c) ∧ Bytes w' w'.heap.size (.slice a 8 c) (eight x)) ∧ Below w.heap.size w w' := by
 obtain ⟨e8, he8⟩ : ∃ n : Nat, n = 8 := ⟨8, rfl⟩
 clear he8
 go_enter Tryz.func22, Tryz.ntmps22
 go_wp2_with fail
 go_loopw [0, 3, 4] (fun xv ov iv wr => ∃ (i y : Nat) (oa : Option Addr) (oc : Nat), iv = .int .i64 (i : Int) ∧ xv = .int .u64 (y : Int) ∧ ov = .slice oa i oc ∧ i ≤ 8 ∧ y = x / 256 ^ i ∧ Bytes wr wr.heap.size (.slice oa i oc) (eightR x i) ∧ Below w.heap.size w wr) (fun _ _ iv _ => 8 - (intOf iv).toNat)
 case atStart => exact ⟨0, x, _, _, rfl, rfl, rfl, Nat.zero_le _, by simp, ⟨_, _, rfl, Nat.le_refl _, (fun z hz => by cases hz), fun h => absurd h (by simp [eightR])⟩, (Below.refl _ _).alloc (Nat.le_refl _) _⟩
 case round =>
  obtain ⟨i, y, oa, oc, rfl, rfl, rfl, hi, hy, hb, Ae⟩ := hrel
  have HB := Hh hb
  have Aa := Hh Ae
  clear hb Ae
  by_cases hlt : i < 8
  · have Ah : y < 18446744073709551616 := by rw [hy]; exact Nat.lt_of_le_of_lt (Nat.div_le_self _ _) hx
    obtain ⟨d, hd⟩ : ∃ d, d = y % 256 := ⟨_, rfl⟩
    obtain ⟨q, hq⟩ : ∃ q, q = y / 256 := ⟨_, rfl⟩
    have HQ := Hh (show q = x / 256 ^ (i + 1) by rw [hq, hy, div_step])
    have HE := Hh (show eightR x (i + 1) = d :: eightR x i by rw [hd, hy]; rfl)
    have Ag : (wr.alloc (.cells #[.int .u8 (d : Int)] 5)).ownsRow w.heap.size 5 1 (.slice (some ⟨wr.heap.size, 0, none⟩) 1 1) 1 [.int .u8 (d : Int)] :=
     ⟨rfl, .inr ⟨wr.heap.size, 1, #[.int .u8 (d : Int)], rfl, Aa.o.size, heap_alloc_new wr _, Nat.le_refl _, by decide, rfl, rfl⟩⟩
    have Ac := Hh Ag
    have hal : Below wr.heap.size wr (wr.alloc (.cells #[.int .u8 (d : Int)] 5)) := (Below.refl _ _).alloc (Nat.le_refl _) _
    have Ak := Hh (HB.o.alive hal hal.size)
    have Al := Hh (show ∀ z, w.heap.size ≤ (wr.alloc (.cells z 5)).heap.size from fun z => by have := Aa.o.size; simp; omega)
    have Aq := Hh (show 1 + (eightR x i).length ≤ 100000000 by rw [eightR_len]; omega)
    have An := Hh (eightR_len x i)
    have hlt' : (i : Int) < 8 := by omega
    have Aj := Hh (And.intro (show i + 1 ≤ 8 from hlt) (show 8 - (i + 1) < 8 - i from Nat.sub_lt_sub_left hlt (Nat.lt_succ_self i)))
    obtain ⟨-, g2, -, g4, -, -, g7, -, -, -⟩ := byte_facts Ah hd hq
    have Ap := Hh g7
    clear g7
    have hib : i < 4611686018427387904 := Nat.lt_trans hlt (by decide)
    have hiw := wrap64_succ i hib
    have Am := Hh hiw
    clear Ah hd hq Ag hy hal hib
    go_wp2_with (at_builtin; refine wpList_append_bytes rfl (.tmp 13) (.tmp 14) rfl w.heap.size _ 1 _ rfl Ac.o _ _ (eightR x i) rfl Ak.o Aq.o (Al.o _) ?_; intro oa6 oc6 w6 Ab Af)
    have Ai := Hh ((Aa.o.alloc Aa.o.size _).grown Af (Al.o _) (own_blk Ac.o))
    have Ad := Hh Ab
    clear Ab Af
    go_roundw
    case rel =>
     have e : [Value.int .u8 (d : Int)] ++ bcells (eightR x i) = bcells (eightR x (i + 1)) := by rw [HE.o]; rfl
     have h6 := Ad.o
     rw [e, An.o] at h6
     have hl : 1 + i = i + 1 := Nat.add_comm 1 i
     rw [hl] at h6
     exact ⟨i + 1, q, oa6, oc6, by first | exact congrArg (Value.int .i64) Am.o | rfl, by first | exact congrArg (Value.int .u64) Ap.o | rfl, by rw [An.o, hl], Aj.o.1, HQ.o, own_bytes h6 (eightR_len x (i + 1)) (eightR_lt x (i + 1)) (Nat.le_refl _), Ai.o⟩
    case measure =>
     first | exact Aj.o.2 | (show 8 - (intOf (Value.int .i64 (wrap64 ((i : Int) + 1)))).toNat < _; rw [Am.o]; exact Aj.o.2)
  · obtain rfl : i = 8 := by omega
    have hb := HB.o
    rw [eightR_full] at hb
    have Ao := Hh hb
    clear hb
    go_wp2
    go_ret
    exact ⟨⟨_, _, rfl, Ao.o⟩, Aa.o⟩
section
/- Rows of structs of any make: in memory, in a row of one's own; appended, and stored into. -/

section
variable {α : Type} {cl : α → List Value} {k : Nat}
structure RowsAt (cl : α → List Value) (k : Nat) (w : World) (A : Option Addr) (n : Nat) (xs : List α) : Prop where
 len : xs.length = n
 sz : ∀ x ∈ xs, (cl x).length = k
 at_ : 0 < n → ∃ b o, A = some ⟨b, o, none⟩ ∧ b < w.heap.size ∧ ∀ (i : Nat) x, xs[i]? = some x → w.rangeAt b (o + i * k) (cl x)
theorem RowsAt.kept {S : Nat → Prop} {w w' : World} {A : Option Addr} {n : Nat} {xs : List α} (h : RowsAt cl k w A n xs) (hk : Kept S w w') (hs : ∀ a, A = some a → ¬ S a.block) : RowsAt cl k w' A n xs := by
 refine ⟨h.len, h.sz, fun hn => ?_⟩
 obtain ⟨b, o, e, hb, hr⟩ := h.at_ hn
 exact ⟨b, o, e, Nat.lt_of_lt_of_le hb hk.size, fun i x hx => rangeAt_kept (hr i x hx) hk (hs _ e)⟩
theorem RowsAt.below {w w' : World} {A : Option Addr} {n : Nat} {xs : List α} (h : RowsAt cl k w A n xs) (hb : Below w.heap.size w w') : RowsAt cl k w' A n xs :=
 h.kept (Kept.of_below (S := fun _ => False) hb) (fun _ _ e => e)
theorem gflat_len (xs : List α) (h : ∀ x ∈ xs, (cl x).length = k) : (xs.flatMap cl).length = xs.length * k := by
 induction xs with
 | nil => simp
 | cons x xs ih => rw [List.flatMap_cons, List.length_append, h x (List.mem_cons_self ..), ih (fun y hy => h y (List.mem_cons_of_mem _ hy)), List.length_cons, Nat.succ_mul, Nat.add_comm]
theorem gflat_get (xs : List α) (h : ∀ x ∈ xs, (cl x).length = k) (i j : Nat) (x : α) (hi : xs[i]? = some x) (hj : j < k) : (xs.flatMap cl)[i * k + j]? = (cl x)[j]? := by
 induction xs generalizing i with
 | nil => simp at hi
 | cons p xs ih =>
  rw [List.flatMap_cons]
  have hp := h p (List.mem_cons_self ..)
  cases i with
  | zero =>
   simp only [List.getElem?_cons_zero, Option.some.injEq] at hi
   subst hi
   rw [Nat.zero_mul, Nat.zero_add, List.getElem?_append_left (by rw [hp]; exact hj)]
  | succ i =>
   rw [List.getElem?_cons_succ] at hi
   rw [List.getElem?_append_right (by rw [hp, Nat.succ_mul]; omega), hp, show (i + 1) * k + j - k = i * k + j by rw [Nat.succ_mul]; omega]
   exact ih (fun y hy => h y (List.mem_cons_of_mem _ hy)) i hi
theorem RowsAt.cells {w : World} {b o n : Nat} {xs : List α} (h : RowsAt cl k w (some ⟨b, o, none⟩) n xs) : ∀ (j : Nat) u, (xs.flatMap cl)[j]? = some u → w.cell? ⟨b, o + j, none⟩ = some u := by
 intro j u hu
 have hj := (List.getElem?_eq_some_iff.1 hu).1
 rw [gflat_len xs h.sz] at hj
 have hk : 0 < k := Nat.pos_of_ne_zero (fun e => by subst e; simp at hj)
 have hi : j / k < xs.length := Nat.div_lt_of_lt_mul (by rw [Nat.mul_comm]; exact hj)
 obtain ⟨b', o', e, _, hr⟩ := h.at_ (Nat.lt_of_le_of_lt (Nat.zero_le _) (h.len ▸ hi))
 injection e with e
 injection e with e1 e2
 subst e1 e2
 have hx := List.getElem?_eq_getElem hi
 have hjd : j / k * k + j % k = j := Nat.div_add_mod' j k
 have h2 := gflat_get xs h.sz (j / k) (j % k) _ hx (Nat.mod_lt _ hk)
 rw [hjd, hu] at h2
 have := hr (j / k) _ hx (j % k) u h2.symm
 rwa [Nat.add_assoc, hjd] at this
theorem own_rows {w : World} {base n : Nat} {e : TypeId} {a : Option Addr} {c : Nat} {xs : List α} (h : w.ownsRow base e k (.slice a n c) n (xs.flatMap cl)) (hl : xs.length = n) (hz : ∀ x ∈ xs, (cl x).length = k) :
   RowsAt cl k w a n xs ∧ (∀ A, a = some A → base ≤ A.block ∧ A.block < w.heap.size) := by
 refine ⟨⟨hl, hz, fun hn => ?_⟩, fun A e => ?_⟩
 · obtain ⟨g, cap, cur, e, hb, hh, h1, h2, h3, h4⟩ := own_open h hn
   injection e with e1 e2 e3
   refine ⟨g, 0, e1, hh.lt, fun i x hx j u hu => ?_⟩
   have hj := (List.getElem?_eq_some_iff.1 hu).1
   rw [hz x (List.mem_of_getElem? hx)] at hj
   have hi := (List.getElem?_eq_some_iff.1 hx).1
   have hlt : i * k + j < n * k := by
     have : (i + 1) * k ≤ n * k := Nat.mul_le_mul_right k (by omega)
     rw [Nat.succ_mul] at this
     omega
   rw [Nat.zero_add]
   exact hh.cell_is (by rw [h4 _ hlt, gflat_get xs hz i j x hx hj]; exact hu)
 · rcases h.2 with ⟨e2, _⟩ | ⟨g, cap, cur, e2, hb, hh, _⟩
   · injection e2 with e2; rw [e] at e2; cases e2
   · injection e2 with e2
     rw [e] at e2
     injection e2 with e2
     subst e2
     exact ⟨hb, (Array.getElem?_eq_some_iff.1 hh).1⟩
theorem rows_has {w : World} {g : Nat} {t : TypeId} {xs : List α} (h : Has w g t (xs.flatMap cl).toArray) (hz : ∀ x ∈ xs, (cl x).length = k) : RowsAt cl k w (some ⟨g, 0, none⟩) xs.length xs := by
 refine ⟨rfl, hz, fun hn => ⟨g, 0, rfl, h.lt, fun i x hx j u hu => ?_⟩⟩
 have hj := (List.getElem?_eq_some_iff.1 hu).1
 rw [hz x (List.mem_of_getElem? hx)] at hj
 rw [Nat.zero_add]
 exact h.cell_is (by rw [List.getElem?_toArray, gflat_get xs hz i j x hx hj]; exact hu)
theorem own_set {w : World} {base n : Nat} {e : TypeId} {a : Option Addr} {c : Nat} {xs : List α} (h : w.ownsRow base e k (.slice a n c) n (xs.flatMap cl)) (hl : xs.length = n) (hz : ∀ x ∈ xs, (cl x).length = k)
   {p : Nat} (hp : p < n) (x y : α) (hx : xs[p]? = some x) (hy : (cl y).length = k) (o : Nat) (L : List Value) (ho : o + L.length ≤ k) (hc : ∀ j, j < k → (cl y)[j]? = if o ≤ j ∧ j < o + L.length then L[j - o]? else (cl x)[j]?) :
   ∃ b, a = some ⟨b, 0, none⟩ ∧ base ≤ b ∧ w.there b (p * k + o) L.length ∧ (w.setCells b (p * k + o) L).ownsRow base e k (.slice a n c) n ((xs.set p y).flatMap cl) ∧ Kept (· = b) w (w.setCells b (p * k + o) L) := by
 obtain ⟨b, cap, cur, e0, hB, hh, h1, h2, h3, h4⟩ := own_open h (by omega)
 injection e0 with e1 e2 e3
 subst e1 e3
 have hpn : (p + 1) * k ≤ n * k := Nat.mul_le_mul_right k hp
 rw [Nat.succ_mul] at hpn
 have hnc : n * k ≤ c * k := Nat.mul_le_mul_right k h1
 obtain ⟨cur', p1, p2, p3, p4⟩ := Has.setCells L (p * k + o) w cur hh
 have hz' : ∀ x ∈ xs.set p y, (cl x).length = k := fun u hu => by
   rcases List.mem_or_eq_of_mem_set hu with h | rfl
   · exact hz u h
   · exact hy
 have Aa : ((xs.set p y).flatMap cl).length = n * k := by rw [gflat_len _ hz', List.length_set, hl]
 refine ⟨b, rfl, hB, hh.there _ _ (by omega), ⟨Aa, .inr ⟨b, c, cur', rfl, hB, p1, h1, h2, by rw [p2, h3], ?_⟩⟩, p4⟩
 apply List.ext_getElem?
 intro j
 rw [List.getElem?_take]
 by_cases hj : j < n * k
 · rw [if_pos hj, Array.getElem?_toList, p3 j (by omega)]
   have hk : 0 < k := Nat.pos_of_ne_zero (fun e => by subst e; simp at hj)
   have hi : j / k < n := Nat.div_lt_of_lt_mul (by rw [Nat.mul_comm]; exact hj)
   have hjd : j / k * k + j % k = j := Nat.div_add_mod' j k
   have hr := Nat.mod_lt j hk
   by_cases e : j / k = p
   · have hx' : (xs.set p y)[j / k]? = some y := by rw [e, List.getElem?_set_self (by omega)]
     have h5 := gflat_get _ hz' (j / k) (j % k) y hx' hr
     have h6 := gflat_get _ hz (j / k) (j % k) x (by rw [e]; exact hx) hr
     rw [hjd] at h5 h6
     rw [h5, hc _ hr]
     rw [e] at hjd
     by_cases hin : p * k + o ≤ j ∧ j < p * k + o + L.length
     · rw [if_pos hin, if_pos (by omega)]
       congr 1; omega
     · rw [if_neg hin, if_neg (by omega), h4 j hj]
       exact h6
   · have hx' : (xs.set p y)[j / k]? = some xs[j / k] := by rw [List.getElem?_set_ne (fun h => e h.symm)]; exact List.getElem?_eq_getElem (by omega)
     have h5 := gflat_get _ hz' (j / k) (j % k) _ hx' hr
     have h6 := gflat_get _ hz (j / k) (j % k) _ (List.getElem?_eq_getElem (by omega)) hr
     rw [hjd] at h5 h6
     rw [h5]
     rw [if_neg, h4 j hj]
     · exact h6
     · intro ⟨q1, q2⟩
       rcases Nat.lt_or_gt_of_ne e with q | q
       · have : (j / k + 1) * k ≤ p * k := Nat.mul_le_mul_right k q
         rw [Nat.succ_mul] at this
         omega
       · have : (p + 1) * k ≤ j / k * k := Nat.mul_le_mul_right k q
         rw [Nat.succ_mul] at this
         omega
 · rw [if_neg hj, List.getElem?_eq_none (by omega)]
theorem wpList_append_rows {P : Program} {w : World} {ops : Array Oper} {rest : List Oper} {o : Oper} {a : Act} {Q : Exit → Act → World → Prop} (hgd : o.guard = none) (s x : Operand) (t : TypeId)
   (ho : o.op = .call { callee := .builtin .append, args := #[s, x], argTypes := #[t, t] })
   (base : Nat) (e : TypeId) (z : Value) (by_ : Nat) (ht : P.underlying t = some (.slice e)) (hinfo : (P.info? e).map (fun i => (i.zero, i.size, i.bytes)) = some (some z, k, by_)) (hzs : z.cells.size = k) (hk : 0 < k)
   (v : Value) (n : Nat) (ys : List Value) (hs : a.eval s = v) (hown : w.ownsRow base e k v n ys) (A : Option Addr) (m c : Nat) (xs : List α) (hx : a.eval x = .slice A m c) (hr : RowsAt cl k w A m xs) (h1 : ∀ x ∈ xs, ∀ u ∈ cl x, u.oneCell' = true)
   (h63 : n + m ≤ maxLen) (hbytes : (n + m) * by_ ≤ 140737488355328) (hbase : base ≤ w.heap.size)
   (h : ∀ oa oc w', w'.ownsRow base e k (.slice oa (n + m) oc) (n + m) (ys ++ xs.flatMap cl) → w.grownBy w' v.ownBlock → wpList P ops Q rest (a.put o.dst (.slice oa (n + m) oc)) w') : wpList P ops Q (o :: rest) a w := by
 obtain ⟨ii, his, Aa, Ab, Ac⟩ := info_parts hinfo
 rcases Nat.eq_zero_or_pos m with h0 | h0
 · subst h0
   have e0 : xs = [] := List.eq_nil_of_length_eq_zero hr.len
   subst e0
   obtain ⟨oa, oc, rfl⟩ := own_form hown
   refine wpList_append_zero hgd s x t ho base e ii k ht his _ n ys hs hown A c hx ?_
   exact h oa oc w (by simpa using hown) (World.grownBy.refl w _)
 · obtain ⟨b, off, rfl, _, hc⟩ := hr.at_ h0
   refine wpList_append_own w hgd s x t ho base e ii z k by_ ht his Aa Ab Ac hzs hk v n ys hs hown ⟨b, off, none⟩ m c (xs.flatMap cl) hx (by rw [gflat_len xs hr.sz, hr.len]) (fun j u hu => ?_) ?_ h63 hbytes hbase ?_
   · rw [Addr.add_mid]; exact hr.cells j u hu
   · intro u hu
     obtain ⟨y, hy, hu⟩ := List.mem_flatMap.1 hu
     exact h1 y hy u hu
   · intro v' w' p1 p2 _
     obtain ⟨oa, oc, rfl⟩ := own_form p1
     exact h oa oc w' p1 p2
end
theorem own_empty {w : World} {base : Nat} (hb : base ≤ w.heap.size) (t : TypeId) (size : Nat) : (w.alloc (.cells #[] t)).ownsRow base t size (.slice (some ⟨w.heap.size, 0, none⟩) 0 0) 0 [] :=
 ⟨by simp, .inr ⟨w.heap.size, 0, #[], rfl, hb, Has.new w t #[], Nat.le_refl _, by unfold maxLen; decide, by simp, by simp⟩⟩
theorem own_lt {w : World} {base n size : Nat} {e : TypeId} {v : Value} {xs : List Value} (h : w.ownsRow base e size v n xs) : ∀ k, v.ownBlock = some k → k < w.heap.size := by
 intro k hk
 rcases h.2 with ⟨rfl, _⟩ | ⟨g, cap, cur, rfl, _, hh, _⟩
 · simp [Value.ownBlock] at hk
 · simp [Value.ownBlock] at hk
   subst hk
   exact (Array.getElem?_eq_some_iff.1 hh).1
theorem yieldsIf_build {P : Program} {ops : Array Oper} {S : World → Prop} {op : Oper} {a : Act} (hw : Region.wanted op (yielded ops a.tmps) = true) (t : TypeId) (parts : Array (Nat × Operand)) (ho : op.op = .build t parts)
  (vs : Array (Nat × Value)) (hv : (parts.map fun (i, x) => (i, a.eval x)) = vs) (v : Value) (hrun : ∀ w, S w → (Instr.build t vs).run P w = .ok v w) : YieldsIf P ops S op v a :=
 .inl ⟨hw, fun w hw' => by
  unfold execOp
  simp only [ho, hv, Sem.run_bind, hrun w hw', Result.andThen_ok, Sem.run_pure]⟩
theorem bcells_cat (a b : List Nat) : bcells (a ++ b) = bcells a ++ bcells b := by simp [bcells]
theorem below_drew {B : Nat} {w w' : World} (h : Below B w w') : Below B w w'.drew := ⟨h.os, h.tape, h.output, h.size, h.block⟩
theorem new_row (w : World) (t : TypeId) (Z C : Array Value) : Has ((w.alloc (.cells Z t)).setRow w.heap.size C) w.heap.size t C ∧ Below w.heap.size w ((w.alloc (.cells Z t)).setRow w.heap.size C) := by
 rw [World.setRow_alloc_new]
 exact ⟨Has.new w _ _, (Below.refl _ _).alloc (Nat.le_refl _) _⟩
end
/- The plain law of layer 2: numbers as bytes, records as bytes, and back. -/

def bigN (x n : Nat) : List Nat := (List.range n).map fun i => x / 2 ^ (8 * (n - 1 - i)) % 256
theorem bigN_len (x n : Nat) : (bigN x n).length = n := by simp [bigN]
theorem bigN_lt (x n : Nat) : ∀ y ∈ bigN x n, y < 256 := by
 intro y hy
 obtain ⟨i, _, rfl⟩ := List.mem_map.1 hy
 exact Nat.mod_lt _ (by decide)
theorem bigN_at (x n j : Nat) (h : j < n) : (bigN x n)[j]? = some (x / 2 ^ (8 * (n - 1 - j)) % 256) := by
 simp [bigN, h]
theorem bigN_nth (x n j : Nat) (h : j < n) : (bigN x n).take (j + 1) = (bigN x n).take j ++ [x / 2 ^ (8 * (n - 1 - j)) % 256] := by
 rw [List.take_add_one, bigN_at x n j h]; rfl
theorem eight_big (x : Nat) : eight x = bigN x 8 := rfl
def szB (x : Nat) : List Nat := if x < 253 then [x] else if x < 65536 then 253 :: bigN x 2 else if x < 4294967296 then 254 :: bigN x 4 else 255 :: bigN x 8
theorem szB_len (x : Nat) : (szB x).length ≤ 9 ∧ 0 < (szB x).length := by
 unfold szB
 split
 · simp
 · split
   · simp [bigN_len]
   · split <;> simp [bigN_len]
theorem szB_lt (x : Nat) : ∀ y ∈ szB x, y < 256 := by
 intro y hy
 unfold szB at hy
 split at hy
 · rw [List.mem_singleton.1 hy]; omega
 · split at hy
   · rcases List.mem_cons.1 hy with rfl | h
     · decide
     · exact bigN_lt _ _ _ h
   · split at hy
     · rcases List.mem_cons.1 hy with rfl | h
       · decide
       · exact bigN_lt _ _ _ h
     · rcases List.mem_cons.1 hy with rfl | h
       · decide
       · exact bigN_lt _ _ _ h
def numB (l : List Nat) : Nat := l.foldl (fun a b => a * 256 + b) 0
structure Rec where
 t : Nat
 v : List Nat
def recB (r : Rec) : List Nat := szB r.t ++ (szB r.v.length ++ r.v)
def recE (rs : List Rec) (k : Nat) (r : Rec) : Nat :=
 if 0 < k ∧ r.t ≤ (rs[k - 1]?.map (·.t)).getD 0 then 22 else if 65536 < r.v.length then 3 else 0
def tvAt (rs : List Rec) : Nat → Except Nat (List Nat)
 | 0 => .ok []
 | k + 1 => match tvAt rs k with
  | .error e => .error e
  | .ok b => match rs[k]? with
   | none => .ok b
   | some r => if recE rs k r = 0 then .ok (b ++ recB r) else .error (recE rs k r)
def tvEnc (rs : List Rec) : Except Nat (List Nat) := if 256 < rs.length then .error 4 else tvAt rs rs.length
theorem tvAt_up {rs : List Rec} {k e : Nat} (h : tvAt rs k = .error e) : tvAt rs (k + 1) = .error e := by
 unfold tvAt
 rw [h]
theorem tvAt_err {rs : List Rec} {k e : Nat} (h : tvAt rs k = .error e) : ∀ j, k ≤ j → tvAt rs j = .error e := by
 intro j hj
 obtain ⟨d, rfl⟩ : ∃ d, j = k + d := ⟨j - k, by omega⟩
 clear hj
 induction d with
 | zero => exact h
 | succ d ih => exact tvAt_up ih
theorem tvAt_succ {rs : List Rec} {k : Nat} {b : List Nat} {r : Rec} (h : tvAt rs k = .ok b) (hr : rs[k]? = some r) : tvAt rs (k + 1) = if recE rs k r = 0 then .ok (b ++ recB r) else .error (recE rs k r) := by
 unfold tvAt
 rw [h]
 simp only [hr]
theorem recB_lt (r : Rec) (h : ∀ y ∈ r.v, y < 256) : ∀ y ∈ recB r, y < 256 := by
 intro y hy
 unfold recB at hy
 rcases List.mem_append.1 hy with q | q
 · exact szB_lt _ _ q
 · rcases List.mem_append.1 q with q | q
   · exact szB_lt _ _ q
   · exact h y q
theorem recB_len {rs : List Rec} {k : Nat} {r : Rec} (h0 : recE rs k r = 0) : r.v.length ≤ 65536 := by
 unfold recE at h0
 split at h0
 · cases h0
 · split at h0
   · cases h0
   · rename_i h; exact Nat.le_of_not_lt h
theorem tvAt_len {rs : List Rec} (m : Nat) (hm : 65554 ≤ m) : ∀ (k : Nat) b, tvAt rs k = .ok b → b.length ≤ k * m := by
 intro k
 induction k with
 | zero => intro b e; cases e; simp
 | succ k ih =>
  intro b e
  cases c : tvAt rs k with
  | error x => rw [tvAt_up c] at e; cases e
  | ok b0 =>
   have ih := ih b0 c
   rw [Nat.succ_mul]
   cases hr : rs[k]? with
   | none =>
    unfold tvAt at e
    rw [c] at e
    simp only [hr] at e
    cases e
    omega
   | some r =>
    rw [tvAt_succ c hr] at e
    split at e
    · rename_i h0
      cases e
      have hv := recB_len h0
      have h1 := (szB_len r.t).1
      have h2 := (szB_len r.v.length).1
      unfold recB
      rw [List.length_append, List.length_append, List.length_append]
      omega
    · cases e
/- The walks of tlv's big and Size. -/

structure BigW (base : Nat) (w : World) (bs : List Nat) (v : Value) (wr : World) : Prop where
 own : ∃ a c, v = .slice a bs.length c ∧ wr.ownsRow base 5 1 (.slice a bs.length c) bs.length (bcells bs)
 bel : Below base w wr
set_option maxRecDepth 100000 in
set_option maxHeartbeats 2000000 in
theorem big_is (w : World) (base : Nat) (hbase : base ≤ w.heap.size) (v : Value) (bs : List Nat) (hv : BigW base w bs v w) (x n : Nat) (hx : x < 18446744073709551616) (hn : n ≤ 8) (hl : bs.length ≤ 50000000) :
  Calls Tryz.prog 121 #[v, .int .u64 (x : Int), .int .i64 (n : Int)] w fun e w' => ∃ v', e = .returned v' ∧ BigW base w (bs ++ bigN x n) v' w' := by
 have HV := Hh hv
 obtain ⟨⟨a0, c0, rfl, -⟩, -⟩ := hv
 go_enter Tryz.func121, Tryz.ntmps121
 go_wp2_with fail
 go_loopw [0, 7] (fun bv iv wx => ∃ j : Nat, iv = .int .i64 ((n : Int) - 1 - (j : Int)) ∧ j ≤ n ∧ BigW base w (bs ++ (bigN x n).take j) bv wx) (fun _ iv _ => (intOf iv + 1).toNat)
 case atStart => exact ⟨0, by go_num, Nat.zero_le _, by rw [List.take_zero, List.append_nil]; exact HV.o⟩
 case round =>
  obtain ⟨j, rfl, hj, ⟨⟨oa7, oc7, hv7, Ab⟩, Aa⟩⟩ := hrel
  subst hv7
  obtain ⟨cs, hcs⟩ : ∃ l, l = bs ++ (bigN x n).take j := ⟨_, rfl⟩
  rw [← hcs] at Ab ⊢
  have hcl : cs.length ≤ 50000008 := by rw [hcs, List.length_append, List.length_take, bigN_len]; omega
  by_cases hj8 : j < n
  · obtain ⟨m, hm⟩ : ∃ m : Nat, (n : Int) - 1 - (j : Int) = (m : Int) ∧ m = n - 1 - j ∧ m < 8 := ⟨n - 1 - j, by omega, rfl, by omega⟩
    have hm0 : (m : Int) ≥ 0 := by omega
    rw [hm.1]
    obtain ⟨q, hq⟩ : ∃ q, q = x / 2 ^ (8 * m) % 256 := ⟨_, rfl⟩
    have hq8 : q < 256 := by rw [hq]; exact Nat.mod_lt _ (by decide)
    have hal : Below wr.heap.size wr (wr.alloc (.cells #[.int .u8 (q : Int)] 5)) := (Below.refl _ _).alloc (Nat.le_refl _) _
    have Ak := Hh (own_kept Ab (Kept.of_below (S := fun _ => False) hal) (fun _ _ e => e))
    have Ae : Bytes (wr.alloc (.cells #[.int .u8 (q : Int)] 5)) (wr.alloc (.cells #[.int .u8 (q : Int)] 5)).heap.size (.slice (some ⟨wr.heap.size, 0, none⟩) 1 1) [q] := ⟨_, _, rfl, Nat.le_refl _, (fun z hz => by rw [List.mem_singleton.1 hz]; exact hq8), fun _ => ⟨wr.heap.size, 0, rfl, by simp, fun i hi => by
     obtain rfl : i = 0 := Nat.lt_one_iff.1 hi
     exact (Has.new wr _ _).cell_is rfl⟩⟩
    have Ah := Hh Ae
    have hsz := Aa.size
    have Ag := Hh (show ∀ z, base ≤ (wr.alloc (.cells z 5)).heap.size from fun z => by simp; omega)
    have Aj := Hh (show cs.length + [q].length ≤ 100000000 by simp; omega)
    have Al := Hh (Aa.alloc (by omega) (.cells #[.int .u8 (q : Int)] 5))
    have Am := Hh (show bs ++ (bigN x n).take (j + 1) = cs ++ [q] by
     rw [bigN_nth x n j hj8, hcs, ← List.append_assoc, hq, hm.2.1])
    have HJ := Hh hj8
    have Ao := Hh hm
    have hnn : (8 * (m : Int)).toNat = 8 * m := by omega
    have hn0 : (0 : Int) ≤ 8 * (m : Int) := by omega
    have hn1 : 8 * (m : Int) < 64 := by omega
    have hu8 : IntKind.u8.wrap ((x : Int) / 2 ^ (8 * m)) = (q : Int) := by
     rw [IntKind.wrap_u8, hq]
     have : ((x : Int) / 2 ^ (8 * m)) = ((x / 2 ^ (8 * m) : Nat) : Int) := by rw [Int.natCast_ediv, Int.natCast_pow]; rfl
     rw [this]; omega
    clear hal Ae hcs hm hj Ab Aa hq hsz
    go_wp2_with (at_builtin; refine wpList_append_bytes rfl (.tmp 14) (.tmp 20) rfl base _ cs.length (bcells cs) rfl Ak.o _ _ [q] rfl Ah.o Aj.o (Ag.o _) ?_; intro oa8 oc8 w8 Ad Ai)
    have Ac : BigW base w (bs ++ (bigN x n).take (j + 1)) (.slice oa8 (cs.length + [q].length) oc8) w8 := by
     rw [Am.o]
     rw [← bcells_cat, ← List.length_append] at Ad
     exact ⟨⟨oa8, oc8, by rw [List.length_append], Ad⟩, Al.o.grown Ai (Ag.o _) (own_blk Ak.o)⟩
    have Af := Hh Ac
    have An := Hh (show (m : Int) - 1 = (n : Int) - 1 - ((j + 1 : Nat) : Int) by have h1 := Ao.o.2.1; have h2 := HJ.o; omega)
    clear Ac Ad Ai hu8 hnn hn0 hn1
    go_wp2_with fail
    go_roundw
    case rel => exact ⟨j + 1, by rw [An.o], by have := HJ.o; omega, Af.o⟩
    case measure => simp [intOf]
  · obtain rfl : j = n := by omega
    have hm0 : ¬ ((j : Int) - 1 - (j : Int)) ≥ 0 := by omega
    have Ac : BigW base w (bs ++ bigN x j) (.slice oa7 cs.length oc7) wr := by
     have e : cs = bs ++ bigN x j := by rw [hcs, List.take_of_length_le (by rw [bigN_len]; exact Nat.le_refl _)]
     rw [← e]
     exact ⟨⟨oa7, oc7, rfl, Ab⟩, Aa⟩
    have Af := Hh Ac
    clear hcs Ab Aa Ac hj hj8 hcl
    go_wp2_with fail
    go_ret
    exact ⟨_, rfl, Af.o⟩
theorem one_row (w : World) (q : Nat) (hq : q < 256) : BigW w.heap.size (w.alloc (.cells #[.int .u8 (q : Int)] 5)) [q] (.slice (some ⟨w.heap.size, 0, none⟩) 1 1) (w.alloc (.cells #[.int .u8 (q : Int)] 5)) :=
 ⟨⟨_, _, rfl, ⟨rfl, .inr ⟨w.heap.size, 1, #[.int .u8 (q : Int)], rfl, Nat.le_refl _, Has.new w _ _, Nat.le_refl _, by unfold maxLen; decide, rfl, rfl⟩⟩⟩, Below.refl _ _⟩
set_option maxRecDepth 100000 in
set_option maxHeartbeats 2000000 in
theorem size_is (w : World) (x : Nat) (hx : x < 18446744073709551616) :
   Calls Tryz.prog 98 #[.int .u64 (x : Int)] w fun e w' => ∃ v', e = .returned v' ∧ BigW w.heap.size w (szB x) v' w' := by
 have Aa := Hh (show ∀ (q n : Nat), q < 256 → n ≤ 8 → Calls Tryz.prog 121 #[.slice (some ⟨w.heap.size, 0, none⟩) 1 1, .int .u64 (x : Int), .int .i64 (n : Int)] (w.alloc (.cells #[.int .u8 (q : Int)] 5)) fun e w' => ∃ v', e = .returned v' ∧ BigW w.heap.size w (q :: bigN x n) v' w' from fun q n hq hn => by
   refine (big_is _ w.heap.size (by simp) _ [q] (one_row w q hq) x n hx hn (by simp)).mono ?_
   rintro e w' ⟨v', h1, h2⟩
   exact ⟨v', h1, ⟨h2.own, ((Below.refl w.heap.size w).alloc (Nat.le_refl _) _).trans h2.bel⟩⟩)
 by_cases h1 : x < 253
 · have h1' : (x : Int) < 253 := by omega
   have hw8 : IntKind.u8.wrap (x : Int) = (x : Int) := by rw [IntKind.wrap_u8]; omega
   have HF := Hh (show BigW w.heap.size w (szB x) (.slice (some ⟨w.heap.size, 0, none⟩) 1 1) (w.alloc (.cells #[.int .u8 (x : Int)] 5)) by
    have := one_row w x (by omega)
    rw [show szB x = [x] by unfold szB; rw [if_pos h1]]
    exact ⟨this.own, (Below.refl w.heap.size w).alloc (Nat.le_refl _) _⟩)
   clear h1
   go_enter Tryz.func98, Tryz.ntmps98
   go_wp2_with fail
   go_ret
   exact ⟨_, rfl, HF.o⟩
 have h1' : ¬ (x : Int) < 253 := by omega
 by_cases h2 : x < 65536
 · have h2' : (x : Int) < 65536 := by omega
   have HE := Hh (show szB x = 253 :: bigN x 2 by unfold szB; rw [if_neg h1, if_pos h2])
   clear h1 h2
   go_enter Tryz.func98, Tryz.ntmps98
   go_wp2_with fail
   refine (Aa.o 253 2 (by decide) (by decide)).mono ?_
   rintro _ w' ⟨v', rfl, hb⟩
   have HF := Hh hb
   clear hb
   go_wp2_with fail
   go_ret
   exact ⟨_, rfl, by rw [HE.o]; exact HF.o⟩
 have h2' : ¬ (x : Int) < 65536 := by omega
 by_cases h3 : x < 4294967296
 · have h3' : (x : Int) < 4294967296 := by omega
   have HE := Hh (show szB x = 254 :: bigN x 4 by unfold szB; rw [if_neg h1, if_neg h2, if_pos h3])
   clear h1 h2 h3
   go_enter Tryz.func98, Tryz.ntmps98
   go_wp2_with fail
   refine (Aa.o 254 4 (by decide) (by decide)).mono ?_
   rintro _ w' ⟨v', rfl, hb⟩
   have HF := Hh hb
   clear hb
   go_wp2_with fail
   go_ret
   exact ⟨_, rfl, by rw [HE.o]; exact HF.o⟩
 have h3' : ¬ (x : Int) < 4294967296 := by omega
 have HE := Hh (show szB x = 255 :: bigN x 8 by unfold szB; rw [if_neg h1, if_neg h2, if_neg h3])
 clear h1 h2 h3
 go_enter Tryz.func98, Tryz.ntmps98
 go_wp2_with fail
 refine (Aa.o 255 8 (by decide) (by decide)).mono ?_
 rintro _ w' ⟨v', rfl, hb⟩
 have HF := Hh hb
 clear hb
 go_wp2_with fail
 go_ret
 exact ⟨_, rfl, by rw [HE.o]; exact HF.o⟩
/- The walk of tlv's Encode. -/

structure RecM where
 t : Nat
 a : Option Addr
 v : List Nat
 c : Nat
def RecM.cells (r : RecM) : List Value := [.int .u64 (r.t : Int), .slice r.a r.v.length r.c]
def RecM.r (r : RecM) : Rec := ⟨r.t, r.v⟩
structure RecM.ok (w : World) (r : RecM) : Prop where
 t : r.t < 18446744073709551616
 l : r.v.length ≤ 9223372036854775807
 b : Bytes w w.heap.size (.slice r.a r.v.length r.c) r.v
theorem RecM.ok.below {w w' : World} {r : RecM} (h : r.ok w) (hb : Below w.heap.size w w') : r.ok w' := ⟨h.t, h.l, h.b.alive hb hb.size⟩
structure RecsAt (w : World) (A : Option Addr) (n : Nat) (xs : List RecM) : Prop where
 row : RowsAt RecM.cells 2 w A n xs
 ok : ∀ x ∈ xs, x.ok w
theorem RecsAt.below {w w' : World} {A : Option Addr} {n : Nat} {xs : List RecM} (h : RecsAt w A n xs) (hb : Below w.heap.size w w') : RecsAt w' A n xs := ⟨h.row.below hb, fun x hx => (h.ok x hx).below hb⟩
theorem at_rec (b o n c k : Nat) (hk : k < n) (w : World) : (Instr.indexAt 136 (.slice (some ⟨b, o, none⟩) n c) (.int .i64 (k : Int))).run Tryz.prog w = .ok (.pointer (some ⟨b, o + k * 2, none⟩)) w := by
 have hu : Tryz.prog.underlying 136 = some (.slice (Tryz.prog.elem 136)) := by kernel_rfl
 have he : Tryz.prog.elem 136 = 139 := by kernel_rfl
 have hz : ∀ w, (sizeOf 139).run Tryz.prog w = .ok 2 w := fun w => by kernel_rfl
 rw [run_indexAt_slice w 136 ⟨b, o, none⟩ n c .i64 (k : Int) hu, if_pos ⟨by omega, by omega⟩, he, hz]
 simp only [Result.andThen, Int.toNat_natCast, Addr.add_mid]
theorem zero_rec : ∃ Z : Array Value, (∀ w, (zeroValue 139).run Tryz.prog w = .ok (.agg Z) w) ∧ Z.size = 2 ∧ ¬ Z = #[] ∧ Z = (RecM.cells ⟨0, none, [], 0⟩).toArray :=
 ⟨(RecM.cells ⟨0, none, [], 0⟩).toArray, fun w => by kernel_rfl, rfl, by decide, rfl⟩
def TvP (w : World) (R : Except Nat (List Nat)) (e : Ending) (w' : World) : Prop :=
 match R with
  | .ok b => ∃ v', e = .returned (.tuple #[v', .int .i64 0]) ∧ BigW w.heap.size w b v' w'
  | .error x => e = .returned (.tuple #[.slice none 0 0, .int .i64 (x : Int)]) ∧ Below w.heap.size w w'
set_option maxRecDepth 100000 in
set_option maxHeartbeats 2000000 in
theorem tvEnc_is (w : World) (A : Option Addr) (n c : Nat) (xs : List RecM) (hxs : RecsAt w A n xs) (hn : n ≤ 9223372036854775807) :
   Calls Tryz.prog 69 #[.slice A n c] w (TvP w (tvEnc (xs.map RecM.r))) := by
 have Aw := hxs.row.len
 by_cases hbig : 256 < n
 · have hb' : (256 : Int) < (n : Int) := by omega
   have HR := Hh (show tvEnc (xs.map RecM.r) = .error 4 by unfold tvEnc; rw [List.length_map, Aw, if_pos hbig])
   clear hbig hxs Aw
   go_enter Tryz.func69, Tryz.ntmps69
   go_wp2_with fail
   go_ret2
   rw [HR.o]
   exact ⟨rfl, Below.refl _ _⟩
 have hb' : ¬ (256 : Int) < (n : Int) := by omega
 have HR := Hh (show tvEnc (xs.map RecM.r) = tvAt (xs.map RecM.r) n by unfold tvEnc; rw [List.length_map, Aw, if_neg hbig])
 obtain ⟨Z, hz, hzs, hzn, -⟩ := zero_rec
 obtain ⟨rs, hrs⟩ : ∃ rs, rs = xs.map RecM.r := ⟨_, rfl⟩
 have HR := Hh (show tvEnc (xs.map RecM.r) = tvAt rs n by rw [hrs]; exact HR.o)
 have A4 := Hh hxs
 have Bk := Hh hrs
 have Bl := Hh at_rec
 clear hxs hrs hbig
 go_enter Tryz.func69, Tryz.ntmps69
 go_wp2_with fail
 go_loopw [4, 12] (fun bv iv wr => ∃ (k : Nat) (bs : List Nat), iv = .int .i64 (k : Int) ∧ k ≤ n ∧ tvAt rs k = .ok bs ∧ BigW w.heap.size w bs bv wr) (fun _ iv _ => n - (intOf iv).toNat)
 case atStart => exact ⟨0, [], rfl, Nat.zero_le _, rfl, ⟨none, 0, rfl, World.ownsRow_nil _ _ _ _⟩, Below.refl _ _⟩
 case round =>
   obtain ⟨k, bs, rfl, hk, htv, hbw⟩ := hrel
   have Bh := Hh htv
   have Ay := Hh hbw
   clear htv hbw
   by_cases hlt : k < n
   · have hlt' : (k : Int) < (n : Int) := by omega
     obtain ⟨x, hx⟩ : ∃ x, xs[k]? = some x := ⟨_, List.getElem?_eq_getElem (by rw [A4.o.row.len]; exact hlt)⟩
     have Ap := A4.o.ok x (List.mem_of_getElem? hx)
     obtain ⟨sb, so, hA1, hA2, hr⟩ := A4.o.row.at_ (by omega)
     subst hA1
     have hrw := rangeAt_kept (hr k x hx) (Kept.of_below (S := fun _ => False) Ay.o.bel) (fun h => h)
     obtain ⟨CR, hCR⟩ : ∃ L, L = x.cells := ⟨_, rfl⟩
     have LR := Hh (show CR.length = 2 by rw [hCR]; rfl)
     rw [← hCR] at hrw
     have Bm := Hh hrw
     have SZ := Hh (show (Tryz.prog.info? 139).map (·.size) = some CR.length by rw [LR.o]; kernel_rfl)
     have Bp := Hh (show (Tryz.prog.info? 139).map (·.size) = some CR.toArray.size by rw [List.size_toArray]; exact SZ.o)
     have Bo := Hh (show Z.size = CR.toArray.size by rw [hzs, List.size_toArray, LR.o])
     have Az := Hh (show CR.toArray.all (·.oneCell') = true by rw [hCR]; kernel_rfl)
     have Bj := Hh hCR
     clear hCR
     obtain ⟨h3, hb3⟩ := new_row wr 139 Z CR.toArray
     have hat := Bl.o sb so n c k hlt
     obtain ⟨oa, oc, hbv, A2⟩ := Ay.o.own
     have Au := Ay.o.bel
     subst hbv
     have An := own_kept A2 (Kept.of_below (S := fun _ => False) hb3) (fun _ _ e => e)
     have Al := Au.trans (hb3.mono Au.size)
     clear hrw Ay A2 Au hA2
     go_upto_region 7 with (first
      | (refine wpList_load_mid rfl 139 (.tmp 15) rfl sb (so + k * 2) rfl CR _ Bm.o Tryz.underlying139 rfl SZ.o ?_)
      | (refine wpList_store_row rfl 139 (.tmp 6) (.tmp 16) rfl wr.heap.size CR.toArray rfl rfl 139 Z (heap_alloc_new wr _) Bp.o Bo.o Az.o ?_))
     obtain ⟨W9, hW9⟩ : ∃ W, W = (wr.alloc (.cells Z 139)).setRow wr.heap.size CR.toArray := ⟨_, rfl⟩
     rw [← hW9] at h3 hb3 An Al ⊢
     clear hW9
     obtain ⟨G, hG⟩ : ∃ g, g = wr.heap.size := ⟨_, rfl⟩
     rw [← hG] at h3 ⊢
     clear hG hat
     obtain ⟨vt, hvt⟩ : ∃ z, z = x.t := ⟨_, rfl⟩
     obtain ⟨va, hva⟩ : ∃ z, z = x.a := ⟨_, rfl⟩
     obtain ⟨vl, hvl⟩ : ∃ z, z = x.v.length := ⟨_, rfl⟩
     obtain ⟨vc, hvc⟩ : ∃ z, z = x.c := ⟨_, rfl⟩
     have Ae := Hh (show ∀ v : World, Has v G 139 CR.toArray → v.cell? ⟨G, 0, none⟩ = some (.int .u64 (vt : Int)) ∧ v.cell? ⟨G, 1, none⟩ = some (.slice va vl vc) from fun v hv => by
      rw [Bj.o] at hv
      rw [hvt, hva, hvl, hvc]
      exact ⟨hv.cell_is rfl, hv.cell_is rfl⟩)
     have hrx : rs[k]? = some x.r := by rw [Bk.o, List.getElem?_map, hx]; rfl
     have Bb := Hh (tvAt_succ Bh.o hrx)
     obtain ⟨tp, htp⟩ : ∃ z, z = (rs[k - 1]?.map (·.t)).getD 0 := ⟨_, rfl⟩
     obtain ⟨B7, hB7⟩ : ∃ z, z = decide (0 < k ∧ vt ≤ tp) := ⟨_, rfl⟩
     have Bf := Hh (show recE rs k x.r = if B7 = true then 22 else if 65536 < vl then 3 else 0 by
      unfold recE
      rw [← htp, show x.r.t = vt from hvt.symm, show x.r.v.length = vl from hvl.symm, hB7]
      by_cases c : 0 < k ∧ vt ≤ tp
      · rw [if_pos c, decide_eq_true c, if_pos rfl]
      · rw [if_neg c, decide_eq_false c]; rfl)
     have A0 := Hh (show 0 < k → ∀ v : World, Below w.heap.size w v → v.cell? ⟨sb, so + (k - 1) * 2, none⟩ = some (.int .u64 (tp : Int)) from fun h0 v hv => by
      obtain ⟨y, hy⟩ : ∃ y, xs[k - 1]? = some y := ⟨_, List.getElem?_eq_getElem (by rw [A4.o.row.len]; omega)⟩
      have e : tp = y.t := by rw [htp, Bk.o, List.getElem?_map, hy]; rfl
      rw [e]
      exact rangeAt_kept (hr (k - 1) y hy) (Kept.of_below (S := fun _ => False) hv) (fun h => h) 0 _ rfl)
     have Br := Hh (show ∀ v : World, Below w.heap.size w v → Bytes v v.heap.size (.slice va vl vc) x.v from fun v hv => by rw [hva, hvl, hvc]; exact Ap.b.alive hv hv.size)
     have hk256 : k < 256 := by omega
     have Aq : vt < 18446744073709551616 := by rw [hvt]; exact Ap.t
     have hvl64 : vl ≤ 9223372036854775807 := by rw [hvl]; exact Ap.l
     have Bn := Hh hvl
     have A5 := Hh hB7
     have Ax := Hh An
     have H9 := Hh (show Has W9 G 139 CR.toArray ∧ Below w.heap.size w W9 from ⟨h3, Al⟩)
     have Bq := Hh hvt
     clear hvt hva hvl hvc Bj hrx htp hB7 hx Ap hr h3 hb3 An Al Bm Bp Bo Az
     simp only [Act.put]
     go_cut [29] from 13 to 48 (fun cv wx => cv = .bool B7 ∧ Has wx G 139 CR.toArray ∧ Below w.heap.size w wx ∧ wx.ownsRow w.heap.size 5 1 (.slice oa bs.length oc) bs.length (bcells bs))
     case first =>
      have hS0 : Has W9.drew G 139 CR.toArray ∧ Below w.heap.size w W9.drew := ⟨H9.o.1, below_drew H9.o.2⟩
      have As := Hh (own_kept Ax.o (Kept.of_below (S := fun _ => False) (below_drew (Below.refl W9.heap.size W9))) (fun _ _ e => e))
      by_cases hk0 : 0 < k
      · obtain ⟨km, hkm⟩ : ∃ z, z = k - 1 := ⟨_, rfl⟩
        have Ac := Hh (Bl.o sb so n c km (by omega))
        have Ah := Hh (A0.o hk0)
        rw [← hkm] at Ah
        have Aj := Hh (show IntKind.i64.wrap ((k : Int) - 1) = (km : Int) by rw [IntKind.wrap_i64]; omega)
        clear hkm
        by_cases hle : vt ≤ tp
        · have hB : B7 = true := by rw [A5.o]; exact decide_eq_true ⟨hk0, hle⟩
          subst hB
          refine wp_region_noPanic ?_
          refine wp_region_held_drew (S := (fun v => Has v G 139 CR.toArray ∧ Below w.heap.size w v)) (by kernel_rfl) hS0 (fun hH0 => ?_)
          apply tl 0 rfl ?hv hH0 ?_
          case hv => intro w' hS; go_simp; try rfl
          simp only [qc]
          apply tl 1 rfl ?hv hH0 ?_
          case hv => intro w' hS; obtain ⟨z0, z1⟩ := Ae.o w' hS.1; have z2 := Ah.o w' hS.2; have z3 := Ac.o w'; have z4 := Aj.o; go_simp; try rfl
          simp only [qc]
          apply tl 2 rfl ?hv hH0 ?_
          case hv => intro w' hS; go_simp; try rfl
          simp only [qc]
          apply tl 3 rfl ?hv hH0 ?_
          case hv => intro w' hS; go_simp; try rfl
          simp only [qc]
          apply tl 4 rfl ?hv hH0 ?_
          case hv => intro w' hS; obtain ⟨z0, z1⟩ := Ae.o w' hS.1; have z2 := Ah.o w' hS.2; have z3 := Ac.o w'; have z4 := Aj.o; go_simp; try rfl
          simp only [qc]
          apply tl 5 rfl ?hv hH0 ?_
          case hv => intro w' hS; go_simp; try rfl
          simp only [qc]
          apply tl 6 rfl ?hv hH0 ?_
          case hv => intro w' hS; go_simp; try rfl
          simp only [qc]
          apply tl 7 rfl ?hv hH0 ?_
          case hv => intro w' hS; obtain ⟨z0, z1⟩ := Ae.o w' hS.1; have z2 := Ah.o w' hS.2; have z3 := Ac.o w'; have z4 := Aj.o; go_simp; try rfl
          simp only [qc]
          apply tl 8 rfl ?hv hH0 ?_
          case hv => intro w' hS; obtain ⟨z0, z1⟩ := Ae.o w' hS.1; have z2 := Ah.o w' hS.2; have z3 := Ac.o w'; have z4 := Aj.o; go_simp; try rfl
          simp only [qc]
          apply tl 9 rfl ?hv hH0 ?_
          case hv => intro w' hS; go_simp; try rfl
          simp only [qc]
          apply tl 10 rfl ?hv hH0 ?_
          case hv => intro w' hS; obtain ⟨z0, z1⟩ := Ae.o w' hS.1; have z2 := Ah.o w' hS.2; have z3 := Ac.o w'; have z4 := Aj.o; go_simp; try rfl
          simp only [qc]
          apply tl 11 rfl ?hv hH0 ?_
          case hv => intro w' hS; obtain ⟨z0, z1⟩ := Ae.o w' hS.1; have z2 := Ah.o w' hS.2; have z3 := Ac.o w'; have z4 := Aj.o; go_simp; try rfl
          simp only [qc]
          apply tl 12 rfl ?hv hH0 ?_
          case hv => intro w' hS; go_simp; try rfl
          simp only [qc]
          refine wpAnyH_done (by kernel_rfl) ?_ _
          refine NoPanic.normal ?_
          have HF := Hh hS0
          clear hS0
          go_wp2_with fail
          go_meet
          case rel => exact ⟨rfl, HF.o.1, HF.o.2, As.o⟩
        · have hB : B7 = false := by rw [A5.o]; exact decide_eq_false (fun h => hle h.2)
          subst hB
          refine wp_region_noPanic ?_
          refine wp_region_held_drew (S := (fun v => Has v G 139 CR.toArray ∧ Below w.heap.size w v)) (by kernel_rfl) hS0 (fun hH0 => ?_)
          apply tl 0 rfl ?hv hH0 ?_
          case hv => intro w' hS; go_simp; try rfl
          simp only [qc]
          apply tl 1 rfl ?hv hH0 ?_
          case hv => intro w' hS; obtain ⟨z0, z1⟩ := Ae.o w' hS.1; have z2 := Ah.o w' hS.2; have z3 := Ac.o w'; have z4 := Aj.o; go_simp; try rfl
          simp only [qc]
          apply tl 2 rfl ?hv hH0 ?_
          case hv => intro w' hS; go_simp; try rfl
          simp only [qc]
          apply tl 3 rfl ?hv hH0 ?_
          case hv => intro w' hS; go_simp; try rfl
          simp only [qc]
          apply tl 4 rfl ?hv hH0 ?_
          case hv => intro w' hS; obtain ⟨z0, z1⟩ := Ae.o w' hS.1; have z2 := Ah.o w' hS.2; have z3 := Ac.o w'; have z4 := Aj.o; go_simp; try rfl
          simp only [qc]
          apply tl 5 rfl ?hv hH0 ?_
          case hv => intro w' hS; go_simp; try rfl
          simp only [qc]
          apply tl 6 rfl ?hv hH0 ?_
          case hv => intro w' hS; go_simp; try rfl
          simp only [qc]
          apply tl 7 rfl ?hv hH0 ?_
          case hv => intro w' hS; obtain ⟨z0, z1⟩ := Ae.o w' hS.1; have z2 := Ah.o w' hS.2; have z3 := Ac.o w'; have z4 := Aj.o; go_simp; try rfl
          simp only [qc]
          apply tl 8 rfl ?hv hH0 ?_
          case hv => intro w' hS; obtain ⟨z0, z1⟩ := Ae.o w' hS.1; have z2 := Ah.o w' hS.2; have z3 := Ac.o w'; have z4 := Aj.o; go_simp; try rfl
          simp only [qc]
          apply tl 9 rfl ?hv hH0 ?_
          case hv => intro w' hS; go_simp; try rfl
          simp only [qc]
          apply tl 10 rfl ?hv hH0 ?_
          case hv => intro w' hS; obtain ⟨z0, z1⟩ := Ae.o w' hS.1; have z2 := Ah.o w' hS.2; have z3 := Ac.o w'; have z4 := Aj.o; go_simp; try rfl
          simp only [qc]
          apply tl 11 rfl ?hv hH0 ?_
          case hv => intro w' hS; obtain ⟨z0, z1⟩ := Ae.o w' hS.1; have z2 := Ah.o w' hS.2; have z3 := Ac.o w'; have z4 := Aj.o; go_simp; try rfl
          simp only [qc]
          apply tl 12 rfl ?hv hH0 ?_
          case hv => intro w' hS; go_simp; try rfl
          simp only [qc]
          refine wpAnyH_done (by kernel_rfl) ?_ _
          refine NoPanic.normal ?_
          have HF := Hh hS0
          clear hS0
          go_wp2_with fail
          go_meet
          case rel => exact ⟨rfl, HF.o.1, HF.o.2, As.o⟩
      · have hB : B7 = false := by rw [A5.o]; exact decide_eq_false (fun h => hk0 h.1)
        subst hB
        obtain rfl : k = 0 := by omega
        refine wp_region_noPanic ?_
        refine wp_region_held_drew (S := (fun v => Has v G 139 CR.toArray ∧ Below w.heap.size w v)) (by kernel_rfl) hS0 (fun hH0 => ?_)
        apply tl 0 rfl ?hv hH0 ?_
        case hv => intro w' hS; go_simp; try rfl
        simp only [qc]
        apply tl 1 rfl ?hv hH0 ?_
        case hv => intro w' hS; obtain ⟨z0, z1⟩ := Ae.o w' hS.1; go_simp; try rfl
        simp only [qc]
        apply tl 2 rfl ?hv hH0 ?_
        case hv => intro w' hS; go_simp; try rfl
        simp only [qc]
        refine tk 3 (v := undef) rfl (Or.inr ⟨by kernel_rfl, rfl⟩) hH0 ?_
        simp only [qc]
        refine tk 4 (v := undef) rfl (Or.inr ⟨by kernel_rfl, rfl⟩) hH0 ?_
        simp only [qc]
        refine tk 5 (v := undef) rfl (Or.inr ⟨by kernel_rfl, rfl⟩) hH0 ?_
        simp only [qc]
        refine tk 6 (v := undef) rfl (Or.inr ⟨by kernel_rfl, rfl⟩) hH0 ?_
        simp only [qc]
        refine tk 7 (v := undef) rfl (Or.inr ⟨by kernel_rfl, rfl⟩) hH0 ?_
        simp only [qc]
        refine tk 8 (v := undef) rfl (Or.inr ⟨by kernel_rfl, rfl⟩) hH0 ?_
        simp only [qc]
        refine tk 9 (v := undef) rfl (Or.inr ⟨by kernel_rfl, rfl⟩) hH0 ?_
        simp only [qc]
        refine tk 10 (v := undef) rfl (Or.inr ⟨by kernel_rfl, rfl⟩) hH0 ?_
        simp only [qc]
        refine tk 11 (v := undef) rfl (Or.inr ⟨by kernel_rfl, rfl⟩) hH0 ?_
        simp only [qc]
        apply tl 12 rfl ?hv hH0 ?_
        case hv => intro w' hS; go_simp; try rfl
        simp only [qc]
        refine wpAnyH_done (by kernel_rfl) ?_ _
        refine NoPanic.normal ?_
        have HF := Hh hS0
        clear hS0
        go_wp2_with fail
        go_meet
        case rel => exact ⟨rfl, HF.o.1, HF.o.2, As.o⟩
     case rest =>
     obtain ⟨Bi, hW10⟩ : ∃ y, y = wc := ⟨_, rfl⟩
     subst hW10
     obtain ⟨rfl, h10, Ak, Am⟩ := hcut
     obtain ⟨c0, c1⟩ := Ae.o Bi h10
     have A3 := Hh (And.intro h10 Ak)
     have Bc := Hh Am
     have HK := Hh hlt
     clear h10 Ak Am Ax H9
     cases B7 with
     | true =>
      have HE := Hh (show tvAt rs n = .error 22 from tvAt_err (by rw [Bb.o, Bf.o]; rfl) n HK.o)
      go_wp2_with fail
      go_ret2
      rw [HR.o, HE.o]
      exact ⟨rfl, A3.o.2⟩
     | false =>
      by_cases hlong : 65536 < vl
      · have hlong' : (65536 : Int) < (vl : Int) := by omega
        have HE := Hh (show tvAt rs n = .error 3 from tvAt_err (by rw [Bb.o, Bf.o]; simp [hlong]) n HK.o)
        go_wp2_with fail
        go_ret2
        rw [HR.o, HE.o]
        exact ⟨rfl, A3.o.2⟩
      · have hlong' : ¬ (65536 : Int) < (vl : Int) := by omega
        have HN := Hh (show tvAt rs (k + 1) = .ok (bs ++ recB x.r) by rw [Bb.o, Bf.o]; simp [hlong])
        have A6 := Hh (show bs.length ≤ 17000000 by have := tvAt_len 65554 (Nat.le_refl _) k bs Bh.o; omega)
        have l1 := (szB_len vt).1
        have l2 := (szB_len vl).1
        have A8 := Hh (show bs.length + (szB vt).length ≤ 100000000 by have := A6.o; omega)
        have A9 := Hh (show bs.length + (szB vt).length + (szB vl).length ≤ 100000000 by have := A6.o; omega)
        have Ba := Hh (show bs.length + (szB vt).length + (szB vl).length + x.v.length ≤ 100000000 by have := A6.o; have := Bn.o; omega)
        have A1 := Hh (show IntKind.u64.wrap (vl : Int) = (vl : Int) by rw [IntKind.wrap_u64]; omega)
        have Bg := Hh Aq
        have A7 := Hh (show vl < 18446744073709551616 by omega)
        have Bs := Hh (show ∀ (v : World) (oa : Option Addr) (oc : Nat), v.ownsRow w.heap.size 5 1 (.slice oa (bs.length + (szB vt).length + (szB vl).length + x.v.length) oc) (bs.length + (szB vt).length + (szB vl).length + x.v.length) (bcells bs ++ bcells (szB vt) ++ bcells (szB vl) ++ bcells x.v) → Below w.heap.size w v → BigW w.heap.size w (bs ++ recB x.r) (.slice oa (bs.length + (szB vt).length + (szB vl).length + x.v.length) oc) v from fun v oa oc h1 h2 => by
          have e : bs ++ recB x.r = bs ++ szB vt ++ szB vl ++ x.v := by
           unfold recB
           rw [show x.r.t = vt from Bq.o.symm, show x.r.v = x.v from rfl, ← Bn.o]
           simp [List.append_assoc]
          have el : bs.length + (szB vt).length + (szB vl).length + x.v.length = (bs ++ recB x.r).length := by
           rw [e]; simp [List.length_append, Nat.add_assoc]
          rw [← bcells_cat, ← bcells_cat, ← bcells_cat, ← e, el] at h1
          rw [el]
          exact ⟨⟨oa, oc, rfl, h1⟩, h2⟩)
        clear l1 l2 Aq
        go_upto_region 11 with (fail)
        have hS0 : Has Bi.drew G 139 CR.toArray ∧ Below w.heap.size w Bi.drew := ⟨A3.o.1, below_drew A3.o.2⟩
        refine wp_region_noPanic ?_
        refine wp_region_held_drew (S := (fun v => Has v G 139 CR.toArray ∧ Below w.heap.size w v)) (by kernel_rfl) hS0 (fun hH0 => ?_)
        apply tl 0 rfl ?hv hH0 ?_
        case hv => intro w' hS; go_simp; try rfl
        simp only [qc]
        apply tl 1 rfl ?hv hH0 ?_
        case hv => intro w' hS; go_simp; try rfl
        simp only [qc]
        apply tl 2 rfl ?hv hH0 ?_
        case hv => intro w' hS; obtain ⟨z0, z1⟩ := Ae.o w' hS.1; have z2 := A1.o; go_simp; try rfl
        simp only [qc]
        apply tl 5 rfl ?hv hH0 ?_
        case hv => intro w' hS; go_simp; try rfl
        simp only [qc]
        apply tl 6 rfl ?hv hH0 ?_
        case hv => intro w' hS; obtain ⟨z0, z1⟩ := Ae.o w' hS.1; have z2 := A1.o; go_simp; try rfl
        simp only [qc]
        apply tl 7 rfl ?hv hH0 ?_
        case hv => intro w' hS; obtain ⟨z0, z1⟩ := Ae.o w' hS.1; have z2 := A1.o; go_simp; try rfl
        simp only [qc]
        apply tl 8 rfl ?hv hH0 ?_
        case hv => intro w' hS; obtain ⟨z0, z1⟩ := Ae.o w' hS.1; have z2 := A1.o; go_simp; try rfl
        simp only [qc]
        apply tl 11 rfl ?hv hH0 ?_
        case hv => intro w' hS; go_simp; try rfl
        simp only [qc]
        apply tl 12 rfl ?hv hH0 ?_
        case hv => intro w' hS; obtain ⟨z0, z1⟩ := Ae.o w' hS.1; have z2 := A1.o; go_simp; try rfl
        simp only [qc]
        refine rdy [3] (ar1 rfl fun KK hKK => ?_)
        go_simp
        refine (size_is _ vt Bg.o).mono ?_
        rintro _ x3 ⟨v3, rfl, Av⟩
        obtain ⟨⟨ax3, cx3, rfl, ho3⟩, hb3⟩ := Av
        have Af : Has x3 G 139 CR.toArray ∧ Below w.heap.size w x3 := ⟨hS0.1.below hb3 hS0.1.lt, hS0.2.trans (hb3.mono hS0.2.size)⟩
        replace hb3 := below_undrew hb3
        have Be := Hh (own_kept Bc.o (Kept.of_below (S := fun _ => False) hb3) (fun _ _ e => e))
        have Bw := Hh (own_bytes ho3 rfl (szB_lt _) (Nat.le_refl _))
        clear ho3 hb3
        refine hKK _ _ Af fun hH1 => ?_
        clear hKK KK
        try simp only [qc]
        refine rdy [4] (ar1 rfl fun KK hKK => ?_)
        refine step_append_bytes rfl (.tmp 34) (.tmp 37) rfl w.heap.size _ (bs.length) (bcells bs) rfl Be.o _ _ (szB vt) rfl Bw.o A8.o Af.2.size ?_
        intro oax4 ocx4 x4 Aa Ad
        have Ai : Has x4 G 139 CR.toArray ∧ Below w.heap.size w x4 := ⟨Af.1.grown Ad (fun e => own_has_ne Be.o Af.1 (by decide) G e.symm rfl), Af.2.grown Ad Af.2.size (own_blk Be.o)⟩
        have Bv := Hh Aa
        clear Aa Ad
        refine hKK _ _ Ai fun hH2 => ?_
        clear hKK KK
        try simp only [qc]
        refine rdy [9] (ar1 rfl fun KK hKK => ?_)
        go_simp
        refine (size_is _ vl A7.o).mono ?_
        rintro _ x9 ⟨v3, rfl, Av⟩
        obtain ⟨⟨ax9, cx9, rfl, ho3⟩, hb3⟩ := Av
        have Ag : Has x9 G 139 CR.toArray ∧ Below w.heap.size w x9 := ⟨Ai.1.below hb3 Ai.1.lt, Ai.2.trans (hb3.mono Ai.2.size)⟩
        have Ax := Hh (own_kept Bv.o (Kept.of_below (S := fun _ => False) hb3) (fun _ _ e => e))
        have Bx := Hh (own_bytes ho3 rfl (szB_lt _) (Nat.le_refl _))
        clear ho3 hb3
        refine hKK _ _ Ag fun hH3 => ?_
        clear hKK KK
        try simp only [qc]
        refine rdy [10] (ar1 rfl fun KK hKK => ?_)
        refine step_append_bytes rfl (.tmp 38) (.tmp 43) rfl w.heap.size _ (bs.length + (szB vt).length) (bcells bs ++ bcells (szB vt)) rfl Ax.o _ _ (szB vl) rfl Bx.o A9.o Ag.2.size ?_
        intro oax10 ocx10 x10 Aa Ad
        have Ab : Has x10 G 139 CR.toArray ∧ Below w.heap.size w x10 := ⟨Ag.1.grown Ad (fun e => own_has_ne Ax.o Ag.1 (by decide) G e.symm rfl), Ag.2.grown Ad Ag.2.size (own_blk Ax.o)⟩
        have Ar := Hh Aa
        clear Aa Ad
        refine hKK _ _ Ab fun hH4 => ?_
        clear hKK KK
        try simp only [qc]
        refine rdy [13] (ar1 rfl fun KK hKK => ?_)
        refine step_append_bytes rfl (.tmp 44) (.tmp 46) rfl w.heap.size _ (bs.length + (szB vt).length + (szB vl).length) (bcells bs ++ bcells (szB vt) ++ bcells (szB vl)) rfl Ar.o _ _ x.v rfl (Br.o x10 Ab.2) Ba.o Ab.2.size ?_
        intro oax13 ocx13 x13 Aa Ad
        have Ao : Has x13 G 139 CR.toArray ∧ Below w.heap.size w x13 := ⟨Ab.1.grown Ad (fun e => own_has_ne Ar.o Ab.1 (by decide) G e.symm rfl), Ab.2.grown Ad Ab.2.size (own_blk Ar.o)⟩
        have Bd := Hh Aa
        clear Aa Ad
        refine hKK _ _ Ao fun hH5 => ?_
        clear hKK KK
        try simp only [qc]
        apply tl 14 rfl ?hv hH5 ?_
        case hv => intro w' hS; go_simp; try rfl
        simp only [qc]
        refine wpAnyH_done (by kernel_rfl) ?_ _
        refine NoPanic.normal ?_
        have Bt := Hh (Bs.o x13 oax13 ocx13 Bd.o Ao.2)
        have Bu := Hh (show k + 1 ≤ n by have := HK.o; omega)
        clear hS0 Af Ai Ag Ab Ao
        go_wp2_with fail
        go_roundw
        case rel => exact ⟨k + 1, bs ++ recB x.r, by go_num, Bu.o, HN.o, Bt.o⟩
        case measure => simp [intOf]; omega
   · obtain rfl : k = n := by omega
     have hlt' : ¬ (k : Int) < (k : Int) := by omega
     go_wp2
     go_ret2
     rw [HR.o, Bh.o]
     exact ⟨_, rfl, Ay.o⟩
/- The walk of tlv's Read. -/

def rdW (c : Nat) : Nat := if c = 253 then 2 else if c = 254 then 4 else if c = 255 then 8 else 0
def rdL (n : Nat) : Nat := if n = 2 then 253 else if n = 4 then 65536 else 4294967296
def rdB (b : List Nat) : Except Nat (Nat × Nat) :=
 match b with
 | [] => .error 20
 | c :: r => if rdW c = 0 then .ok (c, 1) else if r.length < rdW c then .error 20 else if numB (r.take (rdW c)) < rdL (rdW c) then .error 21 else .ok (numB (r.take (rdW c)), rdW c + 1)
theorem at_byte (b o n c k : Nat) (hk : k < n) (w : World) : (Instr.indexAt 48 (.slice (some ⟨b, o, none⟩) n c) (.int .i64 (k : Int))).run Tryz.prog w = .ok (.pointer (some ⟨b, o + k, none⟩)) w := by
 have hu : Tryz.prog.underlying 48 = some (.slice (Tryz.prog.elem 48)) := by kernel_rfl
 have he : Tryz.prog.elem 48 = 5 := by kernel_rfl
 have hz : ∀ w, (sizeOf 5).run Tryz.prog w = .ok 1 w := fun w => by kernel_rfl
 rw [run_indexAt_slice w 48 ⟨b, o, none⟩ n c .i64 (k : Int) hu, if_pos ⟨by omega, by omega⟩, he, hz]
 simp only [Result.andThen, Int.toNat_natCast, Nat.mul_one, Addr.add_mid]
/- The plain law of decoding: records, back and forth. -/

def lastT (acc : List Rec) : Nat := (acc[acc.length - 1]?.map (·.t)).getD 0
def decS (acc : List Rec) (b : List Nat) : Except Nat (List Rec × List Nat) :=
 match rdB b with
 | .error e => .error e
 | .ok p => if 0 < acc.length ∧ p.1 ≤ lastT acc then .error 22 else
  match rdB (b.drop p.2) with
  | .error e => .error e
  | .ok q => if 65536 < q.1 then .error 3 else if ((b.drop p.2).drop q.2).length < q.1 then .error 20 else if acc.length = 256 then .error 4
   else .ok (acc ++ [⟨p.1, ((b.drop p.2).drop q.2).take q.1⟩], ((b.drop p.2).drop q.2).drop q.1)
def decF : Nat → List Rec → List Nat → Except Nat (List Rec)
 | 0, _, _ => .error 0
 | f + 1, acc, b => if b = [] then .ok acc else match decS acc b with
  | .error e => .error e
  | .ok p => decF f p.1 p.2
def tdec (b : List Nat) : Except Nat (List Rec) := decF (b.length + 1) [] b
/- The walk of tlv's Decode. -/

theorem decF_stop {f : Nat} {acc : List Rec} {b : List Nat} (h : b = []) : decF (f + 1) acc b = .ok acc := by
 unfold decF
 rw [if_pos h]
end Go.Proofs.YtknfbccbdiidjaaGreatDoor
