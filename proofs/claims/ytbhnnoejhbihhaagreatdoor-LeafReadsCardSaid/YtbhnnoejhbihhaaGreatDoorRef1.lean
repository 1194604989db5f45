/- Bytes appended to a row of one's own, whatever bytes; the reference's turn, Eight and Tables.Sum lean on it. -/
import Derived.Test.YtbhnnoejhbihhaaGreatDoorRef0
import Derived.Test.YtbhnnoejhbihhaaGreatDoorSha7
namespace Go.Proofs.YtbhnnoejhbihhaaGreatDoor
set_option linter.unusedVariables false
set_option linter.unusedSimpArgs false
open Go.ChangeShapes Go.WideShapes Go.ChangeAt Go.RowKit Go.Maps

theorem run_append_zero {P : Program} {w : World} (base : Nat) (t ty e : TypeId) (i : TypeInfo) (size : Nat) (ht : P.underlying t = some (.slice e)) (hi : P.info? e = some i)
    (v : Value) (n : Nat) (xs : List Value) (hown : w.ownsRow base e size v n xs) (sa : Option Addr) (sc : Nat) :
    (Builtin.append_ #[t, t] ty #[v, .slice sa 0 sc]).run P w = .ok v w := by
  rcases hown.2 with ⟨rfl, rfl⟩ | ⟨g, cap, cur, rfl, _, _, hnc, _⟩
  · cases sa <;> simp [Builtin.append_, run_underlying ht, sizeOf, typeInfo, hi, Builtin.lenOf, Builtin.firstCells, loadCells, loadCellsFrom, Result.andThen]
  · cases sa <;> simp [Builtin.append_, run_underlying ht, sizeOf, typeInfo, hi, Builtin.lenOf, Builtin.firstCells, hnc, storeCells, loadCells, loadCellsFrom, Result.andThen]
theorem wpList_append_zero {P : Program} {w : World} {ops : Array Oper} {rest : List Oper} {o : Oper} {a : Act} {Q : Exit → Act → World → Prop} (hgd : o.guard = none) (s x : Operand) (t : TypeId)
    (ho : o.op = .call { callee := .builtin .append, args := #[s, x], argTypes := #[t, t] })
    (base : Nat) (e : TypeId) (i : TypeInfo) (size : Nat) (ht : P.underlying t = some (.slice e)) (hi : P.info? e = some i)
    (v : Value) (n : Nat) (xs : List Value) (hs : a.eval s = v) (hown : w.ownsRow base e size v n xs) (sa : Option Addr) (sc : Nat) (hx : a.eval x = .slice sa 0 sc)
    (h : wpList P ops Q rest (a.put o.dst v) w) : wpList P ops Q (o :: rest) a w := by
  refine wpList_plain hgd fun K hK => ?_
  have hrun := run_append_zero (P := P) (w := w) base t o.type e i size ht hi v n xs hown sa sc
  unfold Oper.wp
  simp [execOp, ho, resolve, invoke, builtin, hs, hx, hrun, Result.andThen]
  exact hK _ _ h
theorem info_byte : (Tryz.prog.info? 5).map (fun i => (i.zero, i.size, i.bytes)) = some (some (.int .u8 0), 1, 1) := by kernel_rfl
theorem own_form {w : World} {base : Nat} {e : TypeId} {size n : Nat} {v : Value} {xs : List Value} (h : w.ownsRow base e size v n xs) : ∃ a c, v = .slice a n c := by
  rcases h.2 with ⟨rfl, rfl⟩ | ⟨g, cap, cur, rfl, _⟩
  · exact ⟨none, 0, rfl⟩
  · exact ⟨_, _, rfl⟩
/-- append of bytes, of whatever length, to a row of one's own. -/
theorem wpList_append_bytes {w : World} {ops : Array Oper} {rest : List Oper} {o : Oper} {a : Act} {Q : Exit → Act → World → Prop} (hgd : o.guard = none) (s x : Operand)
    (ho : o.op = .call { callee := .builtin .append, args := #[s, x], argTypes := #[22, 22] })
    (base : Nat) (v : Value) (n : Nat) (xs : List Value) (hs : a.eval s = v) (hown : w.ownsRow base 5 1 v n xs)
    (g : Nat) (vx : Value) (bs : List Nat) (hx : a.eval x = vx) (hb : Bytes w g vx bs) (hlen : n + bs.length ≤ 100000000) (hbase : base ≤ w.heap.size)
    (h : ∀ oa oc w', w'.ownsRow base 5 1 (.slice oa (n + bs.length) oc) (n + bs.length) (xs ++ bcells bs) → w.grownBy w' v.ownBlock → wpList Tryz.prog ops Q rest (a.put o.dst (.slice oa (n + bs.length) oc)) w') : wpList Tryz.prog ops Q (o :: rest) a w := by
  obtain ⟨ii, his, his0, his1, his2⟩ := info_parts info_byte
  obtain ⟨sa, sc, rfl, h1, h2, h3⟩ := hb
  rcases Nat.eq_zero_or_pos bs.length with h0 | h0
  · have e : bs = [] := List.eq_nil_of_length_eq_zero h0
    subst e
    obtain ⟨oa, oc, rfl⟩ := own_form hown
    refine wpList_append_zero hgd s x 22 ho base 5 ii 1 Tryz.underlying22 his _ n xs hs hown sa sc hx ?_
    refine h oa oc w ?_ (World.grownBy.refl w _)
    simpa [bcells] using hown
  · obtain ⟨bg, bo, rfl, _, hc⟩ := h3 h0
    refine wpList_append_own w hgd s x 22 ho base 5 ii (.int .u8 0) 1 1 Tryz.underlying22 his his0 his1 his2 rfl (by decide) v n xs hs hown ⟨bg, bo, none⟩ bs.length sc (bcells bs) hx (by rw [bcells_length, Nat.mul_one]) (fun j u hu => ?_) (bcells_oneC bs) (by unfold maxLen; omega) (by omega) hbase ?_
    · have hj := (List.getElem?_eq_some_iff.1 hu).1
      rw [bcells_length] at hj
      rw [Addr.add_mid, hc j hj]
      rw [bcells_get bs j hj] at hu
      exact hu
    · intro v' w' p1 p2 _
      obtain ⟨oa, oc, rfl⟩ := own_form p1
      exact h oa oc w' p1 p2
/-- append of bytes, of whatever length, at a step of a region that draws. -/
theorem step_append_bytes {w : World} {ops : Array Oper} {o : Oper} {a : Act} {K : Act → World → Prop} {Q : Exit → Act → World → Prop} {E : Prop} (hgd : o.guard = none) (s x : Operand)
    (ho : o.op = .call { callee := .builtin .append, args := #[s, x], argTypes := #[22, 22] })
    (base : Nat) (v : Value) (n : Nat) (xs : List Value) (hs : a.eval s = v) (hown : w.ownsRow base 5 1 v n xs)
    (g : Nat) (vx : Value) (bs : List Nat) (hx : a.eval x = vx) (hb : Bytes w g vx bs) (hlen : n + bs.length ≤ 100000000) (hbase : base ≤ w.heap.size)
    (h : ∀ oa oc w', w'.ownsRow base 5 1 (.slice oa (n + bs.length) oc) (n + bs.length) (xs ++ bcells bs) → w.grownBy w' v.ownBlock → K (a.put o.dst (.slice oa (n + bs.length) oc)) w') :
    if Region.wanted o (yielded ops a.tmps) = true then Oper.wp Tryz.prog o a w K Q else E := by
  have hw : Region.wanted o (yielded ops a.tmps) = true := by simp [Region.wanted, hgd]
  rw [if_pos hw]
  obtain ⟨ii, his, his0, his1, his2⟩ := info_parts info_byte
  obtain ⟨sa, sc, rfl, h1, h2, h3⟩ := hb
  rcases Nat.eq_zero_or_pos bs.length with h0 | h0
  · have e : bs = [] := List.eq_nil_of_length_eq_zero h0
    subst e
    obtain ⟨oa, oc, rfl⟩ := own_form hown
    have hrun := run_append_zero (P := Tryz.prog) (w := w) base 22 o.type 5 ii 1 Tryz.underlying22 his _ n xs hown sa sc
    have h' := h oa oc w (by simpa [bcells] using hown) (World.grownBy.refl w _)
    unfold Oper.wp
    simp [execOp, ho, resolve, invoke, builtin, hs, hx, hrun, Result.andThen]
    exact h'
  · obtain ⟨bg, bo, rfl, _, hc⟩ := h3 h0
    refine wp_append_own w s x 22 ho base 5 ii (.int .u8 0) 1 1 Tryz.underlying22 his his0 his1 his2 rfl (by decide) v n xs hs hown ⟨bg, bo, none⟩ bs.length sc (bcells bs) hx (by rw [bcells_length, Nat.mul_one]) (fun j u hu => ?_) (bcells_oneC bs) (by unfold maxLen; omega) (by omega) hbase ?_
    · have hj := (List.getElem?_eq_some_iff.1 hu).1
      rw [bcells_length] at hj
      rw [Addr.add_mid, hc j hj]
      rw [bcells_get bs j hj] at hu
      exact hu
    · intro v' w' p1 p2 _
      obtain ⟨oa, oc, rfl⟩ := own_form p1
      exact h oa oc w' p1 p2
theorem own_bytes {w : World} {base n g : Nat} {v : Value} {bs : List Nat} (h : w.ownsRow base 5 1 v n (bcells bs)) (hn : bs.length = n) (hb : ∀ x ∈ bs, x < 256) (hg : w.heap.size ≤ g) : Bytes w g v bs := by
  rcases h.2 with ⟨rfl, h0⟩ | ⟨b, cap, cur, rfl, hB, hh, h1, h2, h3, h4⟩
  · exact ⟨none, 0, by rw [hn, h0], by omega, hb, fun h => absurd h (by omega)⟩
  · refine ⟨_, cap, by rw [hn], by omega, hb, fun h0 => ⟨b, 0, rfl, by have := (Array.getElem?_eq_some_iff.1 hh).1; omega, fun i hi => ?_⟩⟩
    have hg2 : Has w b 5 cur := hh
    rw [Nat.zero_add]
    refine hg2.cell_is ?_
    rw [← Array.getElem?_toList]
    have e2 : cur.toList[i]? = (cur.toList.take (n * 1))[i]? := by rw [List.getElem?_take_of_lt (by omega)]
    rw [e2, h4]
    exact bcells_get bs i hi
theorem turn_sub : ∀ n : Fin 33, IntKind.u64.wrap (32 - (n.val : Int)) = ((32 - n.val : Nat) : Int) := of_decide_eq_true (by kernel_rfl)
set_option maxRecDepth 100000 in
theorem turn_is (w : World) (x : Wd) (n : Nat) (hn : 0 < n) (hn2 : n < 32) (k : Int) (hk : k = (n : Int)) :
    Calls Tryz.prog 134 #[.int .u32 (x.toNat : Int), .int .u64 k] w fun e w' => e = .returned (.int .u32 ((rotr n x).toNat : Int)) ∧ w' = w := by
  subst hk
  have ht := turn_sub ⟨n, by omega⟩
  have ht2 : (32 - (n : Int)) % 18446744073709551616 = ((32 - n : Nat) : Int) := by omega
  go_enter Tryz.func134, Tryz.ntmps134
  go_wp2
  go_ret
  refine ⟨ret_int ?_, rfl⟩
  unfold rotr
  rw [shl_wd, shr_wd, or_wd, BitVec.or_comm]
theorem eightR_step (n i : Nat) (h : i < 8) : eightR n (i + 1) = n / 256 ^ i % 256 :: eightR n i := rfl
theorem div_step (n i : Nat) : n / 256 ^ i / 256 = n / 256 ^ (i + 1) := by rw [Nat.div_div_eq_div_mul, Nat.pow_succ]
theorem u8_nat (n : Nat) (h : n < 256) : IntKind.u8.wrap (n : Int) = (n : Int) := by rw [IntKind.wrap_u8]; omega
theorem byte_facts {x d q : Nat} (hx : x < 18446744073709551616) (hd : d = x % 256) (hq : q = x / 256) :
    Int.tmod (x : Int) 256 = (d : Int) ∧ (x : Int) % 256 = (d : Int) ∧ Int.tdiv (x : Int) 256 = (q : Int) ∧ (x : Int) / 256 = (q : Int) ∧ IntKind.u64.wrap (d : Int) = (d : Int) ∧ (d : Int) % 18446744073709551616 = (d : Int) ∧ IntKind.u64.wrap (q : Int) = (q : Int) ∧ (q : Int) % 18446744073709551616 = (q : Int) ∧ IntKind.u8.wrap (d : Int) = (d : Int) ∧ (d : Int) % 256 = (d : Int) := by
  refine ⟨by rw [Int.tmod_eq_emod_of_nonneg (Int.natCast_nonneg _)]; omega, by omega, by rw [Int.tdiv_eq_ediv_of_nonneg (Int.natCast_nonneg _)]; omega, by omega, by rw [IntKind.wrap_u64]; omega, by omega, by rw [IntKind.wrap_u64]; omega, by omega, by rw [IntKind.wrap_u8]; omega, by omega⟩
set_option maxRecDepth 100000 in
set_option maxHeartbeats 1000000 in
theorem eight_is (w : World) (x : Nat) (hx : x < 18446744073709551616) :
    Calls Tryz.prog 45 #[.int .u64 (x : Int)] w fun e w' => (∃ a c, e = .returned (.slice a 8 c) ∧ Bytes w' w'.heap.size (.slice a 8 c) (eight x)) ∧ Below w.heap.size w w' := by
  obtain ⟨e8, he8⟩ : ∃ n : Nat, n = 8 := ⟨8, rfl⟩
  have E8 := Lib.hid he8
  clear he8
  go_enter Tryz.func45, Tryz.ntmps45
  go_wp2_with fail
  go_loopw [0, 3, 4] (fun xv ov iv wr => ∃ (i y : Nat) (oa : Option Addr) (oc : Nat), iv = .int .i64 (i : Int) ∧ xv = .int .u64 (y : Int) ∧ ov = .slice oa i oc ∧ i ≤ 8 ∧ y = x / 256 ^ i ∧ Bytes wr wr.heap.size (.slice oa i oc) (eightR x i) ∧ Below w.heap.size w wr) (fun _ _ iv _ => 8 - (intOf iv).toNat)
  case atStart => exact ⟨0, x, _, _, rfl, rfl, rfl, Nat.zero_le _, by simp, ⟨_, _, rfl, Nat.le_refl _, (fun z hz => by cases hz), fun h => absurd h (by simp [eightR])⟩, (Below.refl _ _).alloc (Nat.le_refl _) _⟩
  case round =>
    obtain ⟨i, y, oa, oc, rfl, rfl, rfl, hi, hy, hb, hbel⟩ := hrel
    have HB := Lib.hid hb
    have HBEL := Lib.hid hbel
    have HY := Lib.hid hy
    clear hb hbel
    by_cases hlt : i < 8
    · have hy64 : y < 18446744073709551616 := by rw [hy]; exact Nat.lt_of_le_of_lt (Nat.div_le_self _ _) hx
      obtain ⟨d, hd⟩ : ∃ d, d = y % 256 := ⟨_, rfl⟩
      obtain ⟨q, hq⟩ : ∃ q, q = y / 256 := ⟨_, rfl⟩
      have HD := Lib.hid (show d < 256 by omega)
      have HQ := Lib.hid (show q = x / 256 ^ (i + 1) by rw [hq, hy, div_step])
      have HE := Lib.hid (show eightR x (i + 1) = d :: eightR x i by rw [hd, hy]; rfl)
      have hown : (wr.alloc (.cells #[.int .u8 (d : Int)] 5)).ownsRow w.heap.size 5 1 (.slice (some ⟨wr.heap.size, 0, none⟩) 1 1) 1 [.int .u8 (d : Int)] :=
        ⟨rfl, .inr ⟨wr.heap.size, 1, #[.int .u8 (d : Int)], rfl, HBEL.out.size, heap_alloc_new wr _, Nat.le_refl _, by decide, rfl, rfl⟩⟩
      have HOWN := Lib.hid hown
      have hal : Below wr.heap.size wr (wr.alloc (.cells #[.int .u8 (d : Int)] 5)) := (Below.refl _ _).alloc (Nat.le_refl _) _
      have HSRC := Lib.hid (HB.out.alive hal hal.size)
      have HBS := Lib.hid (show ∀ z, w.heap.size ≤ (wr.alloc (.cells z 5)).heap.size from fun z => by have := HBEL.out.size; simp; omega)
      have HLN := Lib.hid (show 1 + (eightR x i).length ≤ 100000000 by rw [eightR_len]; omega)
      have HLI := Lib.hid (eightR_len x i)
      have hlt' : (i : Int) < 8 := by omega
      have HK2 := Lib.hid (And.intro (show i + 1 ≤ 8 from hlt) (show 8 - (i + 1) < 8 - i from Nat.sub_lt_sub_left hlt (Nat.lt_succ_self i)))
      obtain ⟨-, g2, -, g4, -, -, g7, -, -, -⟩ := byte_facts hy64 hd hq
      have HG7 := Lib.hid g7
      clear g7
      have hib : i < 4611686018427387904 := Nat.lt_trans hlt (by decide)
      have hiw := wrap64_succ i hib
      have HIW := Lib.hid hiw
      clear hy64 hd hq hown hy hal hib
      go_wp2_with (at_builtin; refine wpList_append_bytes rfl (.tmp 13) (.tmp 14) rfl w.heap.size _ 1 _ rfl HOWN.out _ _ (eightR x i) rfl HSRC.out HLN.out (HBS.out _) ?_; intro oa6 oc6 w6 hown6 hgr6)
      have HBE6 := Lib.hid ((HBEL.out.alloc HBEL.out.size _).grown hgr6 (HBS.out _) (own_blk HOWN.out))
      have HOWN6 := Lib.hid hown6
      clear hown6 hgr6
      go_roundw
      case rel =>
        have e : [Value.int .u8 (d : Int)] ++ bcells (eightR x i) = bcells (eightR x (i + 1)) := by rw [HE.out]; rfl
        have h6 := HOWN6.out
        rw [e, HLI.out] at h6
        have hl : 1 + i = i + 1 := Nat.add_comm 1 i
        rw [hl] at h6
        exact ⟨i + 1, q, oa6, oc6, by first | exact congrArg (Value.int .i64) HIW.out | rfl, by first | exact congrArg (Value.int .u64) HG7.out | rfl, by rw [HLI.out, hl], HK2.out.1, HQ.out, own_bytes h6 (eightR_len x (i + 1)) (eightR_lt x (i + 1)) (Nat.le_refl _), HBE6.out⟩
      case measure =>
        first | exact HK2.out.2 | (show 8 - (intOf (Value.int .i64 (wrap64 ((i : Int) + 1)))).toNat < _; rw [HIW.out]; exact HK2.out.2)
    · obtain rfl : i = 8 := by omega
      have hb := HB.out
      rw [eightR_full] at hb
      have HB8 := Lib.hid hb
      clear hb
      go_wp2
      go_ret
      exact ⟨⟨_, _, rfl, HB8.out⟩, HBEL.out⟩
end Go.Proofs.YtbhnnoejhbihhaaGreatDoor
