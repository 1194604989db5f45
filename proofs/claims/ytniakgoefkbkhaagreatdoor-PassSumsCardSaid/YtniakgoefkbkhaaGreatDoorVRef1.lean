/- The reference's digest, its primes and roots: the plain laws. -/
import Derived.Test.YtniakgoefkbkhaaGreatDoorWs
import Derived.Test.YtniakgoefkbkhaaGreatDoorVSha7
namespace Go.Proofs.YtniakgoefkbkhaaGreatDoor
set_option linter.unusedVariables false
set_option linter.unusedSimpArgs false

structure RootIs (k N x : Nat) : Prop where
 low : x ^ k ≤ N
 high : N < (x + 1) ^ k
theorem RootIs.one {k N x y : Nat} (hx : RootIs k N x) (hy : RootIs k N y) : x = y := by
 have key : ∀ {a b}, RootIs k N a → RootIs k N b → a ≤ b := fun {a b} ha hb => by
  refine Nat.le_of_not_lt fun hc => ?_
  have h1 : (b + 1) ^ k ≤ a ^ k := Nat.pow_le_pow_left hc k
  have := ha.low
  have := hb.high
  omega
 exact Nat.le_antisymm (key hx hy) (key hy hx)
def ks64 : List Nat := [1116352408, 1899447441, 3049323471, 3921009573, 961987163, 1508970993, 2453635748, 2870763221, 3624381080, 310598401, 607225278, 1426881987, 1925078388, 2162078206, 2614888103, 3248222580, 3835390401, 4022224774, 264347078, 604807628, 770255983, 1249150122, 1555081692, 1996064986, 2554220882, 2821834349, 2952996808, 3210313671, 3336571891, 3584528711, 113926993, 338241895, 666307205, 773529912, 1294757372, 1396182291, 1695183700, 1986661051, 2177026350, 2456956037, 2730485921, 2820302411, 3259730800, 3345764771, 3516065817, 3600352804, 4094571909, 275423344, 430227734, 506948616, 659060556, 883997877, 958139571, 1322822218, 1537002063, 1747873779, 1955562222, 2024104815, 2227730452, 2361852424, 2428436474, 2756734187, 3204031479, 3329325298]
def ss8 : List Nat := [1779033703, 3144134277, 1013904242, 2773480762, 1359893119, 2600822924, 528734635, 1541459225]
structure HalfAt (k N lo hi : Nat) : Prop where
 low : lo ^ k ≤ N
 high : N < hi ^ k
 lt : lo < hi
 top : hi ≤ 137438953472
theorem HalfAt.done {k N lo hi : Nat} (h : HalfAt k N lo hi) (hd : ¬ 1 < hi - lo) : RootIs k N lo := by
 have := h.lt
 have e : hi = lo + 1 := by omega
 exact ⟨h.low, by rw [← e]; exact h.high⟩
theorem own_blk {w : World} {base : Nat} {t : TypeId} {z : Nat} {v : Value} {n : Nat} {cs : List Value} (h : w.ownsRow base t z v n cs) : ∀ k, v.ownBlock = some k → base ≤ k := fun k hk => by
 rcases h.2 with ⟨e2, _⟩ | ⟨gs, cap, cur, e2, hbase, _⟩
 · rw [e2] at hk; simp [Value.ownBlock] at hk
 · rw [e2] at hk
   simp [Value.ownBlock] at hk
   omega
end Go.Proofs.YtniakgoefkbkhaaGreatDoor
/- Bytes appended to a row of one's own, whatever bytes; the reference's turn, Eight and Tables.Sum lean on it. -/
namespace Go.Proofs.YtniakgoefkbkhaaGreatDoor
set_option linter.unusedVariables false
set_option linter.unusedSimpArgs false
open Go.ChangeShapes Go.WideShapes Go.ChangeAt Go.RowKit Go.Maps

theorem run_append_zero {P : Program} {w : World} (base : Nat) (t ty e : TypeId) (i : TypeInfo) (size : Nat) (ht : P.underlying t = some (.slice e)) (hi : P.info? e = some i)
   (v : Value) (n : Nat) (xs : List Value) (hown : w.ownsRow base e size v n xs) (sa : Option Addr) (sc : Nat) :
   (Builtin.append_ #[t, t] ty #[v, .slice sa 0 sc]).run P w = .ok v w := by
 rcases hown.2 with ⟨rfl, rfl⟩ | ⟨g, cap, cur, rfl, _, _, hnc, _⟩
 · cases sa <;> simp [Builtin.append_, run_underlying ht, sizeOf, typeInfo, hi, Builtin.lenOf, Builtin.firstCells, loadCells, loadCellsFrom, Result.andThen]
 · cases sa <;> simp [Builtin.append_, run_underlying ht, sizeOf, typeInfo, hi, Builtin.lenOf, Builtin.firstCells, hnc, storeCells, loadCells, loadCellsFrom, Result.andThen]
theorem wpList_append_zero {P : Program} {w : World} {ops : Array Oper} {rest : List Oper} {o : Oper} {a : Act} {Q : Exit → Act → World → Prop} (hgd : o.guard = none) (s x : Operand) (t : TypeId)
  (ho : o.op = .call { callee := .builtin .append, args := #[s, x], argTypes := #[t, t] })
  (base : Nat) (e : TypeId) (i : TypeInfo) (size : Nat) (ht : P.underlying t = some (.slice e)) (hi : P.info? e = some i)
  (v : Value) (n : Nat) (xs : List Value) (hs : a.eval s = v) (hown : w.ownsRow base e size v n xs) (sa : Option Addr) (sc : Nat) (hx : a.eval x = .slice sa 0 sc)
  (h : wpList P ops Q rest (a.put o.dst v) w) : wpList P ops Q (o :: rest) a w := by
 refine wpList_plain hgd fun K hK => ?_
 have hrun := run_append_zero (P := P) (w := w) base t o.type e i size ht hi v n xs hown sa sc
 unfold Oper.wp
 simp [execOp, ho, resolve, invoke, builtin, hs, hx, hrun, Result.andThen]
 exact hK _ _ h
theorem info_byte : (Tryz.prog.info? 5).map (fun i => (i.zero, i.size, i.bytes)) = some (some (.int .u8 0), 1, 1) := by kernel_rfl
theorem own_form {w : World} {base : Nat} {e : TypeId} {size n : Nat} {v : Value} {xs : List Value} (h : w.ownsRow base e size v n xs) : ∃ a c, v = .slice a n c := by
 rcases h.2 with ⟨rfl, rfl⟩ | ⟨g, cap, cur, rfl, _⟩
 · exact ⟨none, 0, rfl⟩
 · exact ⟨_, _, rfl⟩
theorem wpList_append_bytes {w : World} {ops : Array Oper} {rest : List Oper} {o : Oper} {a : Act} {Q : Exit → Act → World → Prop} (hgd : o.guard = none) (s x : Operand)
   (ho : o.op = .call { callee := .builtin .append, args := #[s, x], argTypes := #[54, 54] })
   (base : Nat) (v : Value) (n : Nat) (xs : List Value) (hs : a.eval s = v) (hown : w.ownsRow base 5 1 v n xs)
   (g : Nat) (vx : Value) (bs : List Nat) (hx : a.eval x = vx) (hb : Bytes w g vx bs) (hlen : n + bs.length ≤ 100000000) (hbase : base ≤ w.heap.size)
   (h : ∀ oa oc w', w'.ownsRow base 5 1 (.slice oa (n + bs.length) oc) (n + bs.length) (xs ++ bcells bs) → w.grownBy w' v.ownBlock → wpList Tryz.prog ops Q rest (a.put o.dst (.slice oa (n + bs.length) oc)) w') : wpList Tryz.prog ops Q (o :: rest) a w := by
 obtain ⟨ii, his, his0, his1, his2⟩ := info_parts info_byte
 obtain ⟨sa, sc, rfl, h1, h2, h3⟩ := hb
 rcases Nat.eq_zero_or_pos bs.length with h0 | h0
 · have e : bs = [] := List.eq_nil_of_length_eq_zero h0
   subst e
   obtain ⟨oa, oc, rfl⟩ := own_form hown
   refine wpList_append_zero hgd s x 54 ho base 5 ii 1 Tryz.underlying54 his _ n xs hs hown sa sc hx ?_
   refine h oa oc w ?_ (World.grownBy.refl w _)
   simpa [bcells] using hown
 · obtain ⟨bg, bo, rfl, _, hc⟩ := h3 h0
   refine wpList_append_own w hgd s x 54 ho base 5 ii (.int .u8 0) 1 1 Tryz.underlying54 his his0 his1 his2 rfl (by decide) v n xs hs hown ⟨bg, bo, none⟩ bs.length sc (bcells bs) hx (by rw [bcells_length, Nat.mul_one]) (fun j u hu => ?_) (bcells_oneC bs) (by unfold maxLen; omega) (by omega) hbase ?_
   · have hj := (List.getElem?_eq_some_iff.1 hu).1
     rw [bcells_length] at hj
     rw [Addr.add_mid, hc j hj]
     rw [bcells_get bs j hj] at hu
     exact hu
   · intro v' w' p1 p2 _
     obtain ⟨oa, oc, rfl⟩ := own_form p1
     exact h oa oc w' p1 p2
theorem step_append_bytes {w : World} {ops : Array Oper} {o : Oper} {a : Act} {K : Act → World → Prop} {Q : Exit → Act → World → Prop} {E : Prop} (hgd : o.guard = none) (s x : Operand)
   (ho : o.op = .call { callee := .builtin .append, args := #[s, x], argTypes := #[54, 54] })
   (base : Nat) (v : Value) (n : Nat) (xs : List Value) (hs : a.eval s = v) (hown : w.ownsRow base 5 1 v n xs)
   (g : Nat) (vx : Value) (bs : List Nat) (hx : a.eval x = vx) (hb : Bytes w g vx bs) (hlen : n + bs.length ≤ 100000000) (hbase : base ≤ w.heap.size)
   (h : ∀ oa oc w', w'.ownsRow base 5 1 (.slice oa (n + bs.length) oc) (n + bs.length) (xs ++ bcells bs) → w.grownBy w' v.ownBlock → K (a.put o.dst (.slice oa (n + bs.length) oc)) w') :
   if Region.wanted o (yielded ops a.tmps) = true then Oper.wp Tryz.prog o a w K Q else E := by
 have hw : Region.wanted o (yielded ops a.tmps) = true := by simp [Region.wanted, hgd]
 rw [if_pos hw]
 obtain ⟨ii, his, his0, his1, his2⟩ := info_parts info_byte
 obtain ⟨sa, sc, rfl, h1, h2, h3⟩ := hb
 rcases Nat.eq_zero_or_pos bs.length with h0 | h0
 · have e : bs = [] := List.eq_nil_of_length_eq_zero h0
   subst e
   obtain ⟨oa, oc, rfl⟩ := own_form hown
   have hrun := run_append_zero (P := Tryz.prog) (w := w) base 54 o.type 5 ii 1 Tryz.underlying54 his _ n xs hown sa sc
   have h' := h oa oc w (by simpa [bcells] using hown) (World.grownBy.refl w _)
   unfold Oper.wp
   simp [execOp, ho, resolve, invoke, builtin, hs, hx, hrun, Result.andThen]
   exact h'
 · obtain ⟨bg, bo, rfl, _, hc⟩ := h3 h0
   refine wp_append_own w s x 54 ho base 5 ii (.int .u8 0) 1 1 Tryz.underlying54 his his0 his1 his2 rfl (by decide) v n xs hs hown ⟨bg, bo, none⟩ bs.length sc (bcells bs) hx (by rw [bcells_length, Nat.mul_one]) (fun j u hu => ?_) (bcells_oneC bs) (by unfold maxLen; omega) (by omega) hbase ?_
   · have hj := (List.getElem?_eq_some_iff.1 hu).1
     rw [bcells_length] at hj
     rw [Addr.add_mid, hc j hj]
     rw [bcells_get bs j hj] at hu
     exact hu
   · intro v' w' p1 p2 _
     obtain ⟨oa, oc, rfl⟩ := own_form p1
     exact h oa oc w' p1 p2
theorem own_bytes {w : World} {base n g : Nat} {v : Value} {bs : List Nat} (h : w.ownsRow base 5 1 v n (bcells bs)) (hn : bs.length = n) (hb : ∀ x ∈ bs, x < 256) (hg : w.heap.size ≤ g) : Bytes w g v bs := by
 rcases h.2 with ⟨rfl, h0⟩ | ⟨b, cap, cur, rfl, hB, hh, h1, h2, h3, h4⟩
 · exact ⟨none, 0, by rw [hn, h0], by omega, hb, fun h => absurd h (by omega)⟩
 · refine ⟨_, cap, by rw [hn], by omega, hb, fun h0 => ⟨b, 0, rfl, by have := (Array.getElem?_eq_some_iff.1 hh).1; omega, fun i hi => ?_⟩⟩
   have hg2 : Has w b 5 cur := hh
   rw [Nat.zero_add]
   refine hg2.cell_is ?_
   rw [← Array.getElem?_toList]
   have e2 : cur.toList[i]? = (cur.toList.take (n * 1))[i]? := by rw [List.getElem?_take_of_lt (by omega)]
   rw [e2, h4]
   exact bcells_get bs i hi
end Go.Proofs.YtniakgoefkbkhaaGreatDoor
