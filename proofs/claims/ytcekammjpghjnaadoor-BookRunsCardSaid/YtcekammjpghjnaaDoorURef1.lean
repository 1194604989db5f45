/- The reference's digest, its primes and roots: the plain laws. -/
import Derived.Test.YtcekammjpghjnaaDoorWs
import Derived.Test.YtcekammjpghjnaaDoorUSha7
namespace Go.Proofs.YtcekammjpghjnaaDoor
set_option linter.unusedVariables false
set_option linter.unusedSimpArgs false

def eightR (n : Nat) : Nat → List Nat
 | 0 => []
 | i + 1 => n / 256 ^ i % 256 :: eightR n i
theorem eightR_len (n i : Nat) : (eightR n i).length = i := by
 induction i with
 | zero => rfl
 | succ i ih => show (eightR n i).length + 1 = _; rw [ih]
theorem eightR_lt (n i : Nat) : ∀ x ∈ eightR n i, x < 256 := by
 induction i with
 | zero => intro x hx; cases hx
 | succ i ih =>
  intro x hx
  rcases List.mem_cons.1 hx with e | e
  · omega
  · exact ih x e
theorem eightR_full (n : Nat) : eightR n 8 = eight n := by
 unfold eight
 rfl
def padZ (n : Nat) : Nat := (if n % 64 < 56 then 64 else 128) - 9 - n % 64
def padL (m : List Nat) : List Nat := m ++ 128 :: (List.replicate (padZ m.length) 0 ++ eight (8 * m.length))
theorem padZ_mod (n : Nat) : (n + 1 + padZ n) % 64 = 56 := by unfold padZ; split <;> omega
theorem padZ_first (n j : Nat) (h : j < padZ n) : ¬ (n + 1 + j) % 64 = 56 := by
 unfold padZ at h
 split at h <;> omega
theorem padZ_lt (n : Nat) : padZ n < 64 := by unfold padZ; split <;> omega
theorem padL_len (m : List Nat) : (padL m).length = 64 * (m.length / 64) + (if m.length % 64 < 56 then 64 else 128) := by
 unfold padL padZ
 simp only [List.length_append, List.length_cons, List.length_replicate, eight_length]
 split <;> omega
theorem padL_lt (m : List Nat) (h : ∀ x ∈ m, x < 256) : ∀ x ∈ padL m, x < 256 := fun x hx => by
 unfold padL at hx
 simp only [List.mem_append, List.mem_cons, List.mem_replicate] at hx
 rcases hx with hx | hx | ⟨_, hx⟩ | hx
 · exact h x hx
 · omega
 · omega
 · rw [← eightR_full] at hx
   exact eightR_lt _ _ x hx
theorem digest_pad (K s0 : List Wd) (m : List Nat) : digest K s0 m = (eat K ((padL m).length / 64) s0 (padL m)).flatMap bytesOf := by
 obtain ⟨q, hq⟩ : ∃ q, q = m.length / 64 := ⟨_, rfl⟩
 have hr : (m.drop (64 * q)).length = m.length % 64 := by rw [List.length_drop]; omega
 have hz : (if (m.drop (64 * q)).length < 56 then 64 else 128) - 9 - (m.drop (64 * q)).length = padZ m.length := by rw [hr]; rfl
 have hP : padL m = m.take (64 * q) ++ tailOf (m.drop (64 * q)) m.length := by
  unfold tailOf
  rw [hz, ← List.append_assoc, List.take_append_drop]
  rfl
 have htl : (tailOf (m.drop (64 * q)) m.length).length = if m.length % 64 < 56 then 64 else 128 := by
  rw [tailOf_length _ _ (by omega), hr]
 have htk : (m.take (64 * q)).length = 64 * q := by rw [List.length_take]; omega
 have hn : (padL m).length / 64 = q + (tailOf (m.drop (64 * q)) m.length).length / 64 := by
  rw [hP, List.length_append, htk]; omega
 have e1 : eat K q s0 (padL m) = eat K q s0 m := by
  rw [hP, eat_append K s0 q _ _ (by omega)]
  conv => rhs; rw [← List.take_append_drop (64 * q) m]
  rw [eat_append K s0 q _ _ (by omega)]
 have e2 : (padL m).drop (64 * q) = tailOf (m.drop (64 * q)) m.length := by
  rw [hP, List.drop_left' htk]
 unfold digest
 rw [hn, eat_add, e1, e2, hq]
theorem eat_succ (K s : List Wd) (j : Nat) (m : List Nat) : eat K (j + 1) s m = mixF K (eat K j s m) ((m.drop (64 * j)).take 64) := by
 rw [eat_add]; rfl
def stepP (out : List Nat) (x : Nat) : List Nat := if out.all (fun p => decide (¬ x % p = 0)) then out ++ [x] else out
def primesTo : Nat → List Nat
 | 0 => []
 | x + 1 => if x < 2 then [] else stepP (primesTo x) x
theorem stepP_len (out : List Nat) (x : Nat) : out.length ≤ (stepP out x).length := by
 unfold stepP; split
 · simp
 · exact Nat.le_refl _
theorem primes_step (x : Nat) (h : 2 ≤ x) : primesTo (x + 1) = stepP (primesTo x) x := by
 show (if x < 2 then [] else _) = _
 rw [if_neg (by omega)]
theorem primes_mono (x d : Nat) (h : 2 ≤ x) : (primesTo x).length ≤ (primesTo (x + d)).length := by
 induction d with
 | zero => exact Nat.le_refl _
 | succ d ih => rw [← Nat.add_assoc, primes_step _ (by omega)]; exact Nat.le_trans ih (stepP_len _ _)
def primes64 : List Nat := [2, 3, 5, 7, 11, 13, 17, 19, 23, 29, 31, 37, 41, 43, 47, 53, 59, 61, 67, 71, 73, 79, 83, 89, 97, 101, 103, 107, 109, 113, 127, 131, 137, 139, 149, 151, 157, 163, 167, 173, 179, 181, 191, 193, 197, 199, 211, 223, 227, 229, 233, 239, 241, 251, 257, 263, 269, 271, 277, 281, 283, 293, 307, 311]
theorem primes_full : primesTo 312 = primes64 := by decide +kernel
theorem primes_311 : (primesTo 311).length = 63 := by decide +kernel
theorem primes_few (x : Nat) (h : 2 ≤ x) (hx : x ≤ 311) : (primesTo x).length < 64 := by
 have := primes_mono x (311 - x) h
 rw [show x + (311 - x) = 311 by omega, primes_311] at this
 omega
theorem primes_pos (x : Nat) : ∀ p ∈ primesTo x, 0 < p ∧ p < x := by
 induction x with
 | zero => intro p hp; cases hp
 | succ x ih =>
  intro p hp
  unfold primesTo at hp
  split at hp
  · cases hp
  · unfold stepP at hp
    split at hp
    · rcases List.mem_append.1 hp with h | h
      · have := ih p h; omega
      · rw [List.mem_singleton] at h; omega
    · have := ih p hp; omega
structure RootIs (k N x : Nat) : Prop where
 low : x ^ k ≤ N
 high : N < (x + 1) ^ k
theorem RootIs.one {k N x y : Nat} (hx : RootIs k N x) (hy : RootIs k N y) : x = y := by
 have key : ∀ {a b}, RootIs k N a → RootIs k N b → a ≤ b := fun {a b} ha hb => by
  refine Nat.le_of_not_lt fun hc => ?_
  have h1 : (b + 1) ^ k ≤ a ^ k := Nat.pow_le_pow_left hc k
  have := ha.low
  have := hb.high
  omega
 exact Nat.le_antisymm (key hx hy) (key hy hx)
def ks64 : List Nat := [1116352408, 1899447441, 3049323471, 3921009573, 961987163, 1508970993, 2453635748, 2870763221, 3624381080, 310598401, 607225278, 1426881987, 1925078388, 2162078206, 2614888103, 3248222580, 3835390401, 4022224774, 264347078, 604807628, 770255983, 1249150122, 1555081692, 1996064986, 2554220882, 2821834349, 2952996808, 3210313671, 3336571891, 3584528711, 113926993, 338241895, 666307205, 773529912, 1294757372, 1396182291, 1695183700, 1986661051, 2177026350, 2456956037, 2730485921, 2820302411, 3259730800, 3345764771, 3516065817, 3600352804, 4094571909, 275423344, 430227734, 506948616, 659060556, 883997877, 958139571, 1322822218, 1537002063, 1747873779, 1955562222, 2024104815, 2227730452, 2361852424, 2428436474, 2756734187, 3204031479, 3329325298]
def kq64 : List Nat := [1, 1, 1, 1, 2, 2, 2, 2, 2, 3, 3, 3, 3, 3, 3, 3, 3, 3, 4, 4, 4, 4, 4, 4, 4, 4, 4, 4, 4, 4, 5, 5, 5, 5, 5, 5, 5, 5, 5, 5, 5, 5, 5, 5, 5, 5, 5, 6, 6, 6, 6, 6, 6, 6, 6, 6, 6, 6, 6, 6, 6, 6, 6, 6]
def ss8 : List Nat := [1779033703, 3144134277, 1013904242, 2773480762, 1359893119, 2600822924, 528734635, 1541459225]
def sq8 : List Nat := [1, 1, 2, 2, 3, 3, 4, 4]
theorem ks_all : (List.range 64).all (fun i => decide ((kq64.getD i 0 * 4294967296 + ks64.getD i 0) ^ 3 ≤ primes64.getD i 0 * 256 ^ 12) && decide (primes64.getD i 0 * 256 ^ 12 < (kq64.getD i 0 * 4294967296 + ks64.getD i 0 + 1) ^ 3)) = true := by decide +kernel
theorem ss_all : (List.range 8).all (fun i => decide ((sq8.getD i 0 * 4294967296 + ss8.getD i 0) ^ 2 ≤ primes64.getD i 0 * 256 ^ 8) && decide (primes64.getD i 0 * 256 ^ 8 < (sq8.getD i 0 * 4294967296 + ss8.getD i 0 + 1) ^ 2)) = true := by decide +kernel
theorem ks_lt : ks64.all (fun x => decide (x < 4294967296)) = true := by decide +kernel
theorem ss_lt : ss8.all (fun x => decide (x < 4294967296)) = true := by decide +kernel
theorem lt_of_all {l : List Nat} (h : l.all (fun x => decide (x < 4294967296)) = true) (i : Nat) : l.getD i 0 < 4294967296 := by
 rw [List.getD_eq_getElem?_getD]
 cases hi : l[i]? with
 | none => decide
 | some x => exact of_decide_eq_true (List.all_eq_true.1 h x (List.mem_of_getElem? hi))
theorem root_k {i x : Nat} (hi : i < 64) (h : RootIs 3 (primes64.getD i 0 * 256 ^ 12) x) : x % 4294967296 = ks64.getD i 0 := by
 have := List.all_eq_true.1 ks_all i (List.mem_range.2 hi)
 rw [Bool.and_eq_true, decide_eq_true_eq, decide_eq_true_eq] at this
 have e := h.one ⟨this.1, this.2⟩
 have := lt_of_all ks_lt i
 rw [e]; omega
theorem root_s {i x : Nat} (hi : i < 8) (h : RootIs 2 (primes64.getD i 0 * 256 ^ 8) x) : x % 4294967296 = ss8.getD i 0 := by
 have := List.all_eq_true.1 ss_all i (List.mem_range.2 hi)
 rw [Bool.and_eq_true, decide_eq_true_eq, decide_eq_true_eq] at this
 have e := h.one ⟨this.1, this.2⟩
 have := lt_of_all ss_lt i
 rw [e]; omega
structure HalfAt (k N lo hi : Nat) : Prop where
 low : lo ^ k ≤ N
 high : N < hi ^ k
 lt : lo < hi
 top : hi ≤ 137438953472
theorem HalfAt.done {k N lo hi : Nat} (h : HalfAt k N lo hi) (hd : ¬ 1 < hi - lo) : RootIs k N lo := by
 have := h.lt
 have e : hi = lo + 1 := by omega
 exact ⟨h.low, by rw [← e]; exact h.high⟩
theorem own_blk {w : World} {base : Nat} {t : TypeId} {z : Nat} {v : Value} {n : Nat} {cs : List Value} (h : w.ownsRow base t z v n cs) : ∀ k, v.ownBlock = some k → base ≤ k := fun k hk => by
 rcases h.2 with ⟨e2, _⟩ | ⟨gs, cap, cur, e2, hbase, _⟩
 · rw [e2] at hk; simp [Value.ownBlock] at hk
 · rw [e2] at hk
   simp [Value.ownBlock] at hk
   omega
end Go.Proofs.YtcekammjpghjnaaDoor
/- Bytes appended to a row of one's own, whatever bytes; the reference's turn, Eight and Tables.Sum lean on it. -/
namespace Go.Proofs.YtcekammjpghjnaaDoor
set_option linter.unusedVariables false
set_option linter.unusedSimpArgs false
open Go.ChangeShapes Go.WideShapes Go.ChangeAt Go.RowKit Go.Maps

theorem run_append_zero {P : Program} {w : World} (base : Nat) (t ty e : TypeId) (i : TypeInfo) (size : Nat) (ht : P.underlying t = some (.slice e)) (hi : P.info? e = some i)
   (v : Value) (n : Nat) (xs : List Value) (hown : w.ownsRow base e size v n xs) (sa : Option Addr) (sc : Nat) :
   (Builtin.append_ #[t, t] ty #[v, .slice sa 0 sc]).run P w = .ok v w := by
 rcases hown.2 with ⟨rfl, rfl⟩ | ⟨g, cap, cur, rfl, _, _, hnc, _⟩
 · cases sa <;> simp [Builtin.append_, run_underlying ht, sizeOf, typeInfo, hi, Builtin.lenOf, Builtin.firstCells, loadCells, loadCellsFrom, Result.andThen]
 · cases sa <;> simp [Builtin.append_, run_underlying ht, sizeOf, typeInfo, hi, Builtin.lenOf, Builtin.firstCells, hnc, storeCells, loadCells, loadCellsFrom, Result.andThen]
theorem wpList_append_zero {P : Program} {w : World} {ops : Array Oper} {rest : List Oper} {o : Oper} {a : Act} {Q : Exit → Act → World → Prop} (hgd : o.guard = none) (s x : Operand) (t : TypeId)
  (ho : o.op = .call { callee := .builtin .append, args := #[s, x], argTypes := #[t, t] })
  (base : Nat) (e : TypeId) (i : TypeInfo) (size : Nat) (ht : P.underlying t = some (.slice e)) (hi : P.info? e = some i)
  (v : Value) (n : Nat) (xs : List Value) (hs : a.eval s = v) (hown : w.ownsRow base e size v n xs) (sa : Option Addr) (sc : Nat) (hx : a.eval x = .slice sa 0 sc)
  (h : wpList P ops Q rest (a.put o.dst v) w) : wpList P ops Q (o :: rest) a w := by
 refine wpList_plain hgd fun K hK => ?_
 have hrun := run_append_zero (P := P) (w := w) base t o.type e i size ht hi v n xs hown sa sc
 unfold Oper.wp
 simp [execOp, ho, resolve, invoke, builtin, hs, hx, hrun, Result.andThen]
 exact hK _ _ h
theorem info_byte : (Tryd.prog.info? 5).map (fun i => (i.zero, i.size, i.bytes)) = some (some (.int .u8 0), 1, 1) := by kernel_rfl
theorem own_form {w : World} {base : Nat} {e : TypeId} {size n : Nat} {v : Value} {xs : List Value} (h : w.ownsRow base e size v n xs) : ∃ a c, v = .slice a n c := by
 rcases h.2 with ⟨rfl, rfl⟩ | ⟨g, cap, cur, rfl, _⟩
 · exact ⟨none, 0, rfl⟩
 · exact ⟨_, _, rfl⟩
theorem wpList_append_bytes {w : World} {ops : Array Oper} {rest : List Oper} {o : Oper} {a : Act} {Q : Exit → Act → World → Prop} (hgd : o.guard = none) (s x : Operand)
   (ho : o.op = .call { callee := .builtin .append, args := #[s, x], argTypes := #[87, 87] })
   (base : Nat) (v : Value) (n : Nat) (xs : List Value) (hs : a.eval s = v) (hown : w.ownsRow base 5 1 v n xs)
   (g : Nat) (vx : Value) (bs : List Nat) (hx : a.eval x = vx) (hb : Bytes w g vx bs) (hlen : n + bs.length ≤ 100000000) (hbase : base ≤ w.heap.size)
   (h : ∀ oa oc w', w'.ownsRow base 5 1 (.slice oa (n + bs.length) oc) (n + bs.length) (xs ++ bcells bs) → w.grownBy w' v.ownBlock → wpList Tryd.prog ops Q rest (a.put o.dst (.slice oa (n + bs.length) oc)) w') : wpList Tryd.prog ops Q (o :: rest) a w := by
 obtain ⟨ii, his, his0, his1, his2⟩ := info_parts info_byte
 obtain ⟨sa, sc, rfl, h1, h2, h3⟩ := hb
 rcases Nat.eq_zero_or_pos bs.length with h0 | h0
 · have e : bs = [] := List.eq_nil_of_length_eq_zero h0
   subst e
   obtain ⟨oa, oc, rfl⟩ := own_form hown
   refine wpList_append_zero hgd s x 87 ho base 5 ii 1 Tryd.underlying87 his _ n xs hs hown sa sc hx ?_
   refine h oa oc w ?_ (World.grownBy.refl w _)
   simpa [bcells] using hown
 · obtain ⟨bg, bo, rfl, _, hc⟩ := h3 h0
   refine wpList_append_own w hgd s x 87 ho base 5 ii (.int .u8 0) 1 1 Tryd.underlying87 his his0 his1 his2 rfl (by decide) v n xs hs hown ⟨bg, bo, none⟩ bs.length sc (bcells bs) hx (by rw [bcells_length, Nat.mul_one]) (fun j u hu => ?_) (bcells_oneC bs) (by unfold maxLen; omega) (by omega) hbase ?_
   · have hj := (List.getElem?_eq_some_iff.1 hu).1
     rw [bcells_length] at hj
     rw [Addr.add_mid, hc j hj]
     rw [bcells_get bs j hj] at hu
     exact hu
   · intro v' w' p1 p2 _
     obtain ⟨oa, oc, rfl⟩ := own_form p1
     exact h oa oc w' p1 p2
theorem own_bytes {w : World} {base n g : Nat} {v : Value} {bs : List Nat} (h : w.ownsRow base 5 1 v n (bcells bs)) (hn : bs.length = n) (hb : ∀ x ∈ bs, x < 256) (hg : w.heap.size ≤ g) : Bytes w g v bs := by
 rcases h.2 with ⟨rfl, h0⟩ | ⟨b, cap, cur, rfl, hB, hh, h1, h2, h3, h4⟩
 · exact ⟨none, 0, by rw [hn, h0], by omega, hb, fun h => absurd h (by omega)⟩
 · refine ⟨_, cap, by rw [hn], by omega, hb, fun h0 => ⟨b, 0, rfl, by have := (Array.getElem?_eq_some_iff.1 hh).1; omega, fun i hi => ?_⟩⟩
   have hg2 : Has w b 5 cur := hh
   rw [Nat.zero_add]
   refine hg2.cell_is ?_
   rw [← Array.getElem?_toList]
   have e2 : cur.toList[i]? = (cur.toList.take (n * 1))[i]? := by rw [List.getElem?_take_of_lt (by omega)]
   rw [e2, h4]
   exact bcells_get bs i hi
theorem turn_sub : ∀ n : Fin 33, IntKind.u64.wrap (32 - (n.val : Int)) = ((32 - n.val : Nat) : Int) := of_decide_eq_true (by kernel_rfl)
set_option maxRecDepth 100000 in
theorem turn_is (w : World) (x : Wd) (n : Nat) (hn : 0 < n) (hn2 : n < 32) (k : Int) (hk : k = (n : Int)) :
  Calls Tryd.prog 63 #[.int .u32 (x.toNat : Int), .int .u64 k] w fun e w' => e = .returned (.int .u32 ((rotr n x).toNat : Int)) ∧ w' = w := by
 subst hk
 have ht := turn_sub ⟨n, by omega⟩
 have ht2 : (32 - (n : Int)) % 18446744073709551616 = ((32 - n : Nat) : Int) := by omega
 go_enter Tryd.func63, Tryd.ntmps63
 go_wp2
 go_ret
 refine ⟨ret_int ?_, rfl⟩
 unfold rotr
 rw [shl_wd, shr_wd, or_wd, BitVec.or_comm]
theorem div_step (n i : Nat) : n / 256 ^ i / 256 = n / 256 ^ (i + 1) := by rw [Nat.div_div_eq_div_mul, Nat.pow_succ]
theorem byte_facts {x d q : Nat} (hx : x < 18446744073709551616) (hd : d = x % 256) (hq : q = x / 256) :
  Int.tmod (x : Int) 256 = (d : Int) ∧ (x : Int) % 256 = (d : Int) ∧ Int.tdiv (x : Int) 256 = (q : Int) ∧ (x : Int) / 256 = (q : Int) ∧ IntKind.u64.wrap (d : Int) = (d : Int) ∧ (d : Int) % 18446744073709551616 = (d : Int) ∧ IntKind.u64.wrap (q : Int) = (q : Int) ∧ (q : Int) % 18446744073709551616 = (q : Int) ∧ IntKind.u8.wrap (d : Int) = (d : Int) ∧ (d : Int) % 256 = (d : Int) := by
 refine ⟨by rw [Int.tmod_eq_emod_of_nonneg (Int.natCast_nonneg _)]; omega, by omega, by rw [Int.tdiv_eq_ediv_of_nonneg (Int.natCast_nonneg _)]; omega, by omega, by rw [IntKind.wrap_u64]; omega, by omega, by rw [IntKind.wrap_u64]; omega, by omega, by rw [IntKind.wrap_u8]; omega, by omega⟩
end Go.Proofs.YtcekammjpghjnaaDoor
