/- What the listed variables give: the two tables of the digest hold 64 and 8 words. -/
import Derived.Test.YtknfbccbdiidjaaGreatDoorWs
import Derived.Test.YtknfbccbdiidjaaGreatDoorRSha7
import Derived.LaidMore
import Derived.Stop.Joined
namespace Go.Proofs.YtknfbccbdiidjaaGreatDoor
set_option linter.unusedVariables false
set_option linter.unusedSimpArgs false
open Go.ChangeShapes Go.WideShapes Go.ChangeAt Go.RowKit

def laid2 : List (String × DataW Unit) := [("moneyer/sha.start", Rows.laid_moneyer_sha_start), ("moneyer/sha.rounds", Rows.laid_moneyer_sha_rounds)]
theorem own : ownKnob Tryz.prog.godebug = none := by kernel_rfl
theorem laidOut : laidOutB Tryz.prog = true := by kernel_rfl
theorem gStart : Tryz.prog.globalNamed "moneyer/sha.start" = some 1 := by kernel_rfl
theorem gRounds : Tryz.prog.globalNamed "moneyer/sha.rounds" = some 2 := by kernel_rfl
theorem tStart : (Tryz.prog.globals[1]?).map (·.type) = some 53 := by kernel_rfl
theorem tRounds : (Tryz.prog.globals[2]?).map (·.type) = some 54 := by kernel_rfl
theorem door_met (os : Os) (args : Array Value) : laidMetH Tryz.prog laid2 ((World.doorLaid Tryz.prog 4000 os).forCall (fun _ _ => 0) ⟨#[], args, []⟩).memory :=
 laidMetH_of_parts3 (fuel := 8) (laidMet_of_run' 8 (by kernel_rfl) (by kernel_rfl)) (by kernel_rfl) (by kernel_rfl)
end Go.Proofs.YtknfbccbdiidjaaGreatDoor
/- The reference's digest, its primes and roots: the plain laws. -/
namespace Go.Proofs.YtknfbccbdiidjaaGreatDoor
set_option linter.unusedVariables false
set_option linter.unusedSimpArgs false

def eightR (n : Nat) : Nat → List Nat
 | 0 => []
 | i + 1 => n / 256 ^ i % 256 :: eightR n i
theorem eightR_lt (n i : Nat) : ∀ x ∈ eightR n i, x < 256 := by
 induction i with
 | zero => intro x hx; cases hx
 | succ i ih =>
  intro x hx
  rcases List.mem_cons.1 hx with e | e
  · omega
  · exact ih x e
theorem eightR_full (n : Nat) : eightR n 8 = eight n := by
 unfold eight
 rfl
structure RootIs (k N x : Nat) : Prop where
 low : x ^ k ≤ N
 high : N < (x + 1) ^ k
theorem RootIs.one {k N x y : Nat} (hx : RootIs k N x) (hy : RootIs k N y) : x = y := by
 have key : ∀ {a b}, RootIs k N a → RootIs k N b → a ≤ b := fun {a b} ha hb => by
  refine Nat.le_of_not_lt fun hc => ?_
  have h1 : (b + 1) ^ k ≤ a ^ k := Nat.pow_le_pow_left hc k
  have := ha.low
  have := hb.high
  omega
 exact Nat.le_antisymm (key hx hy) (key hy hx)
def ks64 : List Nat := [1116352408, 1899447441, 3049323471, 3921009573, 961987163, 1508970993, 2453635748, 2870763221, 3624381080, 310598401, 607225278, 1426881987, 1925078388, 2162078206, 2614888103, 3248222580, 3835390401, 4022224774, 264347078, 604807628, 770255983, 1249150122, 1555081692, 1996064986, 2554220882, 2821834349, 2952996808, 3210313671, 3336571891, 3584528711, 113926993, 338241895, 666307205, 773529912, 1294757372, 1396182291, 1695183700, 1986661051, 2177026350, 2456956037, 2730485921, 2820302411, 3259730800, 3345764771, 3516065817, 3600352804, 4094571909, 275423344, 430227734, 506948616, 659060556, 883997877, 958139571, 1322822218, 1537002063, 1747873779, 1955562222, 2024104815, 2227730452, 2361852424, 2428436474, 2756734187, 3204031479, 3329325298]
def ss8 : List Nat := [1779033703, 3144134277, 1013904242, 2773480762, 1359893119, 2600822924, 528734635, 1541459225]
structure HalfAt (k N lo hi : Nat) : Prop where
 low : lo ^ k ≤ N
 high : N < hi ^ k
 lt : lo < hi
 top : hi ≤ 137438953472
theorem HalfAt.lower {k N lo hi : Nat} (h : HalfAt k N lo hi) (hd : 1 < hi - lo) (hm : ((lo + hi) / 2) ^ k ≤ N) : HalfAt k N ((lo + hi) / 2) hi := ⟨hm, h.high, by omega, h.top⟩
theorem HalfAt.done {k N lo hi : Nat} (h : HalfAt k N lo hi) (hd : ¬ 1 < hi - lo) : RootIs k N lo := by
 have := h.lt
 have e : hi = lo + 1 := by omega
 exact ⟨h.low, by rw [← e]; exact h.high⟩
theorem own_blk {w : World} {base : Nat} {t : TypeId} {z : Nat} {v : Value} {n : Nat} {cs : List Value} (h : w.ownsRow base t z v n cs) : ∀ k, v.ownBlock = some k → base ≤ k := fun k hk => by
 rcases h.2 with ⟨e2, _⟩ | ⟨gs, cap, cur, e2, hbase, _⟩
 · rw [e2] at hk; simp [Value.ownBlock] at hk
 · rw [e2] at hk
   simp [Value.ownBlock] at hk
   omega
end Go.Proofs.YtknfbccbdiidjaaGreatDoor
/- What the listed variables hold, word by word: the reference's tables. -/
namespace Go.Proofs.YtknfbccbdiidjaaGreatDoor
set_option linter.unusedVariables false
set_option linter.unusedSimpArgs false
open Go.ChangeShapes Go.WideShapes Go.ChangeAt Go.RowKit

def KS : List Wd := ks64.map (BitVec.ofNat 32)
def SS : List Wd := ss8.map (BitVec.ofNat 32)
theorem ss_len : SS.length = 8 := by decide
theorem words_at {H : Type} {enc : TypeId × Value → H} {P : Program} {w : World} {base : Nat} {spare : Nat → Bool} {held : Bool} {T e : TypeId} {n fuel : Nat} {cs : List Value} {d : DataW H} {p : List MemPlace} (l : List Nat)
  (ht : P.underlying T = some (.array n e)) (he : P.underlying e = some (.int .u32)) (h1 : P.cellsOf e = 1) (hT : P.cellsOf T = n) (hf : DataW.trod enc P w base spare held fuel T cs = some (d, p))
  (hd : d = .agg (l.map fun (k : Nat) => .lit (.int .u32 (k : Int)))) : ∀ i, i < n → cs[i]? = some (.int .u32 ((l.getD i 0 : Nat) : Int)) := by
 obtain ⟨xs, m, _, hx, hlen, hn, hall⟩ := DataW.trod_array ht hf
 rw [hT] at hlen
 subst hd
 have e3 : (xs.map (·.1)) = l.map fun (k : Nat) => (.lit (.int .u32 (k : Int)) : DataW H) := (DataW.agg.inj (Prod.mk.inj hx).1).symm
 have hll : l.length = n := by
  have := congrArg List.length e3
  simpa [hn] using this.symm
 intro i hi
 have hE := hall i hi
 rw [h1, Nat.mul_one, List.getElem?_eq_getElem (by omega)] at hE
 obtain ⟨k, hk1, e2, hw⟩ := DataW.trod_int he hE
 rw [List.drop_eq_getElem_cons (by omega)] at hk1
 simp only [List.take_succ_cons, List.take_zero, List.cons.injEq, and_true] at hk1
 have e4 : (xs.map (·.1))[i]? = (l.map fun (k : Nat) => (.lit (.int .u32 (k : Int)) : DataW H))[i]? := by rw [e3]
 rw [List.getElem?_map, List.getElem?_map, List.getElem?_eq_getElem (by omega : i < xs.length), List.getElem?_eq_getElem (by omega : i < l.length), e2] at e4
 simp only [Option.map_some, Option.some.injEq, DataW.lit.injEq, Lit.int.injEq, true_and] at e4
 rw [List.getElem?_eq_getElem (by omega), hk1, e4, List.getD_eq_getElem?_getD, List.getElem?_eq_getElem (by omega)]
 rfl
theorem ks_nat : ∀ i, i < 64 → (KS.getD i 0).toNat = ks64.getD i 0 := by decide
theorem ss_nat : ∀ i, i < 8 → (SS.getD i 0).toNat = ss8.getD i 0 := by decide
theorem of_laid2 {W : World} (h : laidMetH Tryz.prog laid2 W) : Tabs KS SS W := by
 rw [MakeChecks.laidMetH_plain _ _ _ (by kernel_rfl)] at h
 obtain ⟨ps, ⟨g0, t0, cs0, f0, p0, q0, hg0, ht0, hv0, hd0, ⟨g1, t1, cs1, f1, p1, q1, hg1, ht1, hv1, hd1, _, _⟩, _⟩, _, _⟩ := h
 obtain rfl := Option.some.inj (gStart.symm.trans hg0)
 obtain rfl := Option.some.inj (gRounds.symm.trans hg1)
 obtain rfl := Option.some.inj (tStart.symm.trans ht0)
 obtain rfl := Option.some.inj (tRounds.symm.trans ht1)
 have hsc := words_at ss8 Tryz.underlying53 Tryz.underlying52 (by kernel_rfl) (by kernel_rfl) hd0 (by rfl)
 have hkc := words_at ks64 Tryz.underlying54 Tryz.underlying52 (by kernel_rfl) (by kernel_rfl) hd1 (by rfl)
 have c0 : ∀ i, i < 8 → W.cell? ⟨1, i, none⟩ = some (.int .u32 ((SS.getD i 0).toNat : Int)) := fun i hi => by
  rw [World.var?_cell hg0 hv0 i, ss_nat i hi]; simpa using hsc i hi
 have c1 : ∀ i, i < 64 → W.cell? ⟨2, i, none⟩ = some (.int .u32 ((KS.getD i 0).toNat : Int)) := fun i hi => by
  rw [World.var?_cell hg1 hv1 i, ks_nat i hi]; simpa using hkc i hi
 refine ⟨c1, c0, ?_, ss_len⟩
 have a0 := World.block_lt_of_cell? W _ (c0 0 (by decide))
 have a1 := World.block_lt_of_cell? W _ (c1 0 (by decide))
 dsimp only at a0 a1
 omega
end Go.Proofs.YtknfbccbdiidjaaGreatDoor
/- The digest, quick for the kernel: words as plain numbers, each worked out ahead of its use; and that it is the digest. -/
namespace Go.Proofs.YtknfbccbdiidjaaGreatDoor
set_option linter.unusedVariables false
set_option linter.unusedSimpArgs false

def fo {α : Type} (n : Nat) (k : Nat → α) : α := match n with | 0 => k 0 | Nat.succ m => k (Nat.succ m)
theorem fo_is {α : Type} (n : Nat) (k : Nat → α) : fo n k = k n := by cases n <;> rfl
def dblN (n : Nat) : Nat := Nat.lor n (Nat.shiftLeft n 32)
def big1N (y : Nat) : Nat := Nat.xor (Nat.xor (Nat.shiftRight y 6) (Nat.shiftRight y 11)) (Nat.shiftRight y 25)
def big0N (y : Nat) : Nat := Nat.xor (Nat.xor (Nat.shiftRight y 2) (Nat.shiftRight y 13)) (Nat.shiftRight y 22)
def lil0N (y x : Nat) : Nat := Nat.xor (Nat.xor (Nat.shiftRight y 7) (Nat.shiftRight y 18)) (Nat.shiftRight x 3)
def lil1N (y x : Nat) : Nat := Nat.xor (Nat.xor (Nat.shiftRight y 17) (Nat.shiftRight y 19)) (Nat.shiftRight x 10)
def choN (e f g : Nat) : Nat := Nat.xor g (Nat.land e (Nat.xor f g))
def majN (a b c : Nat) : Nat := Nat.xor (Nat.land a (Nat.xor b c)) (Nat.land b c)
def rndsN {α : Type} (q : Nat → Nat → Nat → Nat → Nat → Nat → Nat → Nat → α) : List Nat → Nat → Nat → Nat → Nat → Nat → Nat → Nat → Nat → Nat → Nat → Nat → Nat → Nat → Nat → Nat → Nat → Nat → Nat → Nat → Nat → Nat → Nat → Nat → Nat → α
 | [], _, _, _, _, _, _, _, _, _, _, _, _, _, _, _, _, a, b, c, d, e, f, g, h => q a b c d e f g h
 | k :: K, w0, w1, w2, w3, w4, w5, w6, w7, w8, w9, w10, w11, w12, w13, w14, w15, a, b, c, d, e, f, g, h =>
  fo (Nat.add (Nat.add (Nat.add (Nat.add h (big1N (dblN e))) (choN e f g)) k) w0) fun t =>
  fo (Nat.mod (Nat.add d t) 4294967296) fun e' =>
  fo (Nat.mod (Nat.add (Nat.add t (big0N (dblN a))) (majN a b c)) 4294967296) fun a' =>
  fo (Nat.mod (Nat.add (Nat.add (Nat.add w0 (lil0N (dblN w1) w1)) w9) (lil1N (dblN w14) w14)) 4294967296) fun w' =>
  rndsN q K w1 w2 w3 w4 w5 w6 w7 w8 w9 w10 w11 w12 w13 w14 w15 w' a' a b c e' e f g
def mixN {α : Type} (K : List Nat) (q : Nat → Nat → Nat → Nat → Nat → Nat → Nat → Nat → α) (s0 s1 s2 s3 s4 s5 s6 s7 w0 w1 w2 w3 w4 w5 w6 w7 w8 w9 w10 w11 w12 w13 w14 w15 : Nat) : α :=
 rndsN (fun a b c d e f g h =>
  fo (Nat.mod (Nat.add s0 a) 4294967296) fun n0 =>
  fo (Nat.mod (Nat.add s1 b) 4294967296) fun n1 =>
  fo (Nat.mod (Nat.add s2 c) 4294967296) fun n2 =>
  fo (Nat.mod (Nat.add s3 d) 4294967296) fun n3 =>
  fo (Nat.mod (Nat.add s4 e) 4294967296) fun n4 =>
  fo (Nat.mod (Nat.add s5 f) 4294967296) fun n5 =>
  fo (Nat.mod (Nat.add s6 g) 4294967296) fun n6 =>
  fo (Nat.mod (Nat.add s7 h) 4294967296) fun n7 =>
  q n0 n1 n2 n3 n4 n5 n6 n7) K w0 w1 w2 w3 w4 w5 w6 w7 w8 w9 w10 w11 w12 w13 w14 w15 s0 s1 s2 s3 s4 s5 s6 s7
def nodeN {α : Type} (q : Nat → Nat → Nat → Nat → Nat → Nat → Nat → Nat → α) (l0 l1 l2 l3 l4 l5 l6 l7 lh ll r0 r1 r2 r3 r4 r5 r6 r7 rh rl : Nat) : α :=
 mixN ks64 (fun s0 s1 s2 s3 s4 s5 s6 s7 => mixN ks64 q s0 s1 s2 s3 s4 s5 s6 s7 r6 r7 rh rl 2147483648 0 0 0 0 0 0 0 0 0 0 640) 1779033703 3144134277 1013904242 2773480762 1359893119 2600822924 528734635 1541459225 l0 l1 l2 l3 l4 l5 l6 l7 lh ll r0 r1 r2 r3 r4 r5

theorem dbl_bit (x : Wd) (i : Nat) : (dblN x.toNat).testBit i = (x.getLsbD i || (decide (32 ≤ i) && x.getLsbD (i - 32))) := by
 show (x.toNat ||| x.toNat <<< 32).testBit i = _
 rw [Nat.testBit_or, Nat.testBit_shiftLeft]
 rfl
theorem rot_mod (x : Wd) (r : Nat) (h : r < 32) (h0 : 0 < r) : (dblN x.toNat >>> r) % 4294967296 = (rotr r x).toNat := by
 apply Nat.eq_of_testBit_eq
 intro i
 rw [show (4294967296 : Nat) = 2 ^ 32 from rfl, Nat.testBit_mod_two_pow, Nat.testBit_shiftRight, dbl_bit]
 show _ = (rotr r x).getLsbD i
 unfold rotr
 rw [BitVec.getLsbD_or, BitVec.getLsbD_shiftLeft, BitVec.getLsbD_ushiftRight]
 by_cases h1 : i < 32
 · by_cases h2 : r + i < 32
   · have e1 : decide (32 ≤ r + i) = false := by rw [decide_eq_false_iff_not]; omega
     have e2 : decide (i < 32 - r) = true := by rw [decide_eq_true_eq]; omega
     rw [e1, e2, decide_eq_true h1]
     simp
   · have e1 : decide (32 ≤ r + i) = true := by rw [decide_eq_true_eq]; omega
     have e2 : decide (i < 32 - r) = false := by rw [decide_eq_false_iff_not]; omega
     have e3 : x.getLsbD (r + i) = false := BitVec.getLsbD_of_ge _ _ (by omega)
     rw [e1, e2, decide_eq_true h1, e3, show i - (32 - r) = r + i - 32 by omega]
     simp
 · have e3 : x.getLsbD (r + i) = false := BitVec.getLsbD_of_ge _ _ (by omega)
   rw [decide_eq_false h1, e3]
   simp
theorem shr_mod (x : Wd) (r : Nat) : (x.toNat >>> r) % 4294967296 = (x >>> r).toNat := by
 rw [BitVec.toNat_ushiftRight]
 have := (x >>> r).isLt
 rw [BitVec.toNat_ushiftRight] at this
 exact Nat.mod_eq_of_lt this
theorem xor_mod (a b : Nat) : (a ^^^ b) % 4294967296 = (a % 4294967296) ^^^ (b % 4294967296) := Nat.xor_mod_two_pow (n := 32)
theorem big1_mod (x : Wd) : big1N (dblN x.toNat) % 4294967296 = (big1 x).toNat := by
 show (((dblN x.toNat >>> 6) ^^^ (dblN x.toNat >>> 11)) ^^^ (dblN x.toNat >>> 25)) % 4294967296 = _
 rw [xor_mod, xor_mod, rot_mod x 6 (by decide) (by decide), rot_mod x 11 (by decide) (by decide), rot_mod x 25 (by decide) (by decide)]
 unfold big1
 rw [BitVec.toNat_xor, BitVec.toNat_xor]
theorem big0_mod (x : Wd) : big0N (dblN x.toNat) % 4294967296 = (big0 x).toNat := by
 show (((dblN x.toNat >>> 2) ^^^ (dblN x.toNat >>> 13)) ^^^ (dblN x.toNat >>> 22)) % 4294967296 = _
 rw [xor_mod, xor_mod, rot_mod x 2 (by decide) (by decide), rot_mod x 13 (by decide) (by decide), rot_mod x 22 (by decide) (by decide)]
 unfold big0
 rw [BitVec.toNat_xor, BitVec.toNat_xor]
theorem lil0_mod (x : Wd) : lil0N (dblN x.toNat) x.toNat % 4294967296 = (lil0 x).toNat := by
 show (((dblN x.toNat >>> 7) ^^^ (dblN x.toNat >>> 18)) ^^^ (x.toNat >>> 3)) % 4294967296 = _
 rw [xor_mod, xor_mod, rot_mod x 7 (by decide) (by decide), rot_mod x 18 (by decide) (by decide), shr_mod]
 unfold lil0
 rw [BitVec.toNat_xor, BitVec.toNat_xor]
theorem lil1_mod (x : Wd) : lil1N (dblN x.toNat) x.toNat % 4294967296 = (lil1 x).toNat := by
 show (((dblN x.toNat >>> 17) ^^^ (dblN x.toNat >>> 19)) ^^^ (x.toNat >>> 10)) % 4294967296 = _
 rw [xor_mod, xor_mod, rot_mod x 17 (by decide) (by decide), rot_mod x 19 (by decide) (by decide), shr_mod]
 unfold lil1
 rw [BitVec.toNat_xor, BitVec.toNat_xor]
theorem cho_nat (e f g : Wd) : choN e.toNat f.toNat g.toNat = (cho e f g).toNat := by
 have h : cho e f g = g ^^^ (e &&& (f ^^^ g)) := by
  unfold cho
  apply BitVec.eq_of_getLsbD_eq
  intro i hi
  simp only [BitVec.getLsbD_xor, BitVec.getLsbD_and, BitVec.getLsbD_not, decide_eq_true hi, Bool.true_and]
  cases e.getLsbD i <;> cases f.getLsbD i <;> cases g.getLsbD i <;> rfl
 rw [h, BitVec.toNat_xor, BitVec.toNat_and, BitVec.toNat_xor]
 rfl
theorem maj_nat (a b c : Wd) : majN a.toNat b.toNat c.toNat = (maj a b c).toNat := by
 have h : maj a b c = (a &&& (b ^^^ c)) ^^^ (b &&& c) := by
  unfold maj
  apply BitVec.eq_of_getLsbD_eq
  intro i hi
  simp only [BitVec.getLsbD_xor, BitVec.getLsbD_and]
  cases a.getLsbD i <;> cases b.getLsbD i <;> cases c.getLsbD i <;> rfl
 rw [h, BitVec.toNat_xor, BitVec.toNat_and, BitVec.toNat_and, BitVec.toNat_xor]
 rfl
def rndF (KB W : Nat → Wd) (s : St) (t : Nat) : Nat → St
 | 0 => s
 | n + 1 => rndF KB W (rnd s (KB t) (W t)) (t + 1) n
theorem rndF_snoc (KB W : Nat → Wd) (n : Nat) : ∀ (s : St) (t : Nat), rndF KB W s t (n + 1) = rnd (rndF KB W s t n) (KB (t + n)) (W (t + n)) := by
 induction n with
 | zero => intro s t; rfl
 | succ n ih =>
  intro s t
  show rndF KB W (rnd s (KB t) (W t)) (t + 1) (n + 1) = _
  rw [ih, show t + 1 + n = t + (n + 1) by omega]
  rfl
theorem rndF_is (K ws : List Wd) (W : Nat → Wd) (s : St) (n : Nat) (hw : ∀ i, i < n → ws.getD i 0 = W i) : rnds K ws s n = rndF (fun i => K.getD i 0) W s 0 n := by
 induction n with
 | zero => rfl
 | succ n ih =>
  rw [rndF_snoc, ← ih (fun i hi => hw i (by omega)), Nat.zero_add, ← hw n (by omega)]
  rfl
theorem add_nat (x y : Wd) : (x + y).toNat = (x.toNat + y.toNat) % 4294967296 := BitVec.toNat_add x y

theorem rnds_is {α : Type} (q : Nat → Nat → Nat → Nat → Nat → Nat → Nat → Nat → α) (KB W : Nat → Wd) (hW : ∀ i, W (i + 16) = W i + lil0 (W (i + 1)) + W (i + 9) + lil1 (W (i + 14))) : ∀ (ks : List Nat) (t : Nat) (s : St), (∀ j, j < ks.length → ks.getD j 0 = (KB (t + j)).toNat) →
  rndsN q ks (W t).toNat (W (t + 1)).toNat (W (t + 2)).toNat (W (t + 3)).toNat (W (t + 4)).toNat (W (t + 5)).toNat (W (t + 6)).toNat (W (t + 7)).toNat (W (t + 8)).toNat (W (t + 9)).toNat (W (t + 10)).toNat (W (t + 11)).toNat (W (t + 12)).toNat (W (t + 13)).toNat (W (t + 14)).toNat (W (t + 15)).toNat s.a.toNat s.b.toNat s.c.toNat s.d.toNat s.e.toNat s.f.toNat s.g.toNat s.h.toNat = q (rndF KB W s t ks.length).a.toNat (rndF KB W s t ks.length).b.toNat (rndF KB W s t ks.length).c.toNat (rndF KB W s t ks.length).d.toNat (rndF KB W s t ks.length).e.toNat (rndF KB W s t ks.length).f.toNat (rndF KB W s t ks.length).g.toNat (rndF KB W s t ks.length).h.toNat
 | [], t, s, hk => rfl
 | k :: ks, t, s, hk => by
  have hk0 : k = (KB t).toNat := hk 0 (by simp)
  have IH := rnds_is q KB W hW ks (t + 1) (rnd s (KB t) (W t)) (fun j hj => by have := hk (j + 1) (by simpa using hj); rw [show t + 1 + j = t + (j + 1) by omega]; exact this)
  have h1 := big1_mod s.e
  have h2 := big0_mod s.a
  have h3 := lil0_mod (W (t + 1))
  have h4 := lil1_mod (W (t + 14))
  have c1 := cho_nat s.e s.f s.g
  have c2 := maj_nat s.a s.b s.c
  have eT : (tee s (KB t) (W t)).toNat = (s.h.toNat + big1N (dblN s.e.toNat) + choN s.e.toNat s.f.toNat s.g.toNat + k + (W t).toNat) % 4294967296 := by
   unfold tee
   rw [add_nat, add_nat, add_nat, add_nat, ← h1, ← c1, hk0]
   omega
  have eE : (s.d.toNat + (s.h.toNat + big1N (dblN s.e.toNat) + choN s.e.toNat s.f.toNat s.g.toNat + k + (W t).toNat)) % 4294967296 = (rnd s (KB t) (W t)).e.toNat := by
   show _ = (s.d + tee s (KB t) (W t)).toNat
   rw [add_nat, eT]
   omega
  have eA : ((s.h.toNat + big1N (dblN s.e.toNat) + choN s.e.toNat s.f.toNat s.g.toNat + k + (W t).toNat) + big0N (dblN s.a.toNat) + majN s.a.toNat s.b.toNat s.c.toNat) % 4294967296 = (rnd s (KB t) (W t)).a.toNat := by
   show _ = (tee s (KB t) (W t) + you s).toNat
   unfold you
   rw [add_nat, add_nat, eT, ← h2, ← c2]
   omega
  have eW : ((W t).toNat + lil0N (dblN (W (t + 1)).toNat) (W (t + 1)).toNat + (W (t + 9)).toNat + lil1N (dblN (W (t + 14)).toNat) (W (t + 14)).toNat) % 4294967296 = (W (t + 16)).toNat := by
   rw [hW t, add_nat, add_nat, add_nat, ← h3, ← h4]
   omega
  unfold rndsN
  simp only [fo_is]
  show rndsN q ks (W (t + 1)).toNat (W (t + 2)).toNat (W (t + 3)).toNat (W (t + 4)).toNat (W (t + 5)).toNat (W (t + 6)).toNat (W (t + 7)).toNat (W (t + 8)).toNat (W (t + 9)).toNat (W (t + 10)).toNat (W (t + 11)).toNat (W (t + 12)).toNat (W (t + 13)).toNat (W (t + 14)).toNat (W (t + 15)).toNat ((((W t).toNat + lil0N (dblN (W (t + 1)).toNat) (W (t + 1)).toNat + (W (t + 9)).toNat + lil1N (dblN (W (t + 14)).toNat) (W (t + 14)).toNat)) % 4294967296) (((s.h.toNat + big1N (dblN s.e.toNat) + choN s.e.toNat s.f.toNat s.g.toNat + k + (W t).toNat) + big0N (dblN s.a.toNat) + majN s.a.toNat s.b.toNat s.c.toNat) % 4294967296) s.a.toNat s.b.toNat s.c.toNat ((s.d.toNat + (s.h.toNat + big1N (dblN s.e.toNat) + choN s.e.toNat s.f.toNat s.g.toNat + k + (W t).toNat)) % 4294967296) s.e.toNat s.f.toNat s.g.toNat = _
  rw [eW, eA, eE]
  exact IH

def wordW (bs : List Nat) (i : Nat) : Wd := (sched bs (i + 1)).getD i 0
theorem sched_get (bs : List Nat) : ∀ (k i : Nat), i < k → (sched bs k).getD i 0 = wordW bs i := by
 intro k
 induction k with
 | zero => intro i hi; omega
 | succ k ih =>
  intro i hi
  by_cases h : i < k
  · rw [← ih i h]
    show (sched bs k ++ _).getD i 0 = _
    rw [List.getD_eq_getElem?_getD, List.getD_eq_getElem?_getD, List.getElem?_append_left (by rw [sched_length]; exact h)]
  · obtain rfl : i = k := by omega
    rfl
theorem wordW_low (bs : List Nat) (i : Nat) (h : i < 16) : wordW bs i = word bs i := by
 unfold wordW
 show (sched bs i ++ [nextWord bs (sched bs i) i]).getD i 0 = _
 rw [List.getD_eq_getElem?_getD, List.getElem?_append_right (by rw [sched_length]; exact Nat.le_refl _), sched_length, Nat.sub_self]
 show nextWord bs (sched bs i) i = _
 unfold nextWord
 rw [if_pos h]
theorem wordW_next (bs : List Nat) (i : Nat) : wordW bs (i + 16) = wordW bs i + lil0 (wordW bs (i + 1)) + wordW bs (i + 9) + lil1 (wordW bs (i + 14)) := by
 have e : wordW bs (i + 16) = nextWord bs (sched bs (i + 16)) (i + 16) := by
  unfold wordW
  show (sched bs (i + 16) ++ [nextWord bs (sched bs (i + 16)) (i + 16)]).getD (i + 16) 0 = _
  rw [List.getD_eq_getElem?_getD, List.getElem?_append_right (by rw [sched_length]; exact Nat.le_refl _), sched_length, Nat.sub_self]
  rfl
 rw [e]
 unfold nextWord
 rw [if_neg (by omega), show i + 16 - 16 = i by omega, show i + 16 - 15 = i + 1 by omega, show i + 16 - 7 = i + 9 by omega, show i + 16 - 2 = i + 14 by omega, sched_get bs _ i (by omega), sched_get bs _ (i + 1) (by omega), sched_get bs _ (i + 9) (by omega), sched_get bs _ (i + 14) (by omega)]

theorem mix_isN (S0 S1 S2 S3 S4 S5 S6 S7 : Wd) (bs : List Nat) : ∃ N0 N1 N2 N3 N4 N5 N6 N7 : Wd, mixF KS [S0, S1, S2, S3, S4, S5, S6, S7] bs = [N0, N1, N2, N3, N4, N5, N6, N7] ∧ ∀ (α : Type) (q : Nat → Nat → Nat → Nat → Nat → Nat → Nat → Nat → α), mixN ks64 q S0.toNat S1.toNat S2.toNat S3.toNat S4.toNat S5.toNat S6.toNat S7.toNat (word bs 0).toNat (word bs 1).toNat (word bs 2).toNat (word bs 3).toNat (word bs 4).toNat (word bs 5).toNat (word bs 6).toNat (word bs 7).toNat (word bs 8).toNat (word bs 9).toNat (word bs 10).toNat (word bs 11).toNat (word bs 12).toNat (word bs 13).toNat (word bs 14).toNat (word bs 15).toNat = q N0.toNat N1.toNat N2.toNat N3.toNat N4.toNat N5.toNat N6.toNat N7.toNat := by
 obtain ⟨r, hr⟩ : ∃ r, r = rndF (fun i => KS.getD i 0) (wordW bs) ⟨S0, S1, S2, S3, S4, S5, S6, S7⟩ 0 64 := ⟨_, rfl⟩
 refine ⟨S0 + r.a, S1 + r.b, S2 + r.c, S3 + r.d, S4 + r.e, S5 + r.f, S6 + r.g, S7 + r.h, ?_, fun α q => ?_⟩
 · unfold mixF
   have e : St.of [S0, S1, S2, S3, S4, S5, S6, S7] = ⟨S0, S1, S2, S3, S4, S5, S6, S7⟩ := rfl
   rw [e, rndF_is KS (sched bs 64) (wordW bs) _ 64 (fun i hi => sched_get bs 64 i hi), ← hr]
   rfl
 · have h := rnds_is (fun a b c d e f g h => fo (Nat.mod (Nat.add S0.toNat a) 4294967296) fun n0 => fo (Nat.mod (Nat.add S1.toNat b) 4294967296) fun n1 => fo (Nat.mod (Nat.add S2.toNat c) 4294967296) fun n2 => fo (Nat.mod (Nat.add S3.toNat d) 4294967296) fun n3 => fo (Nat.mod (Nat.add S4.toNat e) 4294967296) fun n4 => fo (Nat.mod (Nat.add S5.toNat f) 4294967296) fun n5 => fo (Nat.mod (Nat.add S6.toNat g) 4294967296) fun n6 => fo (Nat.mod (Nat.add S7.toNat h) 4294967296) fun n7 => q n0 n1 n2 n3 n4 n5 n6 n7) (fun i => KS.getD i 0) (wordW bs) (wordW_next bs) ks64 0 ⟨S0, S1, S2, S3, S4, S5, S6, S7⟩ (fun j hj => by rw [Nat.zero_add]; exact (ks_nat j hj).symm)
   have hl : ks64.length = 64 := rfl
   rw [hl, ← hr] at h
   simp only [Nat.zero_add] at h
   rw [wordW_low bs 0 (by decide), wordW_low bs 1 (by decide), wordW_low bs 2 (by decide), wordW_low bs 3 (by decide), wordW_low bs 4 (by decide), wordW_low bs 5 (by decide), wordW_low bs 6 (by decide), wordW_low bs 7 (by decide), wordW_low bs 8 (by decide), wordW_low bs 9 (by decide), wordW_low bs 10 (by decide), wordW_low bs 11 (by decide), wordW_low bs 12 (by decide), wordW_low bs 13 (by decide), wordW_low bs 14 (by decide), wordW_low bs 15 (by decide)] at h
   unfold mixN
   refine h.trans ?_
   simp only [fo_is]
   rw [add_nat S0 r.a, add_nat S1 r.b, add_nat S2 r.c, add_nat S3 r.d, add_nat S4 r.e, add_nat S5 r.f, add_nat S6 r.g, add_nat S7 r.h]
   rfl
theorem word4 (x : Wd) (bs : List Nat) (i : Nat) (h : word bs i = BitVec.ofNat 32 (((x.toNat / 16777216 * 256 + x.toNat / 65536 % 256) * 256 + x.toNat / 256 % 256) * 256 + x.toNat % 256)) : word bs i = x := by
 rw [h]
 apply BitVec.eq_of_toNat_eq
 rw [BitVec.toNat_ofNat]
 have := x.isLt
 omega
theorem eight_hi (n : Nat) (h : n < 18446744073709551616) (bs : List Nat) (i : Nat) (e : word bs i = BitVec.ofNat 32 (((n / 2 ^ 56 % 256 * 256 + n / 2 ^ 48 % 256) * 256 + n / 2 ^ 40 % 256) * 256 + n / 2 ^ 32 % 256)) : (word bs i).toNat = n / 4294967296 := by
 rw [e, BitVec.toNat_ofNat]
 omega
theorem eight_lo (n : Nat) (bs : List Nat) (i : Nat) (e : word bs i = BitVec.ofNat 32 (((n / 2 ^ 24 % 256 * 256 + n / 2 ^ 16 % 256) * 256 + n / 2 ^ 8 % 256) * 256 + n / 2 ^ 0 % 256)) : (word bs i).toNat = n % 4294967296 := by
 rw [e, BitVec.toNat_ofNat]
 omega
theorem ss_lit : SS = [1779033703#32, 3144134277#32, 1013904242#32, 2773480762#32, 1359893119#32, 2600822924#32, 528734635#32, 1541459225#32] := by decide
theorem node_is (L0 L1 L2 L3 L4 L5 L6 L7 R0 R1 R2 R3 R4 R5 R6 R7 : Wd) (ls rs : Nat) (hl : ls < 18446744073709551616) (hr : rs < 18446744073709551616) : ∃ N0 N1 N2 N3 N4 N5 N6 N7 : Wd, digest KS SS ([L0, L1, L2, L3, L4, L5, L6, L7].flatMap bytesOf ++ eight ls ++ ([R0, R1, R2, R3, R4, R5, R6, R7].flatMap bytesOf ++ eight rs)) = [N0, N1, N2, N3, N4, N5, N6, N7].flatMap bytesOf ∧
   ∀ (α : Type) (q : Nat → Nat → Nat → Nat → Nat → Nat → Nat → Nat → α), nodeN q L0.toNat L1.toNat L2.toNat L3.toNat L4.toNat L5.toNat L6.toNat L7.toNat (ls / 4294967296) (ls % 4294967296) R0.toNat R1.toNat R2.toNat R3.toNat R4.toNat R5.toNat R6.toNat R7.toNat (rs / 4294967296) (rs % 4294967296) = q N0.toNat N1.toNat N2.toNat N3.toNat N4.toNat N5.toNat N6.toNat N7.toNat := by
 obtain ⟨m, hm⟩ : ∃ m, m = ([L0, L1, L2, L3, L4, L5, L6, L7].flatMap bytesOf ++ eight ls ++ ([R0, R1, R2, R3, R4, R5, R6, R7].flatMap bytesOf ++ eight rs)) := ⟨_, rfl⟩
 have hlen : m.length = 80 := by rw [hm]; kernel_rfl
 have a0 : word (m.take 64) 0 = L0 := word4 _ _ _ (by rw [hm]; kernel_rfl)
 have a1 : word (m.take 64) 1 = L1 := word4 _ _ _ (by rw [hm]; kernel_rfl)
 have a2 : word (m.take 64) 2 = L2 := word4 _ _ _ (by rw [hm]; kernel_rfl)
 have a3 : word (m.take 64) 3 = L3 := word4 _ _ _ (by rw [hm]; kernel_rfl)
 have a4 : word (m.take 64) 4 = L4 := word4 _ _ _ (by rw [hm]; kernel_rfl)
 have a5 : word (m.take 64) 5 = L5 := word4 _ _ _ (by rw [hm]; kernel_rfl)
 have a6 : word (m.take 64) 6 = L6 := word4 _ _ _ (by rw [hm]; kernel_rfl)
 have a7 : word (m.take 64) 7 = L7 := word4 _ _ _ (by rw [hm]; kernel_rfl)
 have a8 : (word (m.take 64) 8).toNat = ls / 4294967296 := eight_hi ls hl _ _ (by rw [hm]; kernel_rfl)
 have a9 : (word (m.take 64) 9).toNat = ls % 4294967296 := eight_lo ls _ _ (by rw [hm]; kernel_rfl)
 have a10 : word (m.take 64) 10 = R0 := word4 _ _ _ (by rw [hm]; kernel_rfl)
 have a11 : word (m.take 64) 11 = R1 := word4 _ _ _ (by rw [hm]; kernel_rfl)
 have a12 : word (m.take 64) 12 = R2 := word4 _ _ _ (by rw [hm]; kernel_rfl)
 have a13 : word (m.take 64) 13 = R3 := word4 _ _ _ (by rw [hm]; kernel_rfl)
 have a14 : word (m.take 64) 14 = R4 := word4 _ _ _ (by rw [hm]; kernel_rfl)
 have a15 : word (m.take 64) 15 = R5 := word4 _ _ _ (by rw [hm]; kernel_rfl)
 obtain ⟨t, ht⟩ : ∃ t, t = tailOf (m.drop 64) 80 := ⟨_, rfl⟩
 have htl : t.length = 64 := by rw [ht, hm]; kernel_rfl
 have b0 : word (t.take 64) 0 = R6 := word4 _ _ _ (by rw [ht, hm]; kernel_rfl)
 have b1 : word (t.take 64) 1 = R7 := word4 _ _ _ (by rw [ht, hm]; kernel_rfl)
 have b2 : (word (t.take 64) 2).toNat = rs / 4294967296 := eight_hi rs hr _ _ (by rw [ht, hm]; kernel_rfl)
 have b3 : (word (t.take 64) 3).toNat = rs % 4294967296 := eight_lo rs _ _ (by rw [ht, hm]; kernel_rfl)
 have b4 : (word (t.take 64) 4).toNat = 2147483648 := by rw [ht, hm]; kernel_rfl
 have b5 : (word (t.take 64) 5).toNat = 0 := by rw [ht, hm]; kernel_rfl
 have b6 : (word (t.take 64) 6).toNat = 0 := by rw [ht, hm]; kernel_rfl
 have b7 : (word (t.take 64) 7).toNat = 0 := by rw [ht, hm]; kernel_rfl
 have b8 : (word (t.take 64) 8).toNat = 0 := by rw [ht, hm]; kernel_rfl
 have b9 : (word (t.take 64) 9).toNat = 0 := by rw [ht, hm]; kernel_rfl
 have b10 : (word (t.take 64) 10).toNat = 0 := by rw [ht, hm]; kernel_rfl
 have b11 : (word (t.take 64) 11).toNat = 0 := by rw [ht, hm]; kernel_rfl
 have b12 : (word (t.take 64) 12).toNat = 0 := by rw [ht, hm]; kernel_rfl
 have b13 : (word (t.take 64) 13).toNat = 0 := by rw [ht, hm]; kernel_rfl
 have b14 : (word (t.take 64) 14).toNat = 0 := by rw [ht, hm]; kernel_rfl
 have b15 : (word (t.take 64) 15).toNat = 640 := by rw [ht, hm]; kernel_rfl
 obtain ⟨T0, T1, T2, T3, T4, T5, T6, T7, h1, q1⟩ := mix_isN 1779033703#32 3144134277#32 1013904242#32 2773480762#32 1359893119#32 2600822924#32 528734635#32 1541459225#32 (m.take 64)
 obtain ⟨N0, N1, N2, N3, N4, N5, N6, N7, h2, q2⟩ := mix_isN T0 T1 T2 T3 T4 T5 T6 T7 (t.take 64)
 refine ⟨N0, N1, N2, N3, N4, N5, N6, N7, ?_, fun α q => ?_⟩
 · rw [← hm]
   have e1 : eat KS (m.length / 64) SS m = mixF KS SS (m.take 64) := by rw [hlen]; rfl
   have e2 : tailOf (m.drop (64 * (m.length / 64))) m.length = t := by rw [hlen, ht]
   unfold digest
   rw [e1, e2, ss_lit, h1]
   show (eat KS (t.length / 64) [T0, T1, T2, T3, T4, T5, T6, T7] t).flatMap bytesOf = _
   rw [htl]
   show (mixF KS [T0, T1, T2, T3, T4, T5, T6, T7] (t.take 64)).flatMap bytesOf = _
   rw [h2]
 · have r2 := q2 α q
   rw [b0, b1, b2, b3, b4, b5, b6, b7, b8, b9, b10, b11, b12, b13, b14, b15] at r2
   have r1 := q1 α (fun s0 s1 s2 s3 s4 s5 s6 s7 => mixN ks64 q s0 s1 s2 s3 s4 s5 s6 s7 R6.toNat R7.toNat (rs / 4294967296) (rs % 4294967296) 2147483648 0 0 0 0 0 0 0 0 0 0 640)
   rw [a0, a1, a2, a3, a4, a5, a6, a7, a8, a9, a10, a11, a12, a13, a14, a15] at r1
   exact r1.trans r2
end Go.Proofs.YtknfbccbdiidjaaGreatDoor
