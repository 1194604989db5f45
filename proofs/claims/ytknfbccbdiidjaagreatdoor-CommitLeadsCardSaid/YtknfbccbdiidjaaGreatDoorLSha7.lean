/- The digest as a plain function: words of 32 bits, a block mixed into a state, the digest of bytes; how the machine's operations on u32 are those on words. -/
import Derived.Test.YtknfbccbdiidjaaGreatDoorWu
import Derived.Test.YtknfbccbdiidjaaGreatDoorLMem
import Derived.ChangeKeysEq
import Derived.BigRegion
namespace Go.Proofs.YtknfbccbdiidjaaGreatDoor
set_option linter.unusedVariables false
set_option linter.unusedSimpArgs false

abbrev Wd := BitVec 32
def rotr (n : Nat) (x : Wd) : Wd := (x <<< (32 - n)) ||| (x >>> n)
def lil0 (x : Wd) : Wd := rotr 7 x ^^^ rotr 18 x ^^^ (x >>> 3)
def lil1 (x : Wd) : Wd := rotr 17 x ^^^ rotr 19 x ^^^ (x >>> 10)
def big0 (x : Wd) : Wd := rotr 2 x ^^^ rotr 13 x ^^^ rotr 22 x
def big1 (x : Wd) : Wd := rotr 6 x ^^^ rotr 11 x ^^^ rotr 25 x
def cho (e f g : Wd) : Wd := (e &&& f) ^^^ (~~~e &&& g)
def maj (a b c : Wd) : Wd := (a &&& b) ^^^ (a &&& c) ^^^ (b &&& c)
def word (bs : List Nat) (i : Nat) : Wd := BitVec.ofNat 32 (((bs.getD (4 * i) 0 * 256 + bs.getD (4 * i + 1) 0) * 256 + bs.getD (4 * i + 2) 0) * 256 + bs.getD (4 * i + 3) 0)
def nextWord (bs : List Nat) (l : List Wd) (k : Nat) : Wd :=
 if k < 16 then word bs k else l.getD (k - 16) 0 + lil0 (l.getD (k - 15) 0) + l.getD (k - 7) 0 + lil1 (l.getD (k - 2) 0)
def sched (bs : List Nat) : Nat → List Wd
 | 0 => []
 | k + 1 => sched bs k ++ [nextWord bs (sched bs k) k]
structure St where
 (a b c d e f g h : Wd)
def St.list (s : St) : List Wd := [s.a, s.b, s.c, s.d, s.e, s.f, s.g, s.h]
def St.of (l : List Wd) : St := ⟨l.getD 0 0, l.getD 1 0, l.getD 2 0, l.getD 3 0, l.getD 4 0, l.getD 5 0, l.getD 6 0, l.getD 7 0⟩
def tee (s : St) (k w : Wd) : Wd := s.h + big1 s.e + cho s.e s.f s.g + k + w
def you (s : St) : Wd := big0 s.a + maj s.a s.b s.c
def rnd (s : St) (k w : Wd) : St := ⟨tee s k w + you s, s.a, s.b, s.c, s.d + tee s k w, s.e, s.f, s.g⟩
def rnds (K ws : List Wd) (s : St) : Nat → St
 | 0 => s
 | k + 1 => rnd (rnds K ws s k) (K.getD k 0) (ws.getD k 0)
def addTo (s t : List Wd) (k : Nat) : List Wd := (List.range 8).map fun i => if i < k then s.getD i 0 + t.getD i 0 else s.getD i 0
def mixF (K s : List Wd) (bs : List Nat) : List Wd := addTo s (rnds K (sched bs 64) (St.of s) 64).list 8
def eat (K : List Wd) : Nat → List Wd → List Nat → List Wd
 | 0, s, _ => s
 | k + 1, s, m => eat K k (mixF K s (m.take 64)) (m.drop 64)
def eight (n : Nat) : List Nat := (List.range 8).map fun i => n / 2 ^ (8 * (7 - i)) % 256
def tailOf (rest : List Nat) (n : Nat) : List Nat :=
 rest ++ 128 :: (List.replicate ((if rest.length < 56 then 64 else 128) - 9 - rest.length) 0 ++ eight (8 * n))
def bytesOf (x : Wd) : List Nat := [x.toNat / 16777216, x.toNat / 65536 % 256, x.toNat / 256 % 256, x.toNat % 256]
def digest (K s0 : List Wd) (m : List Nat) : List Nat :=
 let s := eat K (m.length / 64) s0 m
 let t := tailOf (m.drop (64 * (m.length / 64))) m.length
 (eat K (t.length / 64) s t).flatMap bytesOf

theorem sched_length (bs : List Nat) (k : Nat) : (sched bs k).length = k := by
 induction k with
 | zero => rfl
 | succ k ih => simp [sched, ih]
theorem addTo_length (s t : List Wd) (k : Nat) : (addTo s t k).length = 8 := by simp [addTo]
theorem mixF_length (K s : List Wd) (bs : List Nat) : (mixF K s bs).length = 8 := addTo_length _ _ _
theorem addTo_zero (s t : List Wd) (h : s.length = 8) : addTo s t 0 = s := by
 apply List.ext_getElem
 · simp [addTo, h]
 · intro i h1 h2
   simp [addTo, h2]
theorem addTo_set (s t : List Wd) (k : Nat) (hk : k < 8) : (addTo s t k).set k (s.getD k 0 + t.getD k 0) = addTo s t (k + 1) := by
 apply List.ext_getElem?
 intro i
 simp only [addTo, List.getElem?_set, List.length_map, List.length_range, List.getElem?_map]
 by_cases h : k = i
 · subst h; simp [hk]
 · rw [if_neg h]
   by_cases h8 : i < 8
   · simp only [List.getElem?_range h8, Option.map_some]
     by_cases h2 : i < k
     · rw [if_pos h2, if_pos (by omega)]
     · rw [if_neg h2, if_neg (by omega)]
   · simp [h8]
theorem eat_length (K s : List Wd) (hs : s.length = 8) (k : Nat) (m : List Nat) : (eat K k s m).length = 8 := by
 induction k generalizing s m with
 | zero => exact hs
 | succ k ih => exact ih _ (mixF_length _ _ _) _
theorem eat_add (K s : List Wd) (j k : Nat) (m : List Nat) : eat K (j + k) s m = eat K k (eat K j s m) (m.drop (64 * j)) := by
 induction j generalizing s m with
 | zero => simp [eat]
 | succ j ih =>
  rw [Nat.succ_add]
  simp only [eat]
  rw [ih, List.drop_drop]
  congr 2
  omega
theorem eat_append (K s : List Wd) (k : Nat) (m b : List Nat) (h : 64 * k ≤ m.length) : eat K k s (m ++ b) = eat K k s m := by
 induction k generalizing s m with
 | zero => rfl
 | succ k ih =>
  simp only [eat]
  rw [List.take_append_of_le_length (by omega), List.drop_append_of_le_length (by omega), ih _ _ (by simp; omega)]
theorem eight_length (n : Nat) : (eight n).length = 8 := by simp [eight]
theorem tailOf_length (rest : List Nat) (n : Nat) (h : rest.length < 64) : (tailOf rest n).length = if rest.length < 56 then 64 else 128 := by
 unfold tailOf
 simp only [List.length_append, List.length_cons, List.length_replicate, eight_length]
 split <;> omega
theorem digest_length (K s0 : List Wd) (hs : s0.length = 8) (m : List Nat) : (digest K s0 m).length = 32 := by
 unfold digest
 have h8 := eat_length K (eat K (m.length / 64) s0 m) (eat_length K s0 hs _ _) ((tailOf (m.drop (64 * (m.length / 64))) m.length).length / 64) (tailOf (m.drop (64 * (m.length / 64))) m.length)
 simp only [List.length_flatMap]
 generalize eat K _ (eat K (m.length / 64) s0 m) _ = l at h8
 match l, h8 with
 | [_, _, _, _, _, _, _, _], _ => rfl
theorem digest_hash (K s0 : List Wd) (hs : s0.length = 8) (m : List Nat) : IsHash (digest K s0 m) := by
 refine ⟨digest_length K s0 hs m, fun k hk => ?_⟩
 unfold digest at hk
 obtain ⟨x, _, hx⟩ := List.mem_flatMap.1 hk
 have := x.isLt
 simp only [bytesOf, List.mem_cons, List.not_mem_nil, or_false] at hx
 omega

/-! the machine's operations on u32 -/
theorem of32 (x : Wd) : BitVec.ofInt IntKind.u32.bits (x.toNat : Int) = x := by
 show BitVec.ofInt 32 (x.toNat : Int) = x
 rw [BitVec.ofInt_natCast]
 simp
theorem wrap_nat (n : Nat) : IntKind.u32.wrap (n : Int) = ((n % 4294967296 : Nat) : Int) := by rw [IntKind.wrap_u32]; omega
theorem wrap_wd (x : Wd) : IntKind.u32.wrap (x.toNat : Int) = (x.toNat : Int) := by
 rw [wrap_nat, Nat.mod_eq_of_lt x.isLt]
theorem xor_wd (x y : Wd) : bits .xor .u32 (x.toNat : Int) (y.toNat : Int) = ((x ^^^ y).toNat : Int) := by
 unfold bits
 simp only [of32]
 exact wrap_wd (x ^^^ y)
theorem and_wd (x y : Wd) : bits .and .u32 (x.toNat : Int) (y.toNat : Int) = ((x &&& y).toNat : Int) := by
 unfold bits
 simp only [of32]
 exact wrap_wd (x &&& y)
theorem or_wd (x y : Wd) : bits .or .u32 (x.toNat : Int) (y.toNat : Int) = ((x ||| y).toNat : Int) := by
 unfold bits
 simp only [of32]
 exact wrap_wd (x ||| y)
theorem add_wd (x y : Wd) : ((x.toNat : Int) + (y.toNat : Int)) % 4294967296 = ((x + y).toNat : Int) := by
 rw [BitVec.toNat_add]; omega
theorem wadd_wd (x y : Wd) : IntKind.u32.wrap ((x.toNat : Int) + (y.toNat : Int)) = ((x + y).toNat : Int) := by
 rw [IntKind.wrap_u32]; exact add_wd x y
theorem shl_wd (x : Wd) (n : Nat) : ((x.toNat : Int) * 2 ^ n) % 4294967296 = ((x <<< n).toNat : Int) := by
 rw [BitVec.toNat_shiftLeft, Nat.shiftLeft_eq]
 have : ((x.toNat : Int) * 2 ^ n) = ((x.toNat * 2 ^ n : Nat) : Int) := by rw [Int.natCast_mul, Int.natCast_pow]; rfl
 rw [this]; omega
theorem shr_wd (x : Wd) (n : Nat) : (x.toNat : Int) / 2 ^ n = ((x >>> n).toNat : Int) := by
 rw [BitVec.toNat_ushiftRight, Nat.shiftRight_eq_div_pow, Int.natCast_ediv, Int.natCast_pow]; rfl
theorem not_wd (x : Wd) : 4294967295 - (x.toNat : Int) = ((~~~x).toNat : Int) := by
 rw [BitVec.toNat_not]; have := x.isLt; omega

theorem lil0_num (x : Wd) : bits .xor .u32 (bits .xor .u32 ((rotr 7 x).toNat : Int) ((rotr 18 x).toNat : Int)) ((x.toNat : Int) / 8) = ((lil0 x).toNat : Int) := by
 have h := shr_wd x 3
 simp only [show (2 : Int) ^ 3 = 8 from rfl] at h
 rw [h, xor_wd, xor_wd]; rfl
theorem lil1_num (x : Wd) : bits .xor .u32 (bits .xor .u32 ((rotr 17 x).toNat : Int) ((rotr 19 x).toNat : Int)) ((x.toNat : Int) / 1024) = ((lil1 x).toNat : Int) := by
 have h := shr_wd x 10
 simp only [show (2 : Int) ^ 10 = 1024 from rfl] at h
 rw [h, xor_wd, xor_wd]; rfl
theorem big0_num (x : Wd) : bits .xor .u32 (bits .xor .u32 ((rotr 2 x).toNat : Int) ((rotr 13 x).toNat : Int)) ((rotr 22 x).toNat : Int) = ((big0 x).toNat : Int) := by
 rw [xor_wd, xor_wd]; rfl
theorem big1_num (x : Wd) : bits .xor .u32 (bits .xor .u32 ((rotr 6 x).toNat : Int) ((rotr 11 x).toNat : Int)) ((rotr 25 x).toNat : Int) = ((big1 x).toNat : Int) := by
 rw [xor_wd, xor_wd]; rfl
theorem maj_num (a b c : Wd) : bits .xor .u32 (bits .xor .u32 (bits .and .u32 (a.toNat : Int) (b.toNat : Int)) (bits .and .u32 (a.toNat : Int) (c.toNat : Int))) (bits .and .u32 (b.toNat : Int) (c.toNat : Int)) = ((maj a b c).toNat : Int) := by
 rw [and_wd, and_wd, and_wd, xor_wd, xor_wd]; rfl
theorem notx_wd (x : Wd) : bits .xor .u32 IntKind.u32.max (x.toNat : Int) = ((~~~x).toNat : Int) := by
 have e : IntKind.u32.max = ((BitVec.allOnes 32).toNat : Int) := by decide
 rw [e, xor_wd, BitVec.allOnes_xor]
theorem cho_num (e f g : Wd) : bits .xor .u32 (bits .and .u32 (e.toNat : Int) (f.toNat : Int)) (bits .and .u32 (bits .xor .u32 IntKind.u32.max (e.toNat : Int)) (g.toNat : Int)) = ((cho e f g).toNat : Int) := by
 rw [notx_wd, and_wd, and_wd, xor_wd]; rfl
theorem add4_num (a b c d : Wd) : ((a.toNat : Int) + (b.toNat : Int) + (c.toNat : Int) + (d.toNat : Int)) % 4294967296 = ((a + b + c + d).toNat : Int) := by
 simp only [BitVec.toNat_add]; omega
theorem add5_num (a b c d e : Wd) : ((a.toNat : Int) + (b.toNat : Int) + (c.toNat : Int) + (d.toNat : Int) + (e.toNat : Int)) % 4294967296 = ((a + b + c + d + e).toNat : Int) := by
 simp only [BitVec.toNat_add]; omega

theorem or_low (a b i : Nat) (h : b < 2 ^ i) : a * 2 ^ i ||| b = a * 2 ^ i + b := by
 rw [← Nat.shiftLeft_eq, Nat.shiftLeft_add_eq_or_of_lt h]
theorem small_wd (n : Nat) (h : n < 4294967296) : (n : Int) = ((BitVec.ofNat 32 n).toNat : Int) := by
 rw [BitVec.toNat_ofNat, Nat.mod_eq_of_lt h]
theorem or_nat (a b : Nat) (ha : a < 4294967296) (hb : b < 4294967296) : bits .or .u32 (a : Int) (b : Int) = ((a ||| b : Nat) : Int) := by
 rw [small_wd a ha, small_wd b hb, or_wd, BitVec.toNat_or, BitVec.toNat_ofNat, BitVec.toNat_ofNat, Nat.mod_eq_of_lt ha, Nat.mod_eq_of_lt hb]
theorem word_num (b0 b1 b2 b3 : Nat) (l0 : b0 < 256) (l1 : b1 < 256) (l2 : b2 < 256) (l3 : b3 < 256) :
  bits .or .u32 (bits .or .u32 (bits .or .u32 ((b0 : Int) * 16777216) ((b1 : Int) * 65536)) ((b2 : Int) * 256)) (b3 : Int) = ((BitVec.ofNat 32 (((b0 * 256 + b1) * 256 + b2) * 256 + b3)).toNat : Int) := by
 have e2 := or_low (b0 * 256 + b1) (b2 * 256) 16 (by omega)
 have e3 := or_low ((b0 * 256 + b1) * 256 + b2) b3 8 (by omega)
 rw [show (b0 : Int) * 16777216 = ((b0 * 16777216 : Nat) : Int) by omega, show (b1 : Int) * 65536 = ((b1 * 65536 : Nat) : Int) by omega, show (b2 : Int) * 256 = ((b2 * 256 : Nat) : Int) by omega]
 have f1 := or_low b0 (b1 * 65536) 24 (by omega)
 rw [or_nat _ _ (by omega) (by omega), show b0 * 16777216 = b0 * 2 ^ 24 by omega, f1, or_nat _ _ (by omega) (by omega),
  show b0 * 2 ^ 24 + b1 * 65536 = (b0 * 256 + b1) * 2 ^ 16 by omega, e2, or_nat _ _ (by omega) (by omega),
  show (b0 * 256 + b1) * 2 ^ 16 + b2 * 256 = ((b0 * 256 + b1) * 256 + b2) * 2 ^ 8 by omega, e3, ← small_wd _ (by omega)]

def wcells (ws : List Wd) : List Value := ws.map fun x => Value.int .u32 (x.toNat : Int)
theorem wcells_length (ws : List Wd) : (wcells ws).length = ws.length := by simp [wcells]
theorem wcells_get (ws : List Wd) (i : Nat) (h : i < ws.length) : (wcells ws)[i]? = some (.int .u32 ((ws.getD i 0).toNat : Int)) := by
 simp [wcells, h]
theorem wcells_set (ws : List Wd) (i : Nat) (x : Wd) : (wcells ws).set i (.int .u32 (x.toNat : Int)) = wcells (ws.set i x) := by
 simp [wcells, List.map_set]
def schedTo (bs : List Nat) (k : Nat) : List Wd := sched bs k ++ List.replicate (64 - k) 0
theorem schedTo_length (bs : List Nat) (k : Nat) (h : k ≤ 64) : (schedTo bs k).length = 64 := by simp [schedTo, sched_length]; omega
theorem schedTo_set (bs : List Nat) (k : Nat) (h : k < 64) : (schedTo bs k).set k (nextWord bs (sched bs k) k) = schedTo bs (k + 1) := by
 unfold schedTo
 rw [List.set_append_right _ _ (by rw [sched_length]; exact Nat.le_refl _), sched_length, Nat.sub_self]
 obtain ⟨m, hm⟩ : ∃ m, 64 - k = m + 1 := ⟨63 - k, by omega⟩
 rw [hm, List.replicate_succ, List.set_cons_zero, sched, List.append_assoc]
 have : 64 - (k + 1) = m := by omega
 rw [this]; rfl
theorem schedTo_get (bs : List Nat) (k i : Nat) (h : i < k) : (schedTo bs k).getD i 0 = (sched bs k).getD i 0 := by
 simp [schedTo, List.getD_eq_getElem?_getD, List.getElem?_append_left (show i < (sched bs k).length by rw [sched_length]; exact h)]
theorem schedTo_full (bs : List Nat) : schedTo bs 64 = sched bs 64 := by simp [schedTo]

/- The walk of bits.RotateLeft32, as sha uses it: to the right. -/
open Go.ChangeShapes Go.WideShapes Go.ChangeAt Go.RowKit

theorem turn_by : ∀ n : Fin 31, bits .and .u64 (IntKind.u64.wrap (-((n.val + 1 : Nat) : Int))) 31 = ((31 - n.val : Nat) : Int) := of_decide_eq_true (by kernel_rfl)

theorem rot_is (w : World) (x : Wd) (k : Int) (n : Nat) (hn : 0 < n) (hn2 : n < 32) (hk : k = -(n : Int)) :
  Calls Tryz.prog 127 #[.int .u32 (x.toNat : Int), .int .i64 k] w fun e w' => e = .returned (.int .u32 ((rotr n x).toNat : Int)) ∧ w' = w := by
 have ht := turn_by ⟨n - 1, by omega⟩
 simp only [Nat.sub_add_cancel hn] at ht
 rw [← hk] at ht
 have e1 : 31 - (n - 1) = 32 - n := by omega
 rw [e1] at ht
 clear hk
 go_enter Tryz.func127, Tryz.ntmps127
 go_wp2
 go_ret
 refine ⟨ret_int ?_, rfl⟩
 have e2 : 32 - (32 - n) = n := by omega
 unfold rotr
 rw [e2, shl_wd, shr_wd, or_wd]

theorem index_row {t e : TypeId} {n : Nat} {X : Array Value} {k : Nat} {v : Value} (ht : Tryz.prog.underlying t = some (.array n e)) (i0 : TypeInfo) (hi : Tryz.prog.info? e = some i0) (hc : Tryz.prog.cellsOf e = 1) (hp : Tryz.prog.plainKey e = true) (hk : k < n) (hx : X[k]? = some v) (w : World) :
  (Instr.index t (.agg X) (.int .i64 k)).run Tryz.prog w = .ok v w := by
 have h1 := run_sizeOf (w := w) hi
 rw [hc] at h1
 have h2 := run_part_plain (w := w) hp (xs := X) (off := k * 1) (by rw [Nat.mul_one]; exact hx)
 simp [Instr.index, run_underlying ht, asIntOf, hk, h1, Result.andThen]
 simpa using h2

/- The walk of sha.mix: a block of 64 bytes, mixed into a state. -/

structure Tabs (K s0 : List Wd) (w : World) : Prop where
 k : ∀ i, i < 64 → w.cell? ⟨2, i, none⟩ = some (.int .u32 ((K.getD i 0).toNat : Int))
 s : ∀ i, i < 8 → w.cell? ⟨1, i, none⟩ = some (.int .u32 ((s0.getD i 0).toNat : Int))
 low : 2 + 1 ≤ w.heap.size
 len : s0.length = 8

theorem cell_kept {S : Nat → Prop} {w w' : World} (hk : Kept S w w') {a : Addr} {v : Value} (h : w.cell? a = some v) (hs : ¬ S a.block) : w'.cell? a = some v := by
 have := World.block_lt_of_cell? w _ h
 unfold World.cell? at h ⊢
 rw [hk.block _ this hs]; exact h

theorem Tabs.kept {K s0 : List Wd} {S : Nat → Prop} {w w' : World} (h : Tabs K s0 w) (hk : Kept S w w') (hs : ∀ k, S k → 2 + 1 ≤ k) : Tabs K s0 w' :=
 ⟨fun i hi => cell_kept hk (h.k i hi) (fun e => by have := hs _ e; dsimp only at this; omega), fun i hi => cell_kept hk (h.s i hi) (fun e => by have := hs _ e; dsimp only at this; omega), Nat.le_trans h.low hk.size, h.len⟩
theorem Tabs.below {K s0 : List Wd} {B : Nat} {w w' : World} (h : Tabs K s0 w) (hb : Below B w w') (hB : 2 + 1 ≤ B) : Tabs K s0 w' := by
 have hk : Kept (fun k => B ≤ k) w w' := ⟨hb.os, hb.tape, hb.output, hb.size, fun k _ hn => hb.block k (by omega)⟩
 exact h.kept hk (fun k hk => Nat.le_trans hB hk)

theorem info_u32 : (Tryz.prog.info? 52).map (fun i => (i.zero, i.size, i.bytes)) = some (some (.int .u32 0), 1, 4) := by kernel_rfl

set_option maxRecDepth 100000 in
set_option maxHeartbeats 2000000 in
theorem mix_is (K s0 : List Wd) (w : World) (g : Nat) (t : TypeId) (s : List Wd) (rest : List Value) (bs : List Nat) (bg bo c : Nat) (hT : Tabs K s0 w) (hg : Has w g t (wcells s ++ rest).toArray) (h3 : 2 + 1 ≤ g) (hs : s.length = 8)
  (hb : ∀ i, i < 64 → w.cell? ⟨bg, bo + i, none⟩ = some (.int .u8 (bs.getD i 0 : Nat))) (hlt : ∀ i, i < 64 → bs.getD i 0 < 256) :
  Calls Tryz.prog 107 #[.pointer (some ⟨g, 0, none⟩), .slice (some ⟨bg, bo, none⟩) 64 c] w fun e w' =>
    e = .returned (.tuple #[]) ∧ Has w' g t (wcells (mixF K s bs) ++ rest).toArray ∧ Kept (· = g) w w' := by
 obtain ⟨i32, Ak, _, _, _⟩ := info_parts info_u32
 have HT := Hh hT
 have HG := Hh hg
 have HB := Hh hb
 have Ah := Hh hlt
 clear hT hg hb hlt
 go_enter Tryz.func107, Tryz.ntmps107
 go_wp2
 go_loopw [26] (fun i wr => ∃ k : Nat, k ≤ 16 ∧ i = .int .i64 k ∧ Has wr w.heap.size 54 (wcells (schedTo bs k)).toArray ∧ Kept (fun _ => False) w wr) (fun i _ => 16 - (intOf i).toNat)
 case atStart => exact ⟨0, by omega, rfl, Has.new w _ _, (Kept.refl _ _).alloc _⟩
 case round =>
  obtain ⟨k, hk, rfl, hW, hK⟩ := hrel
  have HW := Hh hW
  have HK := Hh hK
  clear hW hK
  by_cases hlt : k < 16
  · have c0 := cell_kept HK.o (HB.o (4 * k) (by omega)) (fun h => h)
    have c1 := cell_kept HK.o (HB.o (4 * k + 1) (by omega)) (fun h => h)
    have c2 := cell_kept HK.o (HB.o (4 * k + 2) (by omega)) (fun h => h)
    have c3 := cell_kept HK.o (HB.o (4 * k + 3) (by omega)) (fun h => h)
    have l0 := Ah.o (4 * k) (by omega)
    have l1 := Ah.o (4 * k + 1) (by omega)
    have l2 := Ah.o (4 * k + 2) (by omega)
    have l3 := Ah.o (4 * k + 3) (by omega)
    obtain ⟨b0, h0⟩ : ∃ b, b = bs.getD (4 * k) 0 := ⟨_, rfl⟩
    obtain ⟨b1, h1⟩ : ∃ b, b = bs.getD (4 * k + 1) 0 := ⟨_, rfl⟩
    obtain ⟨b2, h2⟩ : ∃ b, b = bs.getD (4 * k + 2) 0 := ⟨_, rfl⟩
    obtain ⟨b3, h3⟩ : ∃ b, b = bs.getD (4 * k + 3) 0 := ⟨_, rfl⟩
    rw [← h0] at c0 l0
    rw [← h1] at c1 l1
    rw [← h2] at c2 l2
    rw [← h3] at c3 l3
    have Ac := word_num b0 b1 b2 b3 l0 l1 l2 l3
    have hwd : BitVec.ofNat 32 (((b0 * 256 + b1) * 256 + b2) * 256 + b3) = word bs k := by unfold word; rw [← h0, ← h1, ← h2, ← h3]
    rw [hwd] at Ac
    clear hwd h0 h1 h2 h3
    have Ag := Hh Ac
    clear Ac
    have hf : wr.frozen? ⟨w.heap.size, k, none⟩ = false := HW.o.free k
    have Aj : wr.cell? ⟨w.heap.size, k, none⟩ = some (.int .u32 (((schedTo bs k).getD k 0).toNat : Int)) := HW.o.cell_is (by rw [List.getElem?_toArray]; exact wcells_get _ _ (by rw [schedTo_length _ _ (by omega)]; omega))
    have Aa := (HW.o.drew).set k (.int .u32 ((word bs k).toNat : Int))
    rw [List.setIfInBounds_toArray, wcells_set] at Aa
    have hnx : nextWord bs (sched bs k) k = word bs k := by unfold nextWord; rw [if_pos hlt]
    rw [← hnx, schedTo_set bs k (by omega), hnx] at Aa
    have Ab := Hh Aa
    clear Aa hnx
    go_wp2_with fail
    go_region
    go_wp2
    go_roundw
    case rel => exact ⟨k + 1, by omega, by go_num, by rw [Ag.o]; exact Ab.o, (HK.o.drew).set (.inr (Nat.le_refl _)) _⟩
    case measure => simp [intOf]; omega
  · have Ae := Hh (show k = 16 by omega)
    have Af : Hid (Has wr w.heap.size 54 (wcells (schedTo bs 16)).toArray) := by rw [← Ae.o]; exact HW
    clear HW
    go_wp2
    go_loopw [6] (fun i wr => ∃ k : Nat, 16 ≤ k ∧ k ≤ 64 ∧ i = .int .i64 k ∧ Has wr w.heap.size 54 (wcells (schedTo bs k)).toArray ∧ Kept (fun _ => False) w wr) (fun i _ => 64 - (intOf i).toNat)
    case atStart => exact ⟨16, by omega, by omega, rfl, Af.out, HK.o⟩
    case round =>
     clear Af HK
     obtain ⟨k, hk0, hk, rfl, hW, hK⟩ := hrel
     have HW := Hh hW
     have HK := Hh hK
     clear hW hK
     by_cases hlt : k < 64
     · have cellAt : ∀ i, i < k → wr.cell? ⟨w.heap.size, i, none⟩ = some (.int .u32 (((sched bs k).getD i 0).toNat : Int)) := fun i hi => by
        rw [← schedTo_get bs k i hi]
        exact HW.o.cell_is (by rw [List.getElem?_toArray]; exact wcells_get _ _ (by rw [schedTo_length _ _ (by omega)]; omega))
       have c16 := cellAt (k - 16) (by omega)
       have c15 := cellAt (k - 15) (by omega)
       have c7 := cellAt (k - 7) (by omega)
       have c2 := cellAt (k - 2) (by omega)
       clear cellAt
       obtain ⟨x16, h16⟩ : ∃ x, x = (sched bs k).getD (k - 16) 0 := ⟨_, rfl⟩
       obtain ⟨x15, h15⟩ : ∃ x, x = (sched bs k).getD (k - 15) 0 := ⟨_, rfl⟩
       obtain ⟨x7, h7⟩ : ∃ x, x = (sched bs k).getD (k - 7) 0 := ⟨_, rfl⟩
       obtain ⟨x2, h2⟩ : ∃ x, x = (sched bs k).getD (k - 2) 0 := ⟨_, rfl⟩
       rw [← h16] at c16
       rw [← h15] at c15
       rw [← h7] at c7
       rw [← h2] at c2
       have hnx : nextWord bs (sched bs k) k = x16 + lil0 x15 + x7 + lil1 x2 := by unfold nextWord; rw [if_neg (by omega), h16, h15, h7, h2]
       clear h16 h15 h7 h2
       have Aa : ∀ n, Has ((wr.drewN n).setCell ⟨w.heap.size, k, none⟩ (.int .u32 ((x16 + lil0 x15 + x7 + lil1 x2).toNat : Int))) w.heap.size 54 (wcells (schedTo bs (k + 1))).toArray := fun n => by
        have h := (HW.o.drewN n).set k (.int .u32 ((x16 + lil0 x15 + x7 + lil1 x2).toNat : Int))
        rw [List.setIfInBounds_toArray, wcells_set, ← hnx, schedTo_set bs k (by omega)] at h
        rw [← hnx]; exact h
       have Ab := Hh Aa
       clear Aa
       have Am := Hh hnx
       clear hnx
       have hf : wr.frozen? ⟨w.heap.size, k, none⟩ = false := HW.o.free k
       have Aj : wr.cell? ⟨w.heap.size, k, none⟩ = some (.int .u32 (((schedTo bs k).getD k 0).toNat : Int)) := HW.o.cell_is (by rw [List.getElem?_toArray]; exact wcells_get _ _ (by rw [schedTo_length _ _ (by omega)]; omega))
       go_wp2_with fail
       go_quiet (fail)
       go_wp2_with fail
       refine (rot_is _ x15 (-7) 7 (by decide) (by decide) (by decide)).mono ?_
       rintro _ _ ⟨rfl, rfl⟩
       go_wp2_with fail
       refine (rot_is _ x15 (-18) 18 (by decide) (by decide) (by decide)).mono ?_
       rintro _ _ ⟨rfl, rfl⟩
       go_wp2_with fail
       refine (rot_is _ x2 (-17) 17 (by decide) (by decide) (by decide)).mono ?_
       rintro _ _ ⟨rfl, rfl⟩
       go_wp2_with fail
       refine (rot_is _ x2 (-19) 19 (by decide) (by decide) (by decide)).mono ?_
       rintro _ _ ⟨rfl, rfl⟩
       go_wp2_with fail
       go_region
       go_wp2
       go_roundw
       case rel =>
        exact ⟨k + 1, by omega, by omega, by go_num, by rw [lil0_num, lil1_num, add4_num]; exact Ab.o _, (HK.o.drewN _).set (.inr (Nat.le_refl _)) _⟩
       case measure => simp [intOf]; omega
     · have Ae := Hh (show k = 64 by omega)
       have Af : Hid (Has wr w.heap.size 54 (wcells (sched bs 64)).toArray) := by rw [← schedTo_full, ← Ae.o]; exact HW
       clear HW
       have G := HG.o.kept HK.o (fun h => h)
       have cellG : ∀ i, i < 8 → wr.cell? ⟨g, i, none⟩ = some (.int .u32 ((s.getD i 0).toNat : Int)) := fun i hi =>
        G.cell_is (by rw [List.getElem?_toArray, List.getElem?_append_left (by rw [wcells_length]; omega)]; exact wcells_get _ _ (by omega))
       have g0 := cellG 0 (by decide)
       have g1 := cellG 1 (by decide)
       have g2 := cellG 2 (by decide)
       have g3 := cellG 3 (by decide)
       have g4 := cellG 4 (by decide)
       have g5 := cellG 5 (by decide)
       have g6 := cellG 6 (by decide)
       have g7 := cellG 7 (by decide)
       clear cellG G
       obtain ⟨x0, e0⟩ : ∃ x, x = s.getD 0 0 := ⟨_, rfl⟩
       obtain ⟨x1, e1⟩ : ∃ x, x = s.getD 1 0 := ⟨_, rfl⟩
       obtain ⟨x2, e2⟩ : ∃ x, x = s.getD 2 0 := ⟨_, rfl⟩
       obtain ⟨x3, e3⟩ : ∃ x, x = s.getD 3 0 := ⟨_, rfl⟩
       obtain ⟨x4, e4⟩ : ∃ x, x = s.getD 4 0 := ⟨_, rfl⟩
       obtain ⟨x5, e5⟩ : ∃ x, x = s.getD 5 0 := ⟨_, rfl⟩
       obtain ⟨x6, e6⟩ : ∃ x, x = s.getD 6 0 := ⟨_, rfl⟩
       obtain ⟨x7, e7⟩ : ∃ x, x = s.getD 7 0 := ⟨_, rfl⟩
       have Ad : Hid (rnds K (sched bs 64) (St.of s) 0 = ⟨x0, x1, x2, x3, x4, x5, x6, x7⟩) := Hh (by show St.of s = _; unfold St.of; rw [← e0, ← e1, ← e2, ← e3, ← e4, ← e5, ← e6, ← e7])
       rw [← e0] at g0
       rw [← e1] at g1
       rw [← e2] at g2
       rw [← e3] at g3
       rw [← e4] at g4
       rw [← e5] at g5
       rw [← e6] at g6
       rw [← e7] at g7
       clear e0 e1 e2 e3 e4 e5 e6 e7
       go_wp2_with fail
       go_quiet (fail)
       go_wp2_with fail
       go_loopw [140, 11, 12, 13, 14, 15, 16, 17, 18] (fun i a b c d e f g' h wr => ∃ k : Nat, k ≤ 64 ∧ i = .int .i64 k ∧
        a = .int .u32 ((rnds K (sched bs 64) (St.of s) k).a.toNat : Int) ∧ b = .int .u32 ((rnds K (sched bs 64) (St.of s) k).b.toNat : Int) ∧ c = .int .u32 ((rnds K (sched bs 64) (St.of s) k).c.toNat : Int) ∧ d = .int .u32 ((rnds K (sched bs 64) (St.of s) k).d.toNat : Int) ∧
        e = .int .u32 ((rnds K (sched bs 64) (St.of s) k).e.toNat : Int) ∧ f = .int .u32 ((rnds K (sched bs 64) (St.of s) k).f.toNat : Int) ∧ g' = .int .u32 ((rnds K (sched bs 64) (St.of s) k).g.toNat : Int) ∧ h = .int .u32 ((rnds K (sched bs 64) (St.of s) k).h.toNat : Int) ∧
        Has wr w.heap.size 54 (wcells (sched bs 64)).toArray ∧ Kept (fun _ => False) w wr) (fun i _ _ _ _ _ _ _ _ _ => 64 - (intOf i).toNat)
       case atStart => exact ⟨0, by omega, rfl, by rw [Ad.out], by rw [Ad.out], by rw [Ad.out], by rw [Ad.out], by rw [Ad.out], by rw [Ad.out], by rw [Ad.out], by rw [Ad.out], Af.out.drewN _, HK.o.drewN _⟩
       case round =>
        clear Af HK
        obtain ⟨k, hk, rfl, rfl, rfl, rfl, rfl, rfl, rfl, rfl, rfl, hW, hK⟩ := hrel
        have HW := Hh hW
        have HK := Hh hK
        clear hW hK
        by_cases hlt : k < 64
        · have hnx : rnds K (sched bs 64) (St.of s) (k + 1) = rnd (rnds K (sched bs 64) (St.of s) k) (K.getD k 0) ((sched bs 64).getD k 0) := rfl
          have ck := (HT.o.kept HK.o (fun _ h => h.elim)).k k hlt
          have cw : wr.cell? ⟨w.heap.size, k, none⟩ = some (.int .u32 (((sched bs 64).getD k 0).toNat : Int)) := HW.o.cell_is (by rw [List.getElem?_toArray]; exact wcells_get _ _ (by rw [sched_length]; omega))
          obtain ⟨kk, hkk⟩ : ∃ x, x = K.getD k 0 := ⟨_, rfl⟩
          obtain ⟨ww, hww⟩ : ∃ x, x = (sched bs 64).getD k 0 := ⟨_, rfl⟩
          rw [← hkk, ← hww] at hnx
          rw [← hkk] at ck
          rw [← hww] at cw
          clear hkk hww
          generalize rnds K (sched bs 64) (St.of s) k = S at hnx ⊢
          obtain ⟨a1, b1, c1, d1, e1, f1, g1, h1⟩ := S
          have Am := Hh hnx
          clear hnx
          go_wp2_with fail
          refine (rot_is _ e1 (-6) 6 (by decide) (by decide) (by decide)).mono ?_
          rintro _ _ ⟨rfl, rfl⟩
          go_wp2_with fail
          refine (rot_is _ e1 (-11) 11 (by decide) (by decide) (by decide)).mono ?_
          rintro _ _ ⟨rfl, rfl⟩
          go_wp2_with fail
          refine (rot_is _ e1 (-25) 25 (by decide) (by decide) (by decide)).mono ?_
          rintro _ _ ⟨rfl, rfl⟩
          go_wp2_with fail
          go_quiet (fail)
          go_wp2_with fail
          refine (rot_is _ a1 (-2) 2 (by decide) (by decide) (by decide)).mono ?_
          rintro _ _ ⟨rfl, rfl⟩
          go_wp2_with fail
          refine (rot_is _ a1 (-13) 13 (by decide) (by decide) (by decide)).mono ?_
          rintro _ _ ⟨rfl, rfl⟩
          go_wp2_with fail
          refine (rot_is _ a1 (-22) 22 (by decide) (by decide) (by decide)).mono ?_
          rintro _ _ ⟨rfl, rfl⟩
          go_wp2
          go_roundw
          case rel =>
           simp only [big1_num, cho_num, big0_num, maj_num]
           refine ⟨k + 1, by omega, by go_num, ?_, ?_, ?_, ?_, ?_, ?_, ?_, ?_, HW.o.drewN _, HK.o.drewN _⟩
           all_goals rw [Am.o]
           · rw [add5_num, add_wd, add_wd]; rfl
           · rfl
           · rfl
           · rfl
           · rw [add5_num, add_wd]; rfl
           · rfl
           · rfl
           · rfl
          case measure => simp [intOf]; omega
        · have Ae := Hh (show k = 64 by omega)
          have hL : mixF K s bs = addTo s (rnds K (sched bs 64) (St.of s) k).list 8 := by unfold mixF; rw [← Ae.o]
          generalize rnds K (sched bs 64) (St.of s) k = S at hL ⊢
          obtain ⟨a1, b1, c1, d1, e1, f1, g1, h1⟩ := S
          have HL := Hh hL
          clear hL HW
          have hix : ∀ i, i < 8 → (#[Value.int .u32 (a1.toNat : Int), .int .u32 (b1.toNat : Int), .int .u32 (c1.toNat : Int), .int .u32 (d1.toNat : Int), .int .u32 (e1.toNat : Int), .int .u32 (f1.toNat : Int), .int .u32 (g1.toNat : Int), .int .u32 (h1.toNat : Int)] : Array Value)[i]? = some (.int .u32 (((St.list ⟨a1, b1, c1, d1, e1, f1, g1, h1⟩).getD i 0).toNat : Int)) := fun i hi => by
           have : i = 0 ∨ i = 1 ∨ i = 2 ∨ i = 3 ∨ i = 4 ∨ i = 5 ∨ i = 6 ∨ i = 7 := by omega
           rcases this with rfl | rfl | rfl | rfl | rfl | rfl | rfl | rfl <;> rfl
          have Ai := Hh hix
          clear hix
          have Al : (#[Value.int .u32 (a1.toNat : Int), .int .u32 (b1.toNat : Int), .int .u32 (c1.toNat : Int), .int .u32 (d1.toNat : Int), .int .u32 (e1.toNat : Int), .int .u32 (f1.toNat : Int), .int .u32 (g1.toNat : Int), .int .u32 (h1.toNat : Int)] : Array Value).size = 8 := rfl
          go_wp2_with fail
          generalize (#[Value.int .u32 (a1.toNat : Int), .int .u32 (b1.toNat : Int), .int .u32 (c1.toNat : Int), .int .u32 (d1.toNat : Int), .int .u32 (e1.toNat : Int), .int .u32 (f1.toNat : Int), .int .u32 (g1.toNat : Int), .int .u32 (h1.toNat : Int)] : Array Value) = X at Ai Al ⊢
          generalize St.list ⟨a1, b1, c1, d1, e1, f1, g1, h1⟩ = L at Ai HL ⊢
          go_loopw [214] (fun i wr => ∃ k : Nat, k ≤ 8 ∧ i = .int .i64 k ∧ Has wr g t (wcells (addTo s L k) ++ rest).toArray ∧ Kept (· = g) w wr) (fun i _ => 8 - (intOf i).toNat)
          case atStart => exact ⟨0, by omega, rfl, by rw [addTo_zero _ _ hs]; exact HG.o.kept HK.o (fun h => h), HK.o.mono (fun _ _ h => h.elim)⟩
          case round =>
           clear Ae HK
           obtain ⟨k, hk, rfl, hW, hK⟩ := hrel
           have HW := Hh hW
           have HK := Hh hK
           clear hW hK
           by_cases hlt : k < 8
           · have hx := Ai.o k hlt
             have cg : wr.cell? ⟨g, k, none⟩ = some (.int .u32 ((s.getD k 0).toNat : Int)) := HW.o.cell_is (by
              rw [List.getElem?_toArray, List.getElem?_append_left (by rw [wcells_length, addTo_length]; omega), wcells_get _ _ (by rw [addTo_length]; omega)]
              simp [addTo, hlt])
             have hf : wr.frozen? ⟨g, k, none⟩ = false := HW.o.free k
             have Aa : Has (wr.setCell ⟨g, k, none⟩ (.int .u32 ((s.getD k 0 + L.getD k 0).toNat : Int))) g t (wcells (addTo s L (k + 1)) ++ rest).toArray := by
              have h := HW.o.set k (.int .u32 ((s.getD k 0 + L.getD k 0).toNat : Int))
              rw [List.setIfInBounds_toArray, List.set_append_left _ _ (by rw [wcells_length, addTo_length]; omega), wcells_set, addTo_set s L k hlt] at h
              exact h
             obtain ⟨xs, hxs⟩ : ∃ x, x = s.getD k 0 := ⟨_, rfl⟩
             obtain ⟨xl, hxl⟩ : ∃ x, x = L.getD k 0 := ⟨_, rfl⟩
             rw [← hxs, ← hxl] at Aa
             rw [← hxs] at cg
             rw [← hxl] at hx
             clear hxs hxl
             have Ab := Hh Aa
             clear Aa
             have hidx := fun w => index_row (t := 53) Tryz.underlying53 i32 Ak (by kernel_rfl) (by kernel_rfl) hlt hx w
             go_wp2_with fail
             go_region
             go_wp2
             go_roundw
             case rel => exact ⟨k + 1, by omega, by go_num, by rw [add_wd]; exact Ab.o, (HK.o.set (.inl rfl) _).drew⟩
             case measure => simp [intOf]; omega
           · have Ae := Hh (show k = 8 by omega)
             go_wp2
             go_end0
             exact ⟨rfl, by rw [HL.o, ← Ae.o]; exact HW.o, HK.o⟩

/- The walk of (*sha.Hasher).Write. -/

theorem kept_setRow {g : Nat} (w : World) (cs : Array Value) : Kept (· = g) w (w.setRow g cs) :=
 ⟨rfl, rfl, rfl, by simp [World.setRow], fun k _ hs => setRow_other w g k cs hs⟩

theorem copy_kept {P : Program} {o : Oper} {a : Act} {w : World} {K : Act → World → Prop} {Q : Exit → Act → World → Prop} (d s : Operand) (dT sT : TypeId)
   (ho : o.op = .call { callee := .builtin .copy, args := #[d, s], argTypes := #[dT, sT] }) (elem : TypeId) (hu : P.underlying dT = some (.slice elem)) (hsz : (P.info? elem).map (·.size) = some 1)
   (dp sp : Option Addr) (dLen dCap sLen sCap : Nat) (hd : a.eval d = .slice dp dLen dCap) (hs : a.eval s = .slice sp sLen sCap)
   (g off : Nat) (cur : List Value) (t : TypeId) (hg : Has w g t cur.toArray) (cs : List Value) (hn : cs.length = Nat.min sLen dLen)
   (hpos : 0 < cs.length → dp = some ⟨g, off, none⟩ ∧ ∃ ad, sp = some ad ∧ ∀ j v, cs[j]? = some v → w.cell? (ad.add j) = some v)
   (hfit : off + cs.length ≤ cur.length) (h1 : ∀ v ∈ cs, v.oneCell' = true)
   (h : ∀ w', Has w' g t (splice cur off cs).toArray → Kept (· = g) w w' → K (a.put o.dst (goInt cs.length)) w') : Oper.wp P o a w K Q := by
 by_cases h0 : cs.length = 0
 · obtain rfl : cs = [] := List.eq_nil_of_length_eq_zero h0
   have Aa := run_copy_none (P := P) w dT sT o.type elem dp sp dLen dCap sLen sCap hu hsz (by simpa using hn.symm)
   unfold Oper.wp
   simp [execOp, ho, resolve, invoke, builtin, hd, hs, Aa, Result.andThen]
   exact h w (by simpa [splice] using hg) (Kept.refl _ _)
 · obtain ⟨rfl, ad, rfl, Ab⟩ := hpos (by omega)
   have Aa := run_copy_row (P := P) w dT sT o.type elem g off dLen dCap ad sLen sCap cur.toArray t cs hu hsz hg hn Ab (by simpa using hfit) h1
   unfold Oper.wp
   simp [execOp, ho, resolve, invoke, builtin, hd, hs, Aa, Result.andThen]
   exact h _ (show _ = _ by simpa [splice] using setRow_heap w g _ _ t _ hg) (kept_setRow w _)

theorem wpList_copy_kept {P : Program} {w : World} {ops : Array Oper} {rest : List Oper} {o : Oper} {a : Act} {Q : Exit → Act → World → Prop} (hgd : o.guard = none) (d s : Operand) (dT sT : TypeId)
  (ho : o.op = .call { callee := .builtin .copy, args := #[d, s], argTypes := #[dT, sT] }) (elem : TypeId) (hu : P.underlying dT = some (.slice elem)) (hsz : (P.info? elem).map (·.size) = some 1)
  (dp sp : Option Addr) (dLen dCap sLen sCap : Nat) (hd : a.eval d = .slice dp dLen dCap) (hs : a.eval s = .slice sp sLen sCap)
  (g off : Nat) (cur : List Value) (t : TypeId) (hg : Has w g t cur.toArray) (cs : List Value) (hn : cs.length = Nat.min sLen dLen)
  (hpos : 0 < cs.length → dp = some ⟨g, off, none⟩ ∧ ∃ ad, sp = some ad ∧ ∀ j v, cs[j]? = some v → w.cell? (ad.add j) = some v)
  (hfit : off + cs.length ≤ cur.length) (h1 : ∀ v ∈ cs, v.oneCell' = true)
  (h : ∀ w', Has w' g t (splice cur off cs).toArray → Kept (· = g) w w' → wpList P ops Q rest (a.put o.dst (goInt cs.length)) w') :
  wpList P ops Q (o :: rest) a w :=
 wpList_plain hgd fun _ hK => copy_kept d s dT sT ho elem hu hsz dp sp dLen dCap sLen sCap hd hs g off cur t hg cs hn hpos hfit h1 fun w' hw hk => hK _ _ (h w' hw hk)

theorem step_copy_kept {P : Program} {ops : Array Oper} {o : Oper} {a : Act} {w : World} {K : Act → World → Prop} {Q : Exit → Act → World → Prop} {E : Prop} (hgd : o.guard = none) (d s : Operand) (dT sT : TypeId)
  (ho : o.op = .call { callee := .builtin .copy, args := #[d, s], argTypes := #[dT, sT] }) (elem : TypeId) (hu : P.underlying dT = some (.slice elem)) (hsz : (P.info? elem).map (·.size) = some 1)
  (dp sp : Option Addr) (dLen dCap sLen sCap : Nat) (hd : a.eval d = .slice dp dLen dCap) (hs : a.eval s = .slice sp sLen sCap)
  (g off : Nat) (cur : List Value) (t : TypeId) (hg : Has w g t cur.toArray) (cs : List Value) (hn : cs.length = Nat.min sLen dLen)
  (hpos : 0 < cs.length → dp = some ⟨g, off, none⟩ ∧ ∃ ad, sp = some ad ∧ ∀ j v, cs[j]? = some v → w.cell? (ad.add j) = some v)
  (hfit : off + cs.length ≤ cur.length) (h1 : ∀ v ∈ cs, v.oneCell' = true)
  (h : ∀ w', Has w' g t (splice cur off cs).toArray → Kept (· = g) w w' → K (a.put o.dst (goInt cs.length)) w') :
  if Region.wanted o (yielded ops a.tmps) = true then Oper.wp P o a w K Q else E := by
 have hw : Region.wanted o (yielded ops a.tmps) = true := by simp [Region.wanted, hgd]
 rw [if_pos hw]
 exact copy_kept d s dT sT ho elem hu hsz dp sp dLen dCap sLen sCap hd hs g off cur t hg cs hn hpos hfit h1 h

theorem cut_from {t : TypeId} {n : Nat} (ht : Tryz.prog.underlying t = some (.array (Tryz.prog.arrayLen t) (Tryz.prog.elem t))) (hn : Tryz.prog.arrayLen t = n) (hs : ((sizeOf (Tryz.prog.elem t)).run Tryz.prog : World → _) = fun w => .ok 1 w)
  (w : World) (g o l : Nat) (hl : l < n) : (Instr.sliceAt t (.pointer (some ⟨g, o, none⟩)) (some (.int .i64 (l : Int))) none none).run Tryz.prog w = .ok (.slice (some ⟨g, o + l, none⟩) (n - l) (n - l)) w := by
 rw [run_sliceAt_array_l w t ⟨g, o, none⟩ ht .i64 (l : Int) (by omega) (by omega), hs]
 simp only [Result.andThen, slicedAt, Int.toNat_natCast, Nat.mul_one, hn]
 rw [if_neg (by omega), Addr.add_mid]
theorem cut_to {t : TypeId} {n : Nat} (ht : Tryz.prog.underlying t = some (.array (Tryz.prog.arrayLen t) (Tryz.prog.elem t))) (hn : Tryz.prog.arrayLen t = n) (hs : ((sizeOf (Tryz.prog.elem t)).run Tryz.prog : World → _) = fun w => .ok 1 w)
  (w : World) (g o h : Nat) (hh : h ≤ n) (h0 : 0 < n) : (Instr.sliceAt t (.pointer (some ⟨g, o, none⟩)) none (some (.int .i64 (h : Int))) none).run Tryz.prog w = .ok (.slice (some ⟨g, o, none⟩) h n) w := by
 rw [run_sliceAt_array_h w t ⟨g, o, none⟩ ht .i64 (h : Int) (by omega) (by omega), hs]
 simp only [Result.andThen, slicedAt, Int.toNat_natCast, Nat.mul_one, hn]
 rw [if_neg (by omega), Addr.add_mid]
 simp
theorem cut_mid {t : TypeId} {n : Nat} (ht : Tryz.prog.underlying t = some (.array (Tryz.prog.arrayLen t) (Tryz.prog.elem t))) (hn : Tryz.prog.arrayLen t = n) (hs : ((sizeOf (Tryz.prog.elem t)).run Tryz.prog : World → _) = fun w => .ok 1 w)
  (w : World) (g o l h : Nat) (x y : Int) (hx : x = (l : Int)) (hy : y = (h : Int)) (hl : l ≤ h) (hh : h ≤ n) (hln : l < n) : (Instr.sliceAt t (.pointer (some ⟨g, o, none⟩)) (some (.int .i64 x)) (some (.int .i64 y)) none).run Tryz.prog w = .ok (.slice (some ⟨g, o + l, none⟩) (h - l) (n - l)) w := by
 subst hx hy
 rw [run_sliceAt_array_lh w t ⟨g, o, none⟩ ht .i64 .i64 (l : Int) (h : Int) (by omega) (by omega) (by omega), hs]
 simp only [Result.andThen, slicedAt, Int.toNat_natCast, Nat.mul_one, hn]
 rw [if_neg (by omega), Addr.add_mid]
theorem size1 : ((sizeOf 5).run Tryz.prog : World → _) = fun w => .ok 1 w := by
 funext w; kernel_rfl

def hcells (s : List Wd) (rest : List Nat) (at_ n : Int) : List Value := wcells s ++ (bcells rest ++ [.int .i64 at_, .int .u64 n])
def HObj (w : World) (g : Nat) (s : List Wd) (rest : List Nat) (at_ n : Int) : Prop := Has w g 173 (hcells s rest at_ n).toArray ∧ s.length = 8 ∧ rest.length = 64 ∧ ∀ x ∈ rest, x < 256
def Hsh (K s0 : List Wd) (w : World) (g : Nat) (m : List Nat) : Prop :=
 ∃ rest, HObj w g (eat K (m.length / 64) s0 m) rest ((m.length % 64 : Nat) : Int) (m.length : Nat) ∧ rest.take (m.length % 64) = m.drop (64 * (m.length / 64)) ∧ m.length ≤ 1000000000
def Bytes (w : World) (g : Nat) (v : Value) (b : List Nat) : Prop :=
 ∃ a c, v = .slice a b.length c ∧ b.length ≤ c ∧ (∀ x ∈ b, x < 256) ∧
  (0 < b.length → ∃ bg bo, a = some ⟨bg, bo, none⟩ ∧ bg ≠ g ∧ ∀ i, i < b.length → w.cell? ⟨bg, bo + i, none⟩ = some (.int .u8 (b.getD i 0 : Nat)))

theorem HObj.facts {w : World} {g : Nat} {s : List Wd} {rest : List Nat} {at_ n : Int} (h : HObj w g s rest at_ n) :
   w.cell? ⟨g, 72, none⟩ = some (.int .i64 at_) ∧ w.cell? ⟨g, 73, none⟩ = some (.int .u64 n) := by
 obtain ⟨hh, hs, hr, _⟩ := h
 constructor
 · refine hh.cell_is ?_
   rw [List.getElem?_toArray, hcells, List.getElem?_append_right (by rw [wcells_length]; omega), List.getElem?_append_right (by rw [wcells_length, bcells_length]; omega), wcells_length, bcells_length, hs, hr]
   rfl
 · refine hh.cell_is ?_
   rw [List.getElem?_toArray, hcells, List.getElem?_append_right (by rw [wcells_length]; omega), List.getElem?_append_right (by rw [wcells_length, bcells_length]; omega), wcells_length, bcells_length, hs, hr]
   rfl
theorem HObj.free {w : World} {g : Nat} {s : List Wd} {rest : List Nat} {at_ n : Int} (h : HObj w g s rest at_ n) (i : Nat) : w.frozen? ⟨g, i, none⟩ = false := h.1.free i
theorem HObj.kept {S : Nat → Prop} {w w' : World} {g : Nat} {s : List Wd} {rest : List Nat} {at_ n : Int} (h : HObj w g s rest at_ n) (hk : Kept S w w') (hg : ¬ S g) : HObj w' g s rest at_ n :=
 ⟨h.1.kept hk hg, h.2⟩
theorem HObj.setAt {w : World} {g : Nat} {s : List Wd} {rest : List Nat} {at_ n : Int} (h : HObj w g s rest at_ n) (x : Int) : HObj (w.setCell ⟨g, 72, none⟩ (.int .i64 x)) g s rest x n := by
 obtain ⟨hh, hs, hr, h4⟩ := h
 refine ⟨?_, hs, hr, h4⟩
 have := hh.set 72 (.int .i64 x)
 rw [List.setIfInBounds_toArray, hcells, List.set_append_right _ _ (by rw [wcells_length]; omega), List.set_append_right _ _ (by rw [wcells_length, bcells_length]; omega), wcells_length, bcells_length, hs, hr] at this
 exact this
theorem HObj.setN {w : World} {g : Nat} {s : List Wd} {rest : List Nat} {at_ n : Int} (h : HObj w g s rest at_ n) (x : Int) : HObj (w.setCell ⟨g, 73, none⟩ (.int .u64 x)) g s rest at_ x := by
 obtain ⟨hh, hs, hr, h4⟩ := h
 refine ⟨?_, hs, hr, h4⟩
 have := hh.set 73 (.int .u64 x)
 rw [List.setIfInBounds_toArray, hcells, List.set_append_right _ _ (by rw [wcells_length]; omega), List.set_append_right _ _ (by rw [wcells_length, bcells_length]; omega), wcells_length, bcells_length, hs, hr] at this
 exact this
theorem HObj.rest {w : World} {g : Nat} {s : List Wd} {rest : List Nat} {at_ n : Int} (h : HObj w g s rest at_ n) (i : Nat) (hi : i < 64) : w.cell? ⟨g, 8 + i, none⟩ = some (.int .u8 (rest.getD i 0 : Nat)) := by
 obtain ⟨hh, hs, hr, _⟩ := h
 refine hh.cell_is ?_
 rw [List.getElem?_toArray, hcells, List.getElem?_append_right (by rw [wcells_length]; omega), List.getElem?_append_left (by rw [wcells_length, bcells_length]; omega), wcells_length, hs, Nat.add_sub_cancel_left, bcells_get _ _ (by omega)]
theorem hcells_splice (s : List Wd) (rest b : List Nat) (at_ n : Int) (o : Nat) (hs : s.length = 8) (hr : rest.length = 64) (ho : o + b.length ≤ 64) :
  splice (hcells s rest at_ n) (8 + o) (bcells b) = hcells s (rest.take o ++ (b ++ rest.drop (o + b.length))) at_ n := by
 unfold splice hcells
 have e8 : (wcells s).length = 8 := by rw [wcells_length, hs]
 have e64 : (bcells rest).length = 64 := by rw [bcells_length, hr]
 rw [List.take_append, List.take_of_length_le (by omega), e8, Nat.add_sub_cancel_left, List.take_append_of_le_length (by omega), bcells_length, List.drop_append, List.drop_eq_nil_of_le (by omega), e8, Nat.add_assoc, Nat.add_sub_cancel_left,
  List.drop_append_of_le_length (by omega)]
 simp [bcells, List.map_take, List.map_drop]
theorem HObj.spliced {w w' : World} {g : Nat} {s : List Wd} {rest b : List Nat} {at_ n : Int} {o : Nat} (h : HObj w g s rest at_ n) (ho : o + b.length ≤ 64) (hb : ∀ x ∈ b, x < 256)
   (hw : Has w' g 173 (splice (hcells s rest at_ n) (8 + o) (bcells b)).toArray) : HObj w' g s (rest.take o ++ (b ++ rest.drop (o + b.length))) at_ n := by
 obtain ⟨_, hs, hr, h4⟩ := h
 rw [hcells_splice s rest b at_ n o hs hr ho] at hw
 refine ⟨hw, hs, by simp; omega, fun x hx => ?_⟩
 rcases List.mem_append.1 hx with hx | hx
 · exact h4 x (List.mem_of_mem_take hx)
 · rcases List.mem_append.1 hx with hx | hx
   · exact hb x hx
   · exact h4 x (List.mem_of_mem_drop hx)
theorem HObj.full {w : World} {g : Nat} {s : List Wd} {rest : List Nat} {at_ n : Int} (h : HObj w g s rest at_ n) :
  8 + 64 ≤ (hcells s rest at_ n).length := by
 simp [hcells, wcells_length, bcells_length, h.2.1, h.2.2.1]

/- The walk of (*sha.Hasher).Write. -/

theorem Bytes.kept {w w' : World} {g : Nat} {v : Value} {b : List Nat} (h : Bytes w g v b) (hk : Kept (· = g) w w') : Bytes w' g v b := by
 obtain ⟨a, c, rfl, h1, h2, h3⟩ := h
 refine ⟨a, c, rfl, h1, h2, fun h => ?_⟩
 obtain ⟨bg, bo, rfl, hne, hc⟩ := h3 h
 exact ⟨bg, bo, rfl, hne, fun i hi => cell_kept hk (hc i hi) hne⟩
theorem size_u8 : (Tryz.prog.info? 5).map (·.size) = some 1 := by kernel_rfl
theorem bcells_one (bs : List Nat) : ∀ u ∈ bcells bs, u.oneCell' = true := by
 intro u hu; obtain ⟨n, _, rfl⟩ := List.mem_map.1 hu; rfl

theorem Bytes.src {w : World} {g : Nat} {a : Option Addr} {n c : Nat} {b : List Nat} {v : Value} (h : Bytes w g v b) (hv : v = .slice a n c) (k : Nat) (hk : k ≤ b.length) (hp : 0 < (bcells (b.take k)).length) :
  ∃ ad, a = some ad ∧ ∀ j u, (bcells (b.take k))[j]? = some u → w.cell? (ad.add j) = some u := by
 obtain ⟨a', c', e, _, _, hb⟩ := h
 subst hv
 rw [bcells_length, List.length_take] at hp
 have hb0 : 0 < b.length := by omega
 obtain ⟨bg, bo, ha, _, hc⟩ := hb hb0
 subst ha
 injection e with e1
 refine ⟨_, e1, fun j u hu => ?_⟩
 have hj := (List.getElem?_eq_some_iff.1 hu).1
 rw [bcells_length, List.length_take] at hj
 rw [bcells_get _ _ (by rw [List.length_take]; exact hj)] at hu
 injection hu with hu
 have hj2 : j < b.length := by omega
 have hj3 : j < k := by omega
 rw [Addr.add_mid, hc j hj2, ← hu]
 simp [List.getD_eq_getElem?_getD, List.getElem?_take, hj3]

theorem Bytes.cut {w : World} {g : Nat} {a : Option Addr} {n c : Nat} {b : List Nat} (h : Bytes w g (.slice a n c) b) (k : Nat) (hk : k ≤ n) :
   ∃ a1 c1, (∀ w', (Instr.slice 48 (.slice a n c) (some (.int .i64 (k : Int))) none none).run Tryz.prog w' = .ok (.slice a1 (n - k) c1) w') ∧ (∀ w', (Instr.sliceAt 48 (.slice a n c) (some (.int .i64 (k : Int))) none none).run Tryz.prog w' = .ok (.slice a1 (n - k) c1) w') ∧ Bytes w g (.slice a1 (n - k) c1) (b.drop k) := by
 obtain ⟨a', c', e, hc, hb, hp⟩ := h
 injection e with e1 e2 e3
 subst e1 e2 e3
 have hu : Tryz.prog.underlying 48 = some (.slice (Tryz.prog.elem 48)) := by kernel_rfl
 have he : Tryz.prog.elem 48 = 5 := by kernel_rfl
 have hr : ∀ w', (Instr.slice 48 (.slice a b.length c) (some (.int .i64 (k : Int))) none none).run Tryz.prog w' = .ok (.slice (if c = k then a else a.map (·.add k)) (b.length - k) (c - k)) w' := fun w' => by
   rw [run_slice_l w' 48 a b.length c hu .i64 (k : Int) (by omega) (by omega), he, size1]
   simp only [Result.andThen, sliced, Int.toNat_natCast, Nat.mul_one]
 refine ⟨_, _, hr, fun w' => by rw [run_sliceAt_slice w' 48 _ _ _ _ hu]; exact hr w', _, _, by rw [List.length_drop], by rw [List.length_drop]; omega, fun x hx => hb x (List.mem_of_mem_drop hx), fun h0 => ?_⟩
 rw [List.length_drop] at h0
 have hb0 : 0 < b.length := by omega
 obtain ⟨bg, bo, rfl, hne, hcl⟩ := hp hb0
 clear hp
 refine ⟨bg, bo + k, ?_, hne, fun i hi => ?_⟩
 · rw [if_neg (by omega), Option.map_some, Addr.add_mid]
 · rw [List.length_drop] at hi
   rw [Nat.add_assoc, hcl (k + i) (by omega)]
   simp [List.getD_eq_getElem?_getD, List.getElem?_drop]
def lenOf : Value → Nat
 | .slice _ n _ => n
 | _ => 0
theorem full_block (m b rest : List Nat) (k : Nat) (hr : rest.take (m.length % 64) = m.drop (64 * (m.length / 64))) (h64 : rest.length = 64) (hk : m.length % 64 + k = 64) (hb : k ≤ b.length) :
  rest.take (m.length % 64) ++ (b.take k ++ rest.drop 64) = ((m ++ b).drop (64 * (m.length / 64))).take 64 := by
 rw [hr, List.drop_eq_nil_of_le (show rest.length ≤ 64 by omega), List.append_nil, List.drop_append_of_le_length (by omega), List.take_append, List.length_drop, List.take_of_length_le (l := m.drop (64 * (m.length / 64))) (by rw [List.length_drop]; omega)]
 have e : 64 - (m.length - 64 * (m.length / 64)) = k := by omega
 rw [e]
theorem part_rest (m b rest : List Nat) (Y : List Nat) (hr : rest.take (m.length % 64) = m.drop (64 * (m.length / 64))) :
  (rest.take (m.length % 64) ++ (b.take b.length ++ Y)).take (m.length % 64 + b.length) = (m ++ b).drop (64 * (m.length / 64)) := by
 have hx : (m.drop (64 * (m.length / 64))).length = m.length % 64 := by rw [List.length_drop]; omega
 rw [hr, List.take_length, ← List.append_assoc, List.take_append_of_le_length (by rw [List.length_append, hx]; exact Nat.le_refl _), List.take_of_length_le (by rw [List.length_append, hx]; exact Nat.le_refl _), List.drop_append_of_le_length (by omega)]
theorem get_low {l : List Nat} (h : ∀ x ∈ l, x < 256) (i : Nat) : l.getD i 0 < 256 := by
 rw [List.getD_eq_getElem?_getD]
 cases hi : l[i]? with
 | none => simp
 | some x => simpa using h x (List.mem_of_getElem? hi)
theorem take_cell {w : World} {bg bo n k : Nat} {l : List Nat} (h : ∀ i, i < n → w.cell? ⟨bg, bo + i, none⟩ = some (.int .u8 (l.getD i 0 : Nat))) (hk : k ≤ n) (i : Nat) (hi : i < k) :
  w.cell? ⟨bg, bo + i, none⟩ = some (.int .u8 ((l.take k).getD i 0 : Nat)) := by
 rw [h i (by omega)]
 simp [List.getD_eq_getElem?_getD, List.getElem?_take, hi]
theorem eat_more (K s0 : List Wd) (q : Nat) (M : List Nat) : mixF K (eat K q s0 M) ((M.drop (64 * q)).take 64) = eat K (q + 1) s0 M := by
 rw [eat_add K s0 q 1 M]; rfl

set_option maxRecDepth 100000 in
set_option maxHeartbeats 2000000 in
theorem write_is (K s0 : List Wd) (w : World) (g : Nat) (m : List Nat) (v : Value) (b : List Nat) (hT : Tabs K s0 w) (h : Hsh K s0 w g m) (h3 : 2 + 1 ≤ g) (hB : Bytes w g v b) (hl : m.length + b.length ≤ 1000000000) :
  Calls Tryz.prog 82 #[.pointer (some ⟨g, 0, none⟩), v] w fun e w' =>
    e = .returned (.tuple #[]) ∧ Hsh K s0 w' g (m ++ b) ∧ Kept (· = g) w w' := by
 have HB := Hh hB
 obtain ⟨a, c, rfl, hbc, Aa, hbp⟩ := hB
 obtain ⟨rest, hO, hrt, _⟩ := h
 obtain ⟨c72, c73⟩ := hO.facts
 have f73 := hO.free 73
 have HO := Hh hO
 have HT := Hh hT
 have Ay := Hh hrt
 have Au := Hh Aa
 obtain ⟨ml, hml⟩ : ∃ x : Nat, x = m.length := ⟨_, rfl⟩
 obtain ⟨bl, hbl⟩ : ∃ x : Nat, x = b.length := ⟨_, rfl⟩
 obtain ⟨at0, hat⟩ : ∃ x : Nat, x = m.length % 64 := ⟨_, rfl⟩
 have Ah : at0 < 64 := by omega
 rw [← hml, ← hbl] at hl
 rw [← hml] at c73
 rw [← hat] at c72
 rw [← hbl] at hbc
 rw [← hbl]
 have HM := Hh hml
 have HL := Hh hbl
 have Ai := Hh hat
 clear hT hO hrt Aa hbp hml hbl hat
 go_enter Tryz.func82, Tryz.ntmps82
 go_upto_if 21 with (fail)
 go_cut [1] (fun v wr => ∃ q rest', 64 * q ≤ ml + bl ∧ HObj wr g (eat K q s0 (m ++ b)) rest' 0 ((ml + bl : Nat) : Int) ∧ Bytes wr g v ((m ++ b).drop (64 * q)) ∧ Kept (· = g) w wr)
 case first =>
  have hO1 : HObj (w.setCell ⟨g, 73, none⟩ (.int .u64 ((ml : Int) + (bl : Int)))) g (eat K (m.length / 64) s0 m) rest (at0 : Int) ((ml : Int) + (bl : Int)) := by
    have := HO.o.setN ((ml : Int) + (bl : Int))
    rw [← Ai.o] at this
    exact this
  have hK1 : Kept (· = g) w (w.setCell ⟨g, 73, none⟩ (.int .u64 ((ml : Int) + (bl : Int)))) := (Kept.refl (· = g) w).set (.inl rfl) _
  generalize w.setCell ⟨g, 73, none⟩ (.int .u64 ((ml : Int) + (bl : Int))) = w1 at hO1 hK1 ⊢
  have hB1 := HB.o.kept hK1
  obtain ⟨d72, d73⟩ := hO1.facts
  clear c72 c73 f73 HO
  have Ad := Hh hO1
  have An := Hh hK1
  have As := Hh hB1
  clear hO1 hK1 hB1
  by_cases h0 : at0 = 0
  · subst h0
    go_wp2
    go_meet
    case rel =>
      refine ⟨m.length / 64, rest, by have := HM.o; have := HL.o; omega, ?_, ?_, An.o⟩
      · rw [eat_append _ _ _ _ _ (by omega), Int.natCast_add]; exact Ad.o
      · rw [List.drop_append, List.drop_eq_nil_of_le (by have := Ai.o; omega), show 64 * (m.length / 64) - m.length = 0 by omega, List.nil_append, List.drop_zero, HL.o]; exact As.o
  · have Ae := Hh (fun k (hk : k ≤ bl) hp => As.o.src rfl k (by rw [← HL.o]; exact hk) hp)
    by_cases hs : at0 + bl < 64
    · have hln : (bcells (b.take bl)).length = bl := by rw [bcells_length, List.length_take]; have := HL.o; omega
      have hcut := fun w => cut_from (t := 171) (n := 64) (by kernel_rfl) (by kernel_rfl) size1 w g 8 at0 Ah
      go_wp2_with fail
      go_region_law (refine step_copy_kept rfl (.tmp 29) (.tmp 30) 48 48 rfl 5 Tryz.underlying48 size_u8 (some ⟨g, 8 + at0, none⟩) a (64 - at0) (64 - at0) bl c (by rfl) (by rfl) g (8 + at0) (hcells (eat K (m.length / 64) s0 m) rest (at0 : Int) ((ml : Int) + (bl : Int))) 173 (w := w1.drew) Ad.o.1 (bcells (b.take bl)) (by rw [hln]; exact (Nat.min_eq_left (by omega)).symm) (fun hp => ⟨rfl, Ae.o bl (Nat.le_refl _) hp⟩) (by have := Ad.o.full; rw [hln]; omega) (bcells_one _) ?_; intro w2 hw2 hk2)
      have ho2 := Ad.o.spliced (o := at0) (b := b.take bl) (by rw [List.length_take]; omega) (fun x hx => Au.o x (List.mem_of_mem_take hx)) hw2
      obtain ⟨e72, e73⟩ := ho2.facts
      have f72 := ho2.free 72
      have Ab := Hh (ho2.setAt ((at0 : Int) + (bl : Int)))
      have Al := Hh ((An.o.trans hk2.undrew).set (.inl rfl) (p := ⟨g, 72, none⟩) (.int .i64 ((at0 : Int) + (bl : Int))))
      clear ho2 hw2 hk2 Ad An
      have Ac : Hsh K s0 (w2.setCell ⟨g, 72, none⟩ (.int .i64 ((at0 : Int) + (bl : Int)))) g (m ++ b) := by
        have h1 := HM.o
        have h2 := HL.o
        have h4 := Ai.o
        have e1 : (m ++ b).length = ml + bl := by rw [List.length_append]; omega
        have e2 : (ml + bl) / 64 = m.length / 64 := by omega
        have e3 : (ml + bl) % 64 = at0 + bl := by omega
        refine ⟨rest.take at0 ++ (b.take bl ++ rest.drop (at0 + (b.take bl).length)), ?_, ?_, by omega⟩
        · rw [e1, e2, e3, eat_append _ _ _ _ _ (by omega), Int.natCast_add, Int.natCast_add]
          exact Ab.o
        · rw [e1, e2, e3, h4, h2]
          exact part_rest m b rest _ Ay.o
      have Ak := Hh Ac
      clear Ac
      go_wp2
      all_goals
        refine bodyPost_ret (results_none rfl _ _ _) rfl ?_
        exact ⟨rfl, Ak.o, Al.o⟩
    · have hln : (bcells (b.take (64 - at0))).length = 64 - at0 := by rw [bcells_length, List.length_take]; have := HL.o; omega
      have hcut := fun w => cut_from (t := 171) (n := 64) (by kernel_rfl) (by kernel_rfl) size1 w g 8 at0 Ah
      obtain ⟨a1, c1, hs1, hs2, hB2⟩ := As.o.cut (64 - at0) (by have := HL.o; omega)
      rw [← HL.o] at hs1 hs2 hB2
      have e64 : ((64 - at0 : Nat) : Int) = 64 - (at0 : Int) := by omega
      rw [e64] at hs1 hs2
      have A0 := Hh hB2
      clear hB2
      go_wp2_with fail
      go_region_law (refine step_copy_kept rfl (.tmp 29) (.tmp 30) 48 48 rfl 5 Tryz.underlying48 size_u8 (some ⟨g, 8 + at0, none⟩) a (64 - at0) (64 - at0) bl c (by rfl) (by rfl) g (8 + at0) (hcells (eat K (m.length / 64) s0 m) rest (at0 : Int) ((ml : Int) + (bl : Int))) 173 (w := w1.drew) Ad.o.1 (bcells (b.take (64 - at0))) (by rw [hln]; exact (Nat.min_eq_right (by omega)).symm) (fun hp => ⟨rfl, Ae.o (64 - at0) (by omega) hp⟩) (by have := Ad.o.full; rw [hln]; omega) (bcells_one _) ?_; intro w2 hw2 hk2)
      have ho2 := Ad.o.spliced (o := at0) (b := b.take (64 - at0)) (by rw [List.length_take]; omega) (fun x hx => Au.o x (List.mem_of_mem_take hx)) hw2
      have hlt : (b.take (64 - at0)).length = 64 - at0 := by rw [← bcells_length]; exact hln
      have Ao : rest.take at0 ++ (b.take (64 - at0) ++ rest.drop (at0 + (b.take (64 - at0)).length)) = ((m ++ b).drop (64 * (m.length / 64))).take 64 := by
        have h4 := Ai.o
        have h2 := HL.o
        rw [hlt, show at0 + (64 - at0) = 64 by omega, h4]
        exact full_block m b rest _ Ay.o Ad.o.2.2.1 (by omega) (by omega)
      rw [Ao] at ho2
      obtain ⟨e72, e73⟩ := ho2.facts
      have f72 := ho2.free 72
      have ho3 := ho2.setAt ((at0 : Int) + (64 - (at0 : Int)))
      have hk3 := (An.o.trans hk2.undrew).set (.inl rfl) (p := ⟨g, 72, none⟩) (.int .i64 ((at0 : Int) + (64 - (at0 : Int))))
      have Ag := Hh ho3
      have Am := Hh hk3
      have Aj := Hh ((A0.o.kept hk2.undrew).kept ((Kept.refl (· = g) w2).set (.inl rfl) (p := ⟨g, 72, none⟩) (.int .i64 ((at0 : Int) + (64 - (at0 : Int))))))
      have Ax := Hh (show 64 * (m.length / 64) ≤ m.length by omega)
      clear ho2 ho3 hk3 hw2 hk2 Ad An A0 Ao hln hlt
      go_wp2_with fail
      generalize w2.setCell ⟨g, 72, none⟩ (.int .i64 ((at0 : Int) + (64 - (at0 : Int)))) = w3 at Ag Am Aj ⊢
      have Ar := Hh (HT.o.kept Am.o (fun k e => by have : k = g := e; omega))
      go_region_law (go_simp; go_at_call 107; refine (mix_is K s0 w3.drew g 173 _ _ _ g 8 64 ⟨Ar.o.k, Ar.o.s, Ar.o.low, Ar.o.len⟩ Ag.o.1 h3 Ag.o.2.1 (fun i hi => Ag.o.rest i hi) (fun i hi => get_low Ag.o.2.2.2 i) ).mono ?_; rintro _ w4 ⟨rfl, hg4, hk4⟩)
      have ho4 : HObj w4 g _ _ _ _ := ⟨hg4, mixF_length _ _ _, Ag.o.2.2.1, Ag.o.2.2.2⟩
      rw [eat_append K s0 (m.length / 64) m b Ax.o |>.symm, eat_more] at ho4
      obtain ⟨g72, _⟩ := ho4.facts
      have k72 := ho4.free 72
      have A6 := Hh (ho4.setAt 0)
      have hk5 := (Am.o.trans hk4.undrew).set (.inl rfl) (p := ⟨g, 72, none⟩) (.int .i64 0)
      have A4 := Hh hk5
      have Av := Hh ((Aj.o.kept hk4.undrew).kept ((Kept.refl (· = g) w4).set (.inl rfl) (p := ⟨g, 72, none⟩) (.int .i64 0)))
      clear ho4 hk5 hk4 hg4 Ag Am Aj
      go_wp2
      go_meet
      case rel =>
        refine ⟨m.length / 64 + 1, ((m ++ b).drop (64 * (m.length / 64))).take 64, by have := HM.o; have := Ai.o; omega, ?_, ?_, A4.o⟩
        · rw [Int.natCast_add]; exact A6.o
        · have e : (m ++ b).drop (64 * (m.length / 64 + 1)) = b.drop (64 - at0) := by
           have h4 := Ai.o
           rw [List.drop_append, List.drop_eq_nil_of_le (by omega), List.nil_append]
           congr 1
           omega
          rw [e]; exact Av.o
 case rest =>
  clear c72 c73 f73 HB Ay Au Ai hbc
  go_wp2_with fail
  go_loopw [1] (fun v wr => ∃ q rest', 64 * q ≤ ml + bl ∧ HObj wr g (eat K q s0 (m ++ b)) rest' 0 ((ml + bl : Nat) : Int) ∧ Bytes wr g v ((m ++ b).drop (64 * q)) ∧ Kept (· = g) w wr) (fun v _ => lenOf v)
  case atStart => exact hcut
  case round =>
    obtain ⟨q, rest', hq, ho, hb, hk⟩ := hrel
    have Aw := Hh hb
    obtain ⟨a2, c2, rfl, hbc, Aa, hbp⟩ := hb
    obtain ⟨n, hn⟩ : ∃ n, n = ((m ++ b).drop (64 * q)).length := ⟨_, rfl⟩
    rw [← hn] at Aw hbp hbc
    rw [← hn]
    have hnl : n = ml + bl - 64 * q := by rw [hn, List.length_drop, List.length_append]; have := HM.o; have := HL.o; omega
    have Ab := Hh ho
    have Al := Hh hk
    have Af := Hh Aa
    have HN := Hh hn
    have A1 := Hh hnl
    clear ho hk Aa hn hnl
    by_cases hlt : 64 ≤ n
    · have hn0 : 0 < n := by omega
      have hc64 : (64 : Int) ≤ (c2 : Int) := by omega
      obtain ⟨bg, bo, rfl, hne, hcl⟩ := hbp hn0
      clear hbp
      have A3 := Hh hcl
      clear hcl
      obtain ⟨a3, c3, hs1, hs2, hB3⟩ := Aw.o.cut 64 hlt
      simp only [Int.cast_ofNat_Int] at hs1 hs2
      rw [List.drop_drop] at hB3
      have Az := Hh hB3
      clear hB3
      have Aq := Hh (HT.o.kept Al.o (fun k e => by have : k = g := e; omega))
      go_wp2_with fail
      go_region_law (go_simp; go_at_call 107; refine (mix_is K s0 wr.drew g 173 _ _ (((m ++ b).drop (64 * q)).take 64) bg bo c2 ⟨Aq.o.k, Aq.o.s, Aq.o.low, Aq.o.len⟩ Ab.o.1 h3 Ab.o.2.1 (fun i hi => take_cell A3.o (by omega) i hi) (fun i hi => get_low (fun x hx => Af.o x (List.mem_of_mem_take hx)) i)).mono ?_; rintro _ w4 ⟨rfl, hg4, hk4⟩)
      have hg5 : HObj w4 g (eat K (q + 1) s0 (m ++ b)) rest' 0 ((ml + bl : Nat) : Int) := by
        rw [← eat_more]; exact ⟨hg4, mixF_length _ _ _, Ab.o.2.2.1, Ab.o.2.2.2⟩
      have A7 := Hh hg5
      have A5 := Hh (Al.o.trans hk4.undrew)
      have A2 := Hh (Az.o.kept hk4.undrew)
      clear hg5 hg4 hk4 Ab Al Az
      go_wp2
      go_roundw
      case rel => exact ⟨q + 1, rest', by have := A1.o; omega, A7.o, by rw [show 64 * (q + 1) = 64 * q + 64 by omega]; exact A2.o, A5.o⟩
      case measure => simp [lenOf]; omega
    · have Ap : 0 < (bcells ((m ++ b).drop (64 * q))).length → ∃ ad, a2 = some ad ∧ ∀ j u, (bcells ((m ++ b).drop (64 * q)))[j]? = some u → wr.cell? (ad.add j) = some u := fun hp => by
        have := Aw.o.src rfl ((m ++ b).drop (64 * q)).length (Nat.le_refl _) (by rw [List.take_length]; exact hp)
        rw [List.take_length] at this
        exact this
      have Ae := Hh Ap
      clear Ap hbp
      have hcs : (bcells ((m ++ b).drop (64 * q))).length = n := by rw [bcells_length]; exact HN.o.symm
      go_wp2_with (refine wpList_copy_kept rfl (.tmp 74) (.tmp 75) 48 48 rfl 5 Tryz.underlying48 size_u8 (some ⟨g, 8, none⟩) a2 64 64 n c2 rfl rfl g 8 (hcells (eat K q s0 (m ++ b)) rest' 0 ((ml + bl : Nat) : Int)) 173 Ab.o.1 (bcells ((m ++ b).drop (64 * q))) (by rw [hcs]; exact (Nat.min_eq_left (by omega)).symm) (fun hp => ⟨rfl, Ae.o hp⟩) (by have := Ab.o.full; rw [hcs]; omega) (bcells_one _) ?_)
      intro w2 hw2 hk2
      have ho2 := Ab.o.spliced (o := 0) (b := (m ++ b).drop (64 * q)) (by rw [← HN.o]; omega) Af.o hw2
      obtain ⟨e72, _⟩ := ho2.facts
      have f72 := ho2.free 72
      have ho3 := ho2.setAt (n : Int)
      have hk3 := (Al.o.trans hk2).set (.inl rfl) (p := ⟨g, 72, none⟩) (.int .i64 (n : Int))
      have Ac : Hsh K s0 (w2.setCell ⟨g, 72, none⟩ (.int .i64 (n : Int))) g (m ++ b) := by
        have h1 := HM.o
        have h2 := HL.o
        have h4 := A1.o
        have e1 : (m ++ b).length = ml + bl := by rw [List.length_append]; omega
        have e2 : (ml + bl) / 64 = q := by omega
        have e3 : (ml + bl) % 64 = n := by omega
        refine ⟨rest'.take 0 ++ ((m ++ b).drop (64 * q) ++ rest'.drop (0 + ((m ++ b).drop (64 * q)).length)), ?_, ?_, by omega⟩
        · rw [e1, e2, e3]; exact ho3
        · rw [e1, e2, e3, List.take_zero, List.nil_append, HN.o, List.take_append_of_le_length (Nat.le_refl _), List.take_length]
      have Ak := Hh Ac
      have Am := Hh hk3
      clear ho2 ho3 hk3 Ac hw2 hk2 Ab Al
      go_wp2
      go_end0
      exact ⟨rfl, Ak.o, Am.o⟩

/- What (*sha.Hasher).Sum makes, step by step, as plain lists. -/

def eightTo (n k : Nat) : List Nat := (List.range 8).map fun i => if 7 - i < k then n / 2 ^ (8 * (7 - i)) % 256 else 0
theorem eightTo_length (n k : Nat) : (eightTo n k).length = 8 := by simp [eightTo]
theorem eightTo_zero (n : Nat) : eightTo n 0 = List.replicate 8 0 := rfl
theorem eightTo_full (n : Nat) : eightTo n 8 = eight n := by
 unfold eightTo eight
 apply List.map_congr_left
 intro i hi
 rw [if_pos (by omega)]
theorem eightTo_set (n k : Nat) (hk : k < 8) : (eightTo n k).set (7 - k) (n / 2 ^ (8 * k) % 256) = eightTo n (k + 1) := by
 apply List.ext_getElem?
 intro i
 simp only [eightTo, List.getElem?_set, List.length_map, List.length_range, List.getElem?_map]
 by_cases h : 7 - k = i
 · subst h
   rw [if_pos rfl, if_pos (by omega), List.getElem?_range (by omega), Option.map_some, if_pos (by omega), show 7 - (7 - k) = k by omega]
 · rw [if_neg h]
   by_cases h8 : i < 8
   · simp only [List.getElem?_range h8, Option.map_some]
     by_cases h2 : 7 - i < k
     · rw [if_pos h2, if_pos (by omega)]
     · rw [if_neg h2, if_neg (by omega)]
   · simp [h8]
def endTo (r : List Nat) (size n k : Nat) : List Nat := (r ++ 128 :: List.replicate (size - 9 - r.length) 0) ++ (eightTo (8 * n) k ++ List.replicate (128 - size) 0)
theorem endTo_length (r : List Nat) (size n k : Nat) (h1 : r.length + 9 ≤ size) (h2 : size ≤ 128) : (endTo r size n k).length = 128 := by
 simp [endTo, eightTo_length]; omega
theorem endTo_zero (r : List Nat) (size n : Nat) (h1 : r.length + 9 ≤ size) (h2 : size ≤ 128) : (r ++ 128 :: List.replicate (127 - r.length) 0) = endTo r size n 0 := by
 unfold endTo
 rw [eightTo_zero, List.append_assoc]
 congr 1
 rw [List.cons_append]
 congr 1
 rw [← List.append_assoc, List.replicate_append_replicate, List.replicate_append_replicate]
 congr 1
 omega
theorem endTo_set (r : List Nat) (size n k : Nat) (h1 : r.length + 9 ≤ size) (h2 : size ≤ 128) (hk : k < 8) :
  (endTo r size n k).set (size - 1 - k) (8 * n / 2 ^ (8 * k) % 256) = endTo r size n (k + 1) := by
 unfold endTo
 have e : (r ++ 128 :: List.replicate (size - 9 - r.length) 0).length = size - 8 := by simp; omega
 rw [List.set_append_right _ _ (by omega), e, List.set_append_left _ _ (by rw [eightTo_length]; omega), show size - 1 - k - (size - 8) = 7 - k by omega, eightTo_set _ _ hk]
theorem endTo_full (r : List Nat) (n : Nat) (h : r.length < 64) : endTo r (if r.length < 56 then 64 else 128) n 8 = tailOf r n ++ List.replicate (128 - (if r.length < 56 then 64 else 128)) 0 := by
 unfold endTo tailOf
 rw [eightTo_full]
 simp [List.append_assoc]
theorem endTo_low (r : List Nat) (size n k : Nat) (h : ∀ x ∈ r, x < 256) : ∀ x ∈ endTo r size n k, x < 256 := by
 intro x hx
 unfold endTo at hx
 simp only [List.mem_append, List.mem_cons, List.mem_replicate, eightTo, List.mem_map, List.mem_range] at hx
 rcases hx with (hx | rfl | ⟨_, rfl⟩) | ⟨i, _, rfl⟩ | ⟨_, rfl⟩
 · exact h x hx
 · omega
 · omega
 · split
   · exact Nat.mod_lt _ (by omega)
   · omega
 · omega
theorem tailOf_low (r : List Nat) (n : Nat) (hl : r.length < 64) (h : ∀ x ∈ r, x < 256) : ∀ x ∈ tailOf r n, x < 256 := by
 intro x hx
 have := endTo_low r (if r.length < 56 then 64 else 128) n 8 h x
 rw [endTo_full r n hl] at this
 exact this (List.mem_append_left _ hx)
def outTo (s : List Wd) (k : Nat) : List Nat := (s.take k).flatMap bytesOf ++ List.replicate (32 - 4 * k) 0
theorem flat_length (s : List Wd) : (s.flatMap bytesOf).length = 4 * s.length := by
 induction s with
 | nil => rfl
 | cons x s ih => rw [List.flatMap_cons, List.length_append, ih, List.length_cons]; simp [bytesOf]; omega
theorem outTo_length (s : List Wd) (k : Nat) (hs : s.length = 8) (hk : k ≤ 8) : (outTo s k).length = 32 := by
 rw [outTo, List.length_append, flat_length, List.length_take, List.length_replicate]; omega
theorem set_four (P Z : List Nat) (p b0 b1 b2 b3 : Nat) (hp : P.length = p) :
  ((((P ++ 0 :: 0 :: 0 :: 0 :: Z).set p b0).set (p + 1) b1).set (p + 2) b2).set (p + 3) b3 = P ++ b0 :: b1 :: b2 :: b3 :: Z := by
 subst hp
 rw [List.set_append_right _ _ (Nat.le_refl _), Nat.sub_self, List.set_cons_zero, List.set_append_right _ _ (by omega), show P.length + 1 - P.length = 1 by omega, List.set_cons_succ, List.set_cons_zero,
  List.set_append_right _ _ (by omega), show P.length + 2 - P.length = 2 by omega, List.set_cons_succ, List.set_cons_succ, List.set_cons_zero, List.set_append_right _ _ (by omega), show P.length + 3 - P.length = 3 by omega,
  List.set_cons_succ, List.set_cons_succ, List.set_cons_succ, List.set_cons_zero]
theorem outTo_set (s : List Wd) (k : Nat) (hs : s.length = 8) (hk : k < 8) :
  ((((outTo s k).set (4 * k) ((s.getD k 0).toNat / 16777216)).set (4 * k + 1) ((s.getD k 0).toNat / 65536 % 256)).set (4 * k + 2) ((s.getD k 0).toNat / 256 % 256)).set (4 * k + 3) ((s.getD k 0).toNat % 256) = outTo s (k + 1) := by
 unfold outTo
 obtain ⟨z, hz⟩ : ∃ z, 32 - 4 * k = z + 4 := ⟨28 - 4 * k, by omega⟩
 have e : List.replicate (32 - 4 * k) 0 = 0 :: 0 :: 0 :: 0 :: List.replicate z (0 : Nat) := by rw [hz]; rfl
 rw [e, set_four _ _ _ _ _ _ _ (by rw [flat_length, List.length_take]; omega), show 32 - 4 * (k + 1) = z by omega, List.take_add_one, List.flatMap_append]
 have hg : s[k]? = some (s.getD k 0) := by simp [hs, hk]
 rw [hg]
 simp [bytesOf]
theorem outTo_full (s : List Wd) (hs : s.length = 8) : outTo s 8 = s.flatMap bytesOf := by
 unfold outTo
 rw [List.take_of_length_le (by omega)]
 simp
theorem bcells_set (b : List Nat) (i x : Nat) : (bcells b).set i (.int .u8 (x : Int)) = bcells (b.set i x) := by
 simp [bcells, List.map_set]

/- The walk of (*sha.Hasher).Sum. -/

theorem HObj.state {w : World} {g : Nat} {s : List Wd} {rest : List Nat} {at_ n : Int} (h : HObj w g s rest at_ n) : w.rangeAt g 0 (wcells s) := fun j v hv => by
 have hj := (List.getElem?_eq_some_iff.1 hv).1
 refine h.1.cell_is ?_
 rw [List.getElem?_toArray, hcells, Nat.zero_add, List.getElem?_append_left hj]
 exact hv
theorem eight_words (l : List Wd) (h : l.length = 8) : ∃ x0 x1 x2 x3 x4 x5 x6 x7, l = [x0, x1, x2, x3, x4, x5, x6, x7] := by
 match l, h with
 | [x0, x1, x2, x3, x4, x5, x6, x7], _ => exact ⟨x0, x1, x2, x3, x4, x5, x6, x7, rfl⟩
theorem Has.setB {w : World} {g : Nat} {t : TypeId} {b : List Nat} (h : Has w g t (bcells b).toArray) (i x : Nat) : Has (w.setCell ⟨g, i, none⟩ (.int .u8 (x : Int))) g t (bcells (b.set i x)).toArray := by
 have := h.set i (.int .u8 (x : Int))
 rw [List.setIfInBounds_toArray, bcells_set] at this
 exact this
theorem three (w : World) (c0 : Array Value) (t0 : TypeId) (c1 : Array Value) (t1 : TypeId) (c2 : Array Value) (t2 : TypeId) :
  Has (((w.alloc (.cells c0 t0)).alloc (.cells c1 t1)).alloc (.cells c2 t2)) w.heap.size t0 c0 ∧ Has (((w.alloc (.cells c0 t0)).alloc (.cells c1 t1)).alloc (.cells c2 t2)) (w.heap.size + 1) t1 c1 ∧
   Has (((w.alloc (.cells c0 t0)).alloc (.cells c1 t1)).alloc (.cells c2 t2)) (w.heap.size + 1 + 1) t2 c2 ∧ Below w.heap.size w (((w.alloc (.cells c0 t0)).alloc (.cells c1 t1)).alloc (.cells c2 t2)) ∧
   (((w.alloc (.cells c0 t0)).alloc (.cells c1 t1)).alloc (.cells c2 t2)).heap.size = w.heap.size + 3 := by
 have s1 : ∀ (x : World) o, (x.alloc o).heap.size = x.heap.size + 1 := fun x o => by simp
 have h1 := Has.new (w.alloc (.cells c0 t0)) t1 c1
 have h2 := Has.new ((w.alloc (.cells c0 t0)).alloc (.cells c1 t1)) t2 c2
 rw [s1] at h1
 rw [s1, s1] at h2
 exact ⟨((Has.new w _ _).alloc _).alloc _, h1.alloc _, h2, (((Below.refl _ _).alloc (Nat.le_refl _) _).alloc (by rw [s1]; omega) _).alloc (by rw [s1, s1]; omega) _, by rw [s1, s1, s1]⟩
theorem _root_.Go.RowKit.Below.kept_up {B : Nat} {w w' : World} (hb : Below B w w') : Kept (fun k => B ≤ k) w w' :=
 ⟨hb.os, hb.tape, hb.output, hb.size, fun k _ hn => hb.block k (by omega)⟩
theorem splice_zero (r : List Nat) (n : Nat) : splice (bcells (List.replicate n 0)) 0 (bcells r) = bcells (r ++ List.replicate (n - r.length) 0) := by
 simp [splice, bcells]
theorem set_128 (r : List Nat) (n : Nat) (h : r.length = n) (hn : n < 64) : (r ++ List.replicate (128 - n) 0).set n 128 = r ++ 128 :: List.replicate (127 - n) 0 := by
 obtain ⟨z, hz⟩ : ∃ z, 128 - n = z + 1 := ⟨127 - n, by omega⟩
 rw [List.set_append_right _ _ (by omega), h, Nat.sub_self, hz, List.replicate_succ, List.set_cons_zero, show 127 - n = z by omega]
theorem Has.setRow {w : World} {g : Nat} {t : TypeId} {cs cs' : Array Value} (h : Has w g t cs) : Has (w.setRow g cs') g t cs' := setRow_heap w g _ _ t _ h

set_option maxRecDepth 100000 in
set_option maxHeartbeats 2000000 in
theorem hsum_is (K s0 : List Wd) (w : World) (g : Nat) (m : List Nat) (hT : Tabs K s0 w) (h : Hsh K s0 w g m) :
  Calls Tryz.prog 84 #[.pointer (some ⟨g, 0, none⟩)] w fun e w' => e = .returned (arr (digest K s0 m)) ∧ Below w.heap.size w w' := by
 obtain ⟨i32, A4, _, _, _⟩ := info_parts info_u32
 obtain ⟨rest, hO, hrt, hml⟩ := h
 have hgl : g < w.heap.size := hO.1.lt
 obtain ⟨c72, c73⟩ := hO.facts
 have hS8 := hO.2.1
 obtain ⟨x0, x1, x2, x3, x4, x5, x6, x7, hS⟩ := eight_words _ hS8
 have hst : w.rangeAt g 0 [Value.int .u32 (x0.toNat : Int), Value.int .u32 (x1.toNat : Int), Value.int .u32 (x2.toNat : Int), Value.int .u32 (x3.toNat : Int), Value.int .u32 (x4.toNat : Int), Value.int .u32 (x5.toNat : Int), Value.int .u32 (x6.toNat : Int), Value.int .u32 (x7.toNat : Int)] := by
  have := hO.state
  rw [hS] at this
  exact this
 have Ba := Hh hst
 have HS := Hh hS
 clear hst hS
 obtain ⟨at0, hat⟩ : ∃ x : Nat, x = m.length % 64 := ⟨_, rfl⟩
 obtain ⟨n, hn⟩ : ∃ x : Nat, x = m.length := ⟨_, rfl⟩
 have Ad : at0 < 64 := by omega
 rw [← hat] at c72
 rw [← hn] at c73
 have HO := Hh hO
 have HT := Hh hT
 have Bp := Hh hrt
 have Bm := Hh hml
 have Au := Hh hat
 have HN := Hh hn
 have A9 := Hh hS8
 clear hT hO hrt hml hat hn hS8
 go_enter Tryz.func84, Tryz.ntmps84
 go_wp2_with (refine wpList_load_mid rfl 53 (.tmp 16) rfl g 0 rfl [Value.int .u32 (x0.toNat : Int), Value.int .u32 (x1.toNat : Int), Value.int .u32 (x2.toNat : Int), Value.int .u32 (x3.toNat : Int), Value.int .u32 (x4.toNat : Int), Value.int .u32 (x5.toNat : Int), Value.int .u32 (x6.toNat : Int), Value.int .u32 (x7.toNat : Int)] _ (World.rangeAt_alloc Ba.o _) Tryz.underlying53 rfl (by kernel_rfl) ?_)
 have h3 := three w #[Value.int .u8 0, Value.int .u8 0, Value.int .u8 0, Value.int .u8 0, Value.int .u8 0, Value.int .u8 0, Value.int .u8 0, Value.int .u8 0, Value.int .u8 0, Value.int .u8 0, Value.int .u8 0, Value.int .u8 0, Value.int .u8 0, Value.int .u8 0, Value.int .u8 0, Value.int .u8 0, Value.int .u8 0, Value.int .u8 0, Value.int .u8 0, Value.int .u8 0, Value.int .u8 0, Value.int .u8 0, Value.int .u8 0, Value.int .u8 0, Value.int .u8 0, Value.int .u8 0, Value.int .u8 0, Value.int .u8 0, Value.int .u8 0, Value.int .u8 0, Value.int .u8 0, Value.int .u8 0] 27 #[Value.int .u32 (x0.toNat : Int), Value.int .u32 (x1.toNat : Int), Value.int .u32 (x2.toNat : Int), Value.int .u32 (x3.toNat : Int), Value.int .u32 (x4.toNat : Int), Value.int .u32 (x5.toNat : Int), Value.int .u32 (x6.toNat : Int), Value.int .u32 (x7.toNat : Int)] 53 Tryz.zeroCells204 204
 generalize ((w.alloc (.cells #[Value.int .u8 0, Value.int .u8 0, Value.int .u8 0, Value.int .u8 0, Value.int .u8 0, Value.int .u8 0, Value.int .u8 0, Value.int .u8 0, Value.int .u8 0, Value.int .u8 0, Value.int .u8 0, Value.int .u8 0, Value.int .u8 0, Value.int .u8 0, Value.int .u8 0, Value.int .u8 0, Value.int .u8 0, Value.int .u8 0, Value.int .u8 0, Value.int .u8 0, Value.int .u8 0, Value.int .u8 0, Value.int .u8 0, Value.int .u8 0, Value.int .u8 0, Value.int .u8 0, Value.int .u8 0, Value.int .u8 0, Value.int .u8 0, Value.int .u8 0, Value.int .u8 0, Value.int .u8 0] 27)).alloc (.cells #[Value.int .u32 (x0.toNat : Int), Value.int .u32 (x1.toNat : Int), Value.int .u32 (x2.toNat : Int), Value.int .u32 (x3.toNat : Int), Value.int .u32 (x4.toNat : Int), Value.int .u32 (x5.toNat : Int), Value.int .u32 (x6.toNat : Int), Value.int .u32 (x7.toNat : Int)] 53)).alloc (.cells Tryz.zeroCells204 204) = W at h3 ⊢
 obtain ⟨h30, h31, h32, Ae, Ab⟩ := h3
 have hb0 : Has W w.heap.size 27 (bcells (List.replicate 32 0)).toArray := h30
 have hb1 : Has W (w.heap.size + 1) 53 (wcells (eat K (m.length / 64) s0 m)).toArray := by rw [HS.o]; exact h31
 have ez : (bcells (List.replicate 128 0)).toArray = Tryz.zeroCells204 := by kernel_rfl
 have hb2 : Has W (w.heap.size + 1 + 1) 204 (bcells (List.replicate 128 0)).toArray := by rw [ez]; exact h32
 have ho : HObj W g (eat K (m.length / 64) s0 m) rest ((m.length % 64 : Nat) : Int) ((m.length : Nat) : Int) := HO.o.kept (Kept.of_below (S := fun _ => False) Ae) (fun h => h)
 obtain ⟨d72, d73⟩ := ho.facts
 rw [← Au.o] at d72
 rw [← HN.o] at d73
 obtain ⟨B1, hB1⟩ : ∃ B, w.heap.size + 1 = B := ⟨_, rfl⟩
 obtain ⟨B2, hB2⟩ : ∃ B, B1 + 1 = B := ⟨_, rfl⟩
 rw [hB1] at hb1 hb2 ⊢
 rw [hB2] at hb2 ⊢
 have hB1g : w.heap.size < B1 := by omega
 have hB2g : B1 < B2 := by omega
 have Bc := Hh hb0
 have Bd := Hh hb1
 have Be := Hh hb2
 have Ak := Hh ho
 have Af := Hh Ae
 clear c72 c73 Ba h30 h31 h32 Ae Ab hb0 hb1 hb2 ho ez hB1 hB2
 have hr : (rest.take at0).length = at0 := by rw [List.length_take, Ak.o.2.2.1]; omega
 have HR := Hh hr
 have Bo := Hh (fun x (hx : x ∈ rest.take at0) => Ak.o.2.2.2 x (List.mem_of_mem_take hx))
 have An : ∀ j u, (bcells (rest.take at0))[j]? = some u → W.drew.cell? ((⟨g, 8, none⟩ : Addr).add j) = some u := fun j u hu => by
  have hj := (List.getElem?_eq_some_iff.1 hu).1
  rw [bcells_length, HR.o] at hj
  rw [bcells_get _ _ (by rw [HR.o]; exact hj)] at hu
  injection hu with hu
  rw [Addr.add_mid, World.cell?_drew, Ak.o.rest j (by omega), ← hu]
  simp [List.getD_eq_getElem?_getD, List.getElem?_take, hj]
 have Al := Hh An
 clear An hr
 have hcut := fun w => cut_to (t := 171) (n := 64) (by kernel_rfl) (by kernel_rfl) size1 w g 8 at0 (by omega) (by decide)
 go_region_law (refine step_copy_kept rfl (.tmp 18) (.tmp 26) 48 48 rfl 5 Tryz.underlying48 size_u8 (some ⟨B2, 0, none⟩) (some ⟨g, 8, none⟩) 128 128 at0 64 (by rfl) (by rfl) B2 0 (bcells (List.replicate 128 0)) 204 (w := W.drew) Be.o (bcells (rest.take at0)) (by rw [bcells_length, HR.o]; exact (Nat.min_eq_left (by omega)).symm) (fun _ => ⟨rfl, _, rfl, Al.o⟩) (by rw [bcells_length, bcells_length, HR.o, List.length_replicate]; omega) (bcells_one _) ?_; intro w1 hw1 hk1)
 clear hcut
 rw [splice_zero, HR.o] at hw1
 have ho1 := Ak.o.kept hk1.undrew (by omega)
 obtain ⟨d72, d73⟩ := ho1.facts
 rw [← Au.o] at d72
 rw [← HN.o] at d73
 have hc1 : w1.cell? ⟨B2, at0, none⟩ = some (.int .u8 ((((rest.take at0) ++ List.replicate (128 - at0) 0).getD at0 0 : Nat) : Int)) := hw1.cell_is (by rw [List.getElem?_toArray]; exact bcells_get _ _ (by rw [List.length_append, HR.o, List.length_replicate]; omega))
 have hf1 := hw1.free at0
 have Aa := hw1.set at0 (.int .u8 ((128 : Nat) : Int))
 rw [List.setIfInBounds_toArray, bcells_set, set_128 _ _ HR.o Ad] at Aa
 have hk2 := ((Af.o.kept_up).trans (hk1.undrew.mono (fun k _ e => by have e' : k = B2 := e; omega))).set (p := ⟨B2, at0, none⟩) (.inl (by show w.heap.size ≤ B2; omega)) (.int .u8 ((128 : Nat) : Int))
 have hb0 := (Bc.o.kept hk1.undrew (by omega)).far (p := ⟨B2, at0, none⟩) (by show w.heap.size ≠ B2; omega) (.int .u8 ((128 : Nat) : Int))
 have hb1 := (Bd.o.kept hk1.undrew (by omega)).far (p := ⟨B2, at0, none⟩) (by show B1 ≠ B2; omega) (.int .u8 ((128 : Nat) : Int))
 clear hw1 hk1 Bc Bd Be Ak Af Al ho1
 have H0 := Hh hb0
 have H1 := Hh hb1
 have H2 := Hh Aa
 have HK := Hh hk2
 clear hb0 hb1 Aa hk2
 go_upto_if 37 with (fail)
 go_cut [5] (fun sz wr => ∃ size : Nat, sz = .int .i64 (size : Int) ∧ size = (if at0 < 56 then 64 else 128) ∧ wr = w1.setCell ⟨B2, at0, none⟩ (.int .u8 128))
 case first =>
  by_cases h56 : at0 < 56
  · go_wp2
    go_meet
    case rel => exact ⟨64, rfl, (if_pos h56).symm, rfl⟩
  · go_wp2
    go_meet
    case rel => exact ⟨128, rfl, (if_neg h56).symm, rfl⟩
 case rest =>
  obtain ⟨size, rfl, Ab, rfl⟩ := hcut
  have hs1 : at0 + 9 ≤ size := by rw [Ab]; split <;> omega
  have hs2 : size ≤ 128 := by rw [Ab]; split <;> omega
  have hs3 : size % 64 = 0 := by rw [Ab]; split <;> omega
  have Ah := Hh Ab
  have Bn := Hh (show n ≤ 1000000000 by rw [HN.o]; exact Bm.o)
  have e73 : (w1.setCell ⟨B2, at0, none⟩ (.int .u8 128)).cell? ⟨g, 73, none⟩ = some (.int .u64 (n : Int)) := cell_far d73 (by show g ≠ B2; omega)
  have h2 : Has (w1.setCell ⟨B2, at0, none⟩ (.int .u8 128)) B2 204 (bcells (endTo (rest.take at0) size n 0)).toArray := by
    rw [← endTo_zero _ _ _ (by rw [HR.o]; exact hs1) hs2, HR.o]; exact H2.o
  have As := Hh h2
  have Aq : Hid (Has (w1.setCell ⟨B2, at0, none⟩ (.int .u8 128)) w.heap.size 27 (bcells (List.replicate 32 0)).toArray) := H0
  have Ar : Hid (Has (w1.setCell ⟨B2, at0, none⟩ (.int .u8 128)) B1 53 (wcells (eat K (m.length / 64) s0 m)).toArray) := H1
  have Aw : Hid (Kept (fun k => w.heap.size ≤ k) w (w1.setCell ⟨B2, at0, none⟩ (.int .u8 128))) := HK
  clear Ab hc1 hf1 d72 d73 H0 H1 H2 HK h2
  generalize w1.setCell ⟨B2, at0, none⟩ (.int .u8 128) = w2 at e73 As Aq Ar Aw ⊢
  go_wp2
  go_loopw [38] (fun i wr => ∃ k : Nat, k ≤ 8 ∧ i = .int .i64 k ∧ Has wr B2 204 (bcells (endTo (rest.take at0) size n k)).toArray ∧ Kept (· = B2) w2 wr) (fun i _ => 8 - (intOf i).toNat)
  case atStart => exact ⟨0, by omega, rfl, As.o, Kept.refl _ _⟩
  case round =>
    obtain ⟨k, hk, rfl, hW, hK⟩ := hrel
    have e73' := cell_kept hK e73 (by show g ≠ B2; omega)
    have HW := Hh hW
    have Ac := Hh hK
    clear hW hK
    by_cases hlt : k < 8
    · have hf := HW.o.free (size - 1 - k)
      have hc := HW.o.cell_is (i := size - 1 - k) (by rw [List.getElem?_toArray]; exact bcells_get _ _ (by rw [endTo_length _ _ _ _ (by rw [HR.o]; exact hs1) hs2]; omega))
      have Aa := HW.o.set (size - 1 - k) (.int .u8 ((8 * n / 2 ^ (8 * k) % 256 : Nat) : Int))
      rw [List.setIfInBounds_toArray, bcells_set, endTo_set _ _ _ _ (by rw [HR.o]; exact hs1) hs2 hlt] at Aa
      have Ai := Hh Aa
      clear Aa
      have hn9 := Bn.o
      have hv : ((n : Int) * 8 / 2 ^ (8 * k) % 256) = ((8 * n / 2 ^ (8 * k) % 256 : Nat) : Int) := by
       rw [show (n : Int) * 8 = ((8 * n : Nat) : Int) by omega, show (2 : Int) ^ (8 * k) = ((2 ^ (8 * k) : Nat) : Int) by simp]
       rfl
      have HV := Hh hv
      clear hv
      go_wp2
      go_roundw
      case rel => exact ⟨k + 1, by omega, by go_num, by rw [HV.o]; exact Ai.o, Ac.o.set (.inl rfl) _⟩
      case measure => simp [intOf]; omega
    · have hk8 : k = 8 := by omega
      have h2 : Has wr B2 204 (bcells (tailOf (rest.take at0) n ++ List.replicate (128 - size) 0)).toArray := by
       have e := endTo_full (rest.take at0) n (by rw [HR.o]; exact Ad)
       rw [HR.o, ← Ah.o] at e
       rw [← e, ← hk8]
       exact HW.o
      have h0 := Aq.out.kept Ac.o (by omega)
      have h1 := Ar.out.kept Ac.o (by omega)
      have hkk : Kept (fun k => w.heap.size ≤ k) w wr := Aw.out.trans (Ac.o.mono (fun k _ e => by have e' : k = B2 := e; omega))
      have htl : (tailOf (rest.take at0) n).length = size := by rw [tailOf_length _ _ (by rw [HR.o]; exact Ad), HR.o]; exact Ah.o.symm
      have A2 := Hh htl
      have Az := Hh h0
      have A0 := Hh h1
      have A1 := Hh h2
      have Ap := Hh hkk
      clear hk8 h0 h1 h2 hkk htl HW Ac e73 e73' Aq Ar As Aw
      go_wp2
      generalize wr = w3 at Az A0 A1 Ap ⊢
      go_loopw [7] (fun i wr => ∃ j : Nat, 64 * j ≤ size ∧ i = .int .i64 (64 * (j : Int)) ∧ Has wr B1 53 (wcells (eat K j (eat K (m.length / 64) s0 m) (tailOf (rest.take at0) n))).toArray ∧ Kept (· = B1) w3 wr) (fun i _ => size - (intOf i).toNat)
      case atStart => exact ⟨0, by omega, rfl, A0.o, Kept.refl _ _⟩
      case round =>
       obtain ⟨j, hj, rfl, hW, hK⟩ := hrel
       have HW := Hh hW
       have Ac := Hh hK
       clear hW hK
       by_cases hlt : 64 * j < size
       · have hsl := fun w => cut_mid (t := 204) (n := 128) (by kernel_rfl) (by kernel_rfl) size1 w B2 0 (64 * j) (64 * j + 64) (64 * (j : Int)) (64 * (j : Int) + 64) (by omega) (by omega) (by omega) (by omega) (by omega)
         go_wp2_with fail
         have hTw := HT.o.kept (Ap.o.trans (Ac.o.mono (fun k _ e => by have e' : k = B1 := e; omega))) (fun k hk => Nat.le_trans HT.o.low hk)
         have hbs : ∀ i, i < 64 → wr.cell? ⟨B2, 64 * j + i, none⟩ = some (.int .u8 ((((tailOf (rest.take at0) n).drop (64 * j)).take 64).getD i 0 : Nat)) := fun i hi => by
          refine (A1.o.kept Ac.o (by omega)).cell_is ?_
          rw [List.getElem?_toArray, bcells_get _ _ (by rw [List.length_append, A2.o]; omega)]
          rw [List.getD_eq_getElem?_getD, List.getD_eq_getElem?_getD, List.getElem?_append_left (by rw [A2.o]; omega), List.getElem?_take, if_pos hi, List.getElem?_drop]
         refine (mix_is K s0 wr B1 53 (eat K j (eat K (m.length / 64) s0 m) (tailOf (rest.take at0) n)) [] (((tailOf (rest.take at0) n).drop (64 * j)).take 64) B2 (64 * j) _ hTw (by rw [List.append_nil]; exact HW.o) (by have := HT.o.low; omega) (eat_length K _ A9.o _ _) hbs (fun i _ => get_low (fun x hx => tailOf_low _ _ (by rw [HR.o]; exact Ad) Bo.o x (List.mem_of_mem_drop (List.mem_of_mem_take hx))) i)).mono ?_
         rintro _ w4 ⟨rfl, hg4, hk4⟩
         rw [List.append_nil, eat_more] at hg4
         have Bh := Hh hg4
         have Bk := Hh (Ac.o.trans hk4)
         clear hTw hbs hg4 hk4 HW Ac hsl
         go_wp2
         go_roundw
         case rel => exact ⟨j + 1, by omega, by go_num, Bh.o, Bk.o⟩
         case measure => simp [intOf]; omega
       · have hj2 : j = size / 64 := by omega
         have Aj : (eat K j (eat K (m.length / 64) s0 m) (tailOf (rest.take at0) n)).flatMap bytesOf = digest K s0 m := by
          have h4 := Au.o
          have h5 := HN.o
          unfold digest
          simp only []
          rw [← Bp.o, ← h4, ← h5, A2.o, hj2]
         have h8 := eat_length K _ A9.o j (tailOf (rest.take at0) n)
         have h0 := Az.o.kept Ac.o (by omega)
         have hkk : Kept (fun k => w.heap.size ≤ k) w wr := Ap.o.trans (Ac.o.mono (fun k _ e => by have e' : k = B1 := e; omega))
         have h1 := HW.o
         generalize eat K j (eat K (m.length / 64) s0 m) (tailOf (rest.take at0) n) = F at Aj h8 h1
         have HD := Hh Aj
         have Av := Hh h0
         have A6 := Hh h1
         have A7 := Hh hkk
         have H8 := Hh h8
         clear hj2 Aj h8 h0 hkk h1 HW Ac Az A0 A1 Ap
         have hsz : (Tryz.prog.info? 53).map (·.size) = some (wcells F).toArray.size := by rw [List.size_toArray, wcells_length, H8.o]; kernel_rfl
         have Bb := Hh hsz
         clear hsz
         have A3 : w.heap.size < wr.heap.size := Av.o.lt
         go_wp2_with (refine wpList_load_row rfl 53 (.tmp 3) rfl B1 rfl 53 (wcells F).toArray (0, 0) _ (A6.o.alloc _) Tryz.underlying53 rfl Bb.o ?_)
         have Ag : Has (wr.alloc (.cells #[Value.int .u8 0, Value.int .u8 0, Value.int .u8 0, Value.int .u8 0, Value.int .u8 0, Value.int .u8 0, Value.int .u8 0, Value.int .u8 0, Value.int .u8 0, Value.int .u8 0, Value.int .u8 0, Value.int .u8 0, Value.int .u8 0, Value.int .u8 0, Value.int .u8 0, Value.int .u8 0, Value.int .u8 0, Value.int .u8 0, Value.int .u8 0, Value.int .u8 0, Value.int .u8 0, Value.int .u8 0, Value.int .u8 0, Value.int .u8 0, Value.int .u8 0, Value.int .u8 0, Value.int .u8 0, Value.int .u8 0, Value.int .u8 0, Value.int .u8 0, Value.int .u8 0, Value.int .u8 0] 27)) wr.heap.size 27 (bcells (outTo F 0)).toArray := Has.new wr _ _
         have hk6 : Kept (fun k => w.heap.size ≤ k) w (wr.alloc (.cells #[Value.int .u8 0, Value.int .u8 0, Value.int .u8 0, Value.int .u8 0, Value.int .u8 0, Value.int .u8 0, Value.int .u8 0, Value.int .u8 0, Value.int .u8 0, Value.int .u8 0, Value.int .u8 0, Value.int .u8 0, Value.int .u8 0, Value.int .u8 0, Value.int .u8 0, Value.int .u8 0, Value.int .u8 0, Value.int .u8 0, Value.int .u8 0, Value.int .u8 0, Value.int .u8 0, Value.int .u8 0, Value.int .u8 0, Value.int .u8 0, Value.int .u8 0, Value.int .u8 0, Value.int .u8 0, Value.int .u8 0, Value.int .u8 0, Value.int .u8 0, Value.int .u8 0, Value.int .u8 0] 27)) := A7.o.alloc _
         have h06 : Has (wr.alloc (.cells #[Value.int .u8 0, Value.int .u8 0, Value.int .u8 0, Value.int .u8 0, Value.int .u8 0, Value.int .u8 0, Value.int .u8 0, Value.int .u8 0, Value.int .u8 0, Value.int .u8 0, Value.int .u8 0, Value.int .u8 0, Value.int .u8 0, Value.int .u8 0, Value.int .u8 0, Value.int .u8 0, Value.int .u8 0, Value.int .u8 0, Value.int .u8 0, Value.int .u8 0, Value.int .u8 0, Value.int .u8 0, Value.int .u8 0, Value.int .u8 0, Value.int .u8 0, Value.int .u8 0, Value.int .u8 0, Value.int .u8 0, Value.int .u8 0, Value.int .u8 0, Value.int .u8 0, Value.int .u8 0] 27)) w.heap.size 27 (bcells (List.replicate 32 0)).toArray := Av.o.alloc _
         generalize wr.alloc (.cells #[Value.int .u8 0, Value.int .u8 0, Value.int .u8 0, Value.int .u8 0, Value.int .u8 0, Value.int .u8 0, Value.int .u8 0, Value.int .u8 0, Value.int .u8 0, Value.int .u8 0, Value.int .u8 0, Value.int .u8 0, Value.int .u8 0, Value.int .u8 0, Value.int .u8 0, Value.int .u8 0, Value.int .u8 0, Value.int .u8 0, Value.int .u8 0, Value.int .u8 0, Value.int .u8 0, Value.int .u8 0, Value.int .u8 0, Value.int .u8 0, Value.int .u8 0, Value.int .u8 0, Value.int .u8 0, Value.int .u8 0, Value.int .u8 0, Value.int .u8 0, Value.int .u8 0, Value.int .u8 0] 27) = w6 at Ag hk6 h06 ⊢
         generalize wr.heap.size = B3 at Ag A3 ⊢
         have Ax := Hh Ag
         have Bl := Hh hk6
         have Bf := Hh h06
         clear Ag hk6 h06 Av A6 A7 Bb
         have hix : ∀ i, i < 8 → (wcells F).toArray[i]? = some (.int .u32 ((F.getD i 0).toNat : Int)) := fun i hi => by
          rw [List.getElem?_toArray]; exact wcells_get _ _ (by rw [H8.o]; exact hi)
         have A8 := Hh hix
         clear hix
         generalize (wcells F).toArray = X at A8 ⊢
         go_loopw [67] (fun i wr => ∃ k : Nat, k ≤ 8 ∧ i = .int .i64 k ∧ Has wr B3 27 (bcells (outTo F k)).toArray ∧ Kept (· = B3) w6 wr) (fun i _ => 8 - (intOf i).toNat)
         case atStart => exact ⟨0, by omega, rfl, Ax.o, Kept.refl _ _⟩
         case round =>
          obtain ⟨k, hk, rfl, hW, hK⟩ := hrel
          have HW := Hh hW
          have Ac := Hh hK
          clear hW hK
          by_cases hlt : k < 8
          · have A5 := fun w => index_row (t := 53) Tryz.underlying53 i32 A4 (by kernel_rfl) (by kernel_rfl) hlt (A8.o k hlt) w
            obtain ⟨y, hy⟩ : ∃ y, y = F.getD k 0 := ⟨_, rfl⟩
            rw [← hy] at A5
            have HY := Hh hy
            clear hy
            have cellB : ∀ (x : World) (b : List Nat), b.length = 32 → Has x B3 27 (bcells b).toArray → ∀ i, i < 32 → ∃ z : Nat, x.cell? ⟨B3, i, none⟩ = some (.int .u8 (z : Int)) := fun x b hb hx i hi =>
             ⟨_, hx.cell_is (by rw [List.getElem?_toArray]; exact bcells_get _ _ (by omega))⟩
            obtain ⟨z0, q0⟩ := cellB _ _ (outTo_length F k H8.o hk) HW.o (4 * k) (by omega)
            obtain ⟨z1, q1⟩ := cellB _ _ (outTo_length F k H8.o hk) HW.o (4 * k + 1) (by omega)
            obtain ⟨z2, q2⟩ := cellB _ _ (outTo_length F k H8.o hk) HW.o (4 * k + 2) (by omega)
            obtain ⟨z3, q3⟩ := cellB _ _ (outTo_length F k H8.o hk) HW.o (4 * k + 3) (by omega)
            clear cellB
            have f0 := HW.o.free (4 * k)
            have f1 := HW.o.free (4 * k + 1)
            have f2 := HW.o.free (4 * k + 2)
            have f3 := HW.o.free (4 * k + 3)
            have r1 : ∀ u, (wr.setCell ⟨B3, 4 * k, none⟩ u).cell? ⟨B3, 4 * k + 1, none⟩ = some (.int .u8 (z1 : Int)) := fun u => (World.cell?_setCell_other wr _ _ u (by simp)).trans q1
            have r2 : ∀ u u', ((wr.setCell ⟨B3, 4 * k, none⟩ u).setCell ⟨B3, 4 * k + 1, none⟩ u').cell? ⟨B3, 4 * k + 2, none⟩ = some (.int .u8 (z2 : Int)) := fun u u' => (World.cell?_setCell_other _ _ _ u' (by simp)).trans ((World.cell?_setCell_other wr _ _ u (by simp)).trans q2)
            have r3 : ∀ u u' u'', (((wr.setCell ⟨B3, 4 * k, none⟩ u).setCell ⟨B3, 4 * k + 1, none⟩ u').setCell ⟨B3, 4 * k + 2, none⟩ u'').cell? ⟨B3, 4 * k + 3, none⟩ = some (.int .u8 (z3 : Int)) := fun u u' u'' => (World.cell?_setCell_other _ _ _ u'' (by simp)).trans ((World.cell?_setCell_other _ _ _ u' (by simp)).trans ((World.cell?_setCell_other wr _ _ u (by simp)).trans q3))
            have Aa := (((HW.o.setB (4 * k) (y.toNat / 16777216)).setB (4 * k + 1) (y.toNat / 65536 % 256)).setB (4 * k + 2) (y.toNat / 256 % 256)).setB (4 * k + 3) (y.toNat % 256)
            rw [HY.o, outTo_set F k H8.o hlt, ← HY.o] at Aa
            have Ai := Hh Aa
            clear Aa
            go_wp2
            go_roundw
            case rel => exact ⟨k + 1, by omega, by go_num, Ai.o, (((Ac.o.set (.inl rfl) _).set (.inl rfl) _).set (.inl rfl) _).set (.inl rfl) _⟩
            case measure => simp [intOf]; omega
          · have hk8 : k = 8 := by omega
            have h1 : Has wr B3 27 (bcells (digest K s0 m)).toArray := by
             have := HW.o
             rw [hk8, outTo_full F H8.o, HD.o] at this
             exact this
            have h0 := Bf.o.kept Ac.o (by omega)
            have hk7 : Kept (fun k => w.heap.size ≤ k) w wr := Bl.o.trans (Ac.o.mono (fun k _ e => by have e' : k = B3 := e; omega))
            have h32 := digest_length K s0 HT.o.len m
            obtain ⟨D, hDD⟩ : ∃ D, D = digest K s0 m := ⟨_, rfl⟩
            rw [← hDD] at h1 h32
            have Bg := Hh hDD
            clear hDD
            have hsz : (Tryz.prog.info? 27).map (·.size) = some (bcells D).toArray.size := by rw [List.size_toArray, bcells_length, h32]; kernel_rfl
            have Ao : (bcells (List.replicate 32 0)).toArray.size = (bcells D).toArray.size := by rw [List.size_toArray, List.size_toArray, bcells_length, bcells_length, h32, List.length_replicate]
            have Am : Has (wr.setRow w.heap.size (bcells D).toArray) w.heap.size 27 (bcells D).toArray := h0.setRow
            have Ae : Below w.heap.size w (wr.setRow w.heap.size (bcells D).toArray) := (hk7.below (Nat.le_refl _) (fun k hk => hk)).trans ((kept_setRow (g := w.heap.size) wr (bcells D).toArray).below (Nat.le_of_lt h0.lt) (fun k hk => by have e : k = w.heap.size := hk; omega))
            have Ay := Hh Am
            have Af := Hh Ae
            have HZ := Hh hsz
            have Bq := Hh Ao
            have Bj := Hh h1
            have Bi := Hh h0
            clear hk8 h1 h0 hk7 h32 hsz Ao Am Ae
            go_wp2_with (first
             | (refine wpList_load_row rfl 27 (.tmp 8) rfl B3 rfl 27 (bcells D).toArray (0, 0) _ Bj.o Tryz.underlying27 rfl HZ.o ?_)
             | (refine wpList_store_row rfl 27 (.tmp 2) (.tmp 98) rfl w.heap.size (bcells D).toArray rfl rfl 27 _ Bi.o HZ.o Bq.o (all_oneCell_toArray (bcells_one D)) ?_))
            refine bodyPost_ret (results_cell_row rfl _ _ w.heap.size 27 (bcells D).toArray (0, 0) _ rfl Ay.o Tryz.underlying27 rfl HZ.o) rfl ?_
            exact ⟨by rw [← Bg.o]; rfl, Af.o⟩

/- The walk of sha.Sum: the digest of parts. -/

def Parts (w : World) (v : Value) (ps : List (List Nat)) : Prop :=
 ∃ a c, v = .slice a ps.length c ∧ (0 < ps.length → ∃ pg po, a = some ⟨pg, po, none⟩ ∧ ∀ i, i < ps.length → ∃ pv, w.cell? ⟨pg, po + i, none⟩ = some pv ∧ Bytes w w.heap.size pv (ps.getD i []))

theorem Bytes.up {w : World} {g g' : Nat} {v : Value} {b : List Nat} (h : Bytes w g v b) (hg : w.heap.size ≤ g') : Bytes w g' v b := by
 obtain ⟨a, c, rfl, h1, h2, h3⟩ := h
 refine ⟨a, c, rfl, h1, h2, fun h => ?_⟩
 obtain ⟨bg, bo, rfl, hne, hc⟩ := h3 h
 have := World.block_lt_of_cell? w _ (hc 0 h)
 exact ⟨bg, bo, rfl, by dsimp only at this; omega, hc⟩
theorem Bytes.alive {w w' : World} {g g' : Nat} {v : Value} {b : List Nat} (h : Bytes w g v b) (hb : Below w.heap.size w w') (hg : w.heap.size ≤ g') : Bytes w' g' v b := by
 obtain ⟨a, c, rfl, h1, h2, h3⟩ := h
 refine ⟨a, c, rfl, h1, h2, fun h => ?_⟩
 obtain ⟨bg, bo, rfl, hne, hc⟩ := h3 h
 have := World.block_lt_of_cell? w _ (hc 0 h)
 exact ⟨bg, bo, rfl, by dsimp only at this; omega, fun i hi => cell_kept (Kept.of_below (S := fun _ => False) hb) (hc i hi) (fun h => h)⟩
theorem Tabs.drew {K s0 : List Wd} {w : World} (h : Tabs K s0 w) : Tabs K s0 w.drew := ⟨h.k, h.s, h.low, h.len⟩
theorem Tabs.start {K s0 : List Wd} {w : World} (h : Tabs K s0 w) : w.rangeAt 1 0 (wcells s0) := fun j v hv => by
 have hj := (List.getElem?_eq_some_iff.1 hv).1
 rw [wcells_length, h.len] at hj
 rw [Nat.zero_add, h.s j hj, ← hv, wcells_get _ _ (by rw [h.len]; exact hj)]
theorem take_flatten (ps : List (List Nat)) (k : Nat) (hk : k < ps.length) : (ps.take k).flatten ++ ps.getD k [] = (ps.take (k + 1)).flatten := by
 rw [List.take_add_one, List.flatten_append, List.getElem?_eq_getElem hk]
 simp [hk]
theorem take_flatten_le (ps : List (List Nat)) (k : Nat) : (ps.take k).flatten.length ≤ ps.flatten.length := by
 have : ps.flatten = (ps.take k).flatten ++ (ps.drop k).flatten := by rw [← List.flatten_append, List.take_append_drop]
 rw [this, List.length_append]; omega

theorem two_row (w : World) (c0 : Array Value) (t0 : TypeId) (c1 : Array Value) (t1 : TypeId) (C : Array Value) :
  Has (((w.alloc (.cells c0 t0)).alloc (.cells c1 t1)).setRow (w.heap.size + 1) C) w.heap.size t0 c0 ∧ Has (((w.alloc (.cells c0 t0)).alloc (.cells c1 t1)).setRow (w.heap.size + 1) C) (w.heap.size + 1) t1 C ∧
   Below w.heap.size w (((w.alloc (.cells c0 t0)).alloc (.cells c1 t1)).setRow (w.heap.size + 1) C) := by
 have s1 : ∀ (x : World) o, (x.alloc o).heap.size = x.heap.size + 1 := fun x o => by simp
 have h1 := Has.new (w.alloc (.cells c0 t0)) t1 c1
 rw [s1] at h1
 have hb : Below w.heap.size w ((w.alloc (.cells c0 t0)).alloc (.cells c1 t1)) := ((Below.refl _ _).alloc (Nat.le_refl _) _).alloc (by rw [s1]; omega) _
 have hk := kept_setRow (g := w.heap.size + 1) ((w.alloc (.cells c0 t0)).alloc (.cells c1 t1)) C
 exact ⟨((Has.new w t0 c0).alloc _).kept hk (by omega), h1.setRow, hb.trans (hk.below (by rw [s1, s1]; omega) (fun k hk => by have e : k = w.heap.size + 1 := hk; omega))⟩

set_option maxRecDepth 100000 in
set_option maxHeartbeats 2000000 in
theorem sum_is (K s0 : List Wd) (w : World) (v : Value) (ps : List (List Nat)) (hT : Tabs K s0 w) (hP : Parts w v ps) (hl : ps.flatten.length ≤ 1000000000) (hn : ps.length ≤ 1000000000) :
  Calls Tryz.prog 78 #[v] w fun e w' => e = .returned (arr (digest K s0 ps.flatten)) ∧ Below w.heap.size w w' := by
 obtain ⟨a, c, rfl, hps⟩ := hP
 obtain ⟨x0, x1, x2, x3, x4, x5, x6, x7, hS⟩ := eight_words _ hT.len
 have hst := hT.start
 rw [hS] at hst
 have Ah : w.rangeAt 1 0 [Value.int .u32 (x0.toNat : Int), Value.int .u32 (x1.toNat : Int), Value.int .u32 (x2.toNat : Int), Value.int .u32 (x3.toNat : Int), Value.int .u32 (x4.toNat : Int), Value.int .u32 (x5.toNat : Int), Value.int .u32 (x6.toNat : Int), Value.int .u32 (x7.toNat : Int)] := hst
 obtain ⟨n, hnn⟩ : ∃ n, n = ps.length := ⟨_, rfl⟩
 rw [← hnn] at hn hps
 rw [← hnn]
 have HN := Hh hnn
 have Ax := Hh hps
 have Aq := Hh Ah
 have HS := Hh hS
 have HT := Hh hT
 have HL := Hh hl
 clear hT hst Ah hS hnn hps hl
 have hC : ((((((((Tryz.zeroCells173).setIfInBounds 0 (Value.int .u32 (x0.toNat : Int))).setIfInBounds 1 (Value.int .u32 (x1.toNat : Int))).setIfInBounds 2 (Value.int .u32 (x2.toNat : Int))).setIfInBounds 3 (Value.int .u32 (x3.toNat : Int))).setIfInBounds 4 (Value.int .u32 (x4.toNat : Int))).setIfInBounds 5 (Value.int .u32 (x5.toNat : Int))).setIfInBounds 6 (Value.int .u32 (x6.toNat : Int))).setIfInBounds 7 (Value.int .u32 (x7.toNat : Int)) = (hcells [x0, x1, x2, x3, x4, x5, x6, x7] (List.replicate 64 0) 0 0).toArray := by kernel_rfl
 have hC1 : (Tryz.prog.info? 173).map (·.size) = some (((((((((Tryz.zeroCells173).setIfInBounds 0 (Value.int .u32 (x0.toNat : Int))).setIfInBounds 1 (Value.int .u32 (x1.toNat : Int))).setIfInBounds 2 (Value.int .u32 (x2.toNat : Int))).setIfInBounds 3 (Value.int .u32 (x3.toNat : Int))).setIfInBounds 4 (Value.int .u32 (x4.toNat : Int))).setIfInBounds 5 (Value.int .u32 (x5.toNat : Int))).setIfInBounds 6 (Value.int .u32 (x6.toNat : Int))).setIfInBounds 7 (Value.int .u32 (x7.toNat : Int))).size := by rw [hC]; kernel_rfl
 have hC2 : Tryz.zeroCells173.size = (((((((((Tryz.zeroCells173).setIfInBounds 0 (Value.int .u32 (x0.toNat : Int))).setIfInBounds 1 (Value.int .u32 (x1.toNat : Int))).setIfInBounds 2 (Value.int .u32 (x2.toNat : Int))).setIfInBounds 3 (Value.int .u32 (x3.toNat : Int))).setIfInBounds 4 (Value.int .u32 (x4.toNat : Int))).setIfInBounds 5 (Value.int .u32 (x5.toNat : Int))).setIfInBounds 6 (Value.int .u32 (x6.toNat : Int))).setIfInBounds 7 (Value.int .u32 (x7.toNat : Int))).size := by rw [hC]; kernel_rfl
 have hC3 : (((((((((Tryz.zeroCells173).setIfInBounds 0 (Value.int .u32 (x0.toNat : Int))).setIfInBounds 1 (Value.int .u32 (x1.toNat : Int))).setIfInBounds 2 (Value.int .u32 (x2.toNat : Int))).setIfInBounds 3 (Value.int .u32 (x3.toNat : Int))).setIfInBounds 4 (Value.int .u32 (x4.toNat : Int))).setIfInBounds 5 (Value.int .u32 (x5.toNat : Int))).setIfInBounds 6 (Value.int .u32 (x6.toNat : Int))).setIfInBounds 7 (Value.int .u32 (x7.toNat : Int))).all (·.oneCell') = true := by rw [hC]; kernel_rfl
 have HC := Hh hC
 have Am := Hh hC1
 have An := Hh hC2
 have Ao := Hh hC3
 clear hC hC1 hC2 hC3
 go_enter Tryz.func78, Tryz.ntmps78
 go_wp2_with (first
  | (refine wpList_load_mid rfl 53 (.global 1) rfl 1 0 rfl [Value.int .u32 (x0.toNat : Int), Value.int .u32 (x1.toNat : Int), Value.int .u32 (x2.toNat : Int), Value.int .u32 (x3.toNat : Int), Value.int .u32 (x4.toNat : Int), Value.int .u32 (x5.toNat : Int), Value.int .u32 (x6.toNat : Int), Value.int .u32 (x7.toNat : Int)] _ (World.rangeAt_alloc Aq.o _) Tryz.underlying53 rfl (by kernel_rfl) ?_)
  | (refine wpList_store_row rfl 173 (.tmp 3) (.tmp 7) rfl (w.heap.size + 1) (((((((((Tryz.zeroCells173).setIfInBounds 0 (Value.int .u32 (x0.toNat : Int))).setIfInBounds 1 (Value.int .u32 (x1.toNat : Int))).setIfInBounds 2 (Value.int .u32 (x2.toNat : Int))).setIfInBounds 3 (Value.int .u32 (x3.toNat : Int))).setIfInBounds 4 (Value.int .u32 (x4.toNat : Int))).setIfInBounds 5 (Value.int .u32 (x5.toNat : Int))).setIfInBounds 6 (Value.int .u32 (x6.toNat : Int))).setIfInBounds 7 (Value.int .u32 (x7.toNat : Int))) rfl rfl 173 Tryz.zeroCells173 (heap_alloc2_new w _ _) Am.o An.o Ao.o ?_))
 have h3 := two_row w #[Value.int .u8 0, Value.int .u8 0, Value.int .u8 0, Value.int .u8 0, Value.int .u8 0, Value.int .u8 0, Value.int .u8 0, Value.int .u8 0, Value.int .u8 0, Value.int .u8 0, Value.int .u8 0, Value.int .u8 0, Value.int .u8 0, Value.int .u8 0, Value.int .u8 0, Value.int .u8 0, Value.int .u8 0, Value.int .u8 0, Value.int .u8 0, Value.int .u8 0, Value.int .u8 0, Value.int .u8 0, Value.int .u8 0, Value.int .u8 0, Value.int .u8 0, Value.int .u8 0, Value.int .u8 0, Value.int .u8 0, Value.int .u8 0, Value.int .u8 0, Value.int .u8 0, Value.int .u8 0] 27 Tryz.zeroCells173 173 (((((((((Tryz.zeroCells173).setIfInBounds 0 (Value.int .u32 (x0.toNat : Int))).setIfInBounds 1 (Value.int .u32 (x1.toNat : Int))).setIfInBounds 2 (Value.int .u32 (x2.toNat : Int))).setIfInBounds 3 (Value.int .u32 (x3.toNat : Int))).setIfInBounds 4 (Value.int .u32 (x4.toNat : Int))).setIfInBounds 5 (Value.int .u32 (x5.toNat : Int))).setIfInBounds 6 (Value.int .u32 (x6.toNat : Int))).setIfInBounds 7 (Value.int .u32 (x7.toNat : Int)))
 generalize ((w.alloc (.cells #[Value.int .u8 0, Value.int .u8 0, Value.int .u8 0, Value.int .u8 0, Value.int .u8 0, Value.int .u8 0, Value.int .u8 0, Value.int .u8 0, Value.int .u8 0, Value.int .u8 0, Value.int .u8 0, Value.int .u8 0, Value.int .u8 0, Value.int .u8 0, Value.int .u8 0, Value.int .u8 0, Value.int .u8 0, Value.int .u8 0, Value.int .u8 0, Value.int .u8 0, Value.int .u8 0, Value.int .u8 0, Value.int .u8 0, Value.int .u8 0, Value.int .u8 0, Value.int .u8 0, Value.int .u8 0, Value.int .u8 0, Value.int .u8 0, Value.int .u8 0, Value.int .u8 0, Value.int .u8 0] 27)).alloc (.cells Tryz.zeroCells173 173)).setRow (w.heap.size + 1) (((((((((Tryz.zeroCells173).setIfInBounds 0 (Value.int .u32 (x0.toNat : Int))).setIfInBounds 1 (Value.int .u32 (x1.toNat : Int))).setIfInBounds 2 (Value.int .u32 (x2.toNat : Int))).setIfInBounds 3 (Value.int .u32 (x3.toNat : Int))).setIfInBounds 4 (Value.int .u32 (x4.toNat : Int))).setIfInBounds 5 (Value.int .u32 (x5.toNat : Int))).setIfInBounds 6 (Value.int .u32 (x6.toNat : Int))).setIfInBounds 7 (Value.int .u32 (x7.toNat : Int))) = W at h3 ⊢
 obtain ⟨h0, h1, Ab⟩ := h3
 have hb0 : Has W w.heap.size 27 (bcells (List.replicate 32 0)).toArray := h0
 rw [HC.o, ← HS.o] at h1
 have hh : Hsh K s0 W (w.heap.size + 1) [] := ⟨List.replicate 64 0, ⟨h1, HT.o.len, List.length_replicate, fun x hx => by rw [List.eq_of_mem_replicate hx]; decide⟩, rfl, by decide⟩
 have H0 := Hh hb0
 have H1 := Hh hh
 have Aa := Hh Ab
 clear h0 h1 Ab hb0 hh HC Am An Ao Aq
 go_loopw [10] (fun i wr => ∃ k : Nat, k ≤ n ∧ i = .int .i64 k ∧ Hsh K s0 wr (w.heap.size + 1) (ps.take k).flatten ∧ Kept (· = w.heap.size + 1) W wr) (fun i _ => n - (intOf i).toNat)
 case atStart => exact ⟨0, by omega, rfl, H1.o, Kept.refl _ _⟩
 case round =>
  obtain ⟨k, hk, rfl, hW, hK⟩ := hrel
  have HW := Hh hW
  have Ac := Hh hK
  clear hW hK
  by_cases hlt : k < n
  · have hn0 : 0 < n := by omega
    obtain ⟨pg, po, hpa, Ag⟩ := Ax.o hn0
    obtain ⟨pv, hpv, hB⟩ := Ag k hlt
    clear Ag
    subst hpa
    have hpl := World.block_lt_of_cell? w _ hpv
    have cpv : wr.cell? ⟨pg, po + k, none⟩ = some pv := by
     have h := cell_kept Aa.o.kept_up hpv (by dsimp only at hpl; show ¬ w.heap.size ≤ pg; omega)
     exact cell_kept Ac.o h (by dsimp only at hpl; show ¬ pg = w.heap.size + 1; omega)
    have hBw : Bytes wr (w.heap.size + 1) pv (ps.getD k []) := (hB.alive Aa.o (Nat.le_succ _)).kept Ac.o
    have Al := Hh hBw
    obtain ⟨pa, pn, pc, rfl⟩ : ∃ pa pn pc, pv = .slice pa pn pc := by obtain ⟨a', c', e, _⟩ := hB; exact ⟨_, _, _, e⟩
    clear hB hBw hpv hpl
    go_wp2_with fail
    have hTw := HT.o.kept (Aa.o.kept_up.trans (Ac.o.mono (fun k _ e => by have e' : k = w.heap.size + 1 := e; show w.heap.size ≤ k; omega))) (fun k hk => Nat.le_trans HT.o.low hk)
    have Ae : (ps.take k).flatten.length + (ps.getD k []).length ≤ 1000000000 := by
     have := take_flatten_le ps (k + 1)
     rw [← take_flatten ps k (by rw [← HN.o]; exact hlt), List.length_append] at this
     have := HL.o
     omega
    refine (write_is K s0 wr (w.heap.size + 1) (ps.take k).flatten _ (ps.getD k []) hTw HW.o (by have := HT.o.low; omega) Al.o Ae).mono ?_
    rintro _ w4 ⟨rfl, hh4, hk4⟩
    rw [take_flatten ps k (by rw [← HN.o]; exact hlt)] at hh4
    have As := Hh hh4
    have Av := Hh (Ac.o.trans hk4)
    clear hTw Ae hh4 hk4 HW Ac Al
    go_wp2
    go_roundw
    case rel => exact ⟨k + 1, by omega, by go_num, As.o, Av.o⟩
    case measure => simp [intOf]; omega
  · have hk9 : k = n := by omega
    have hTw := HT.o.kept (Aa.o.kept_up.trans (Ac.o.mono (fun k _ e => by have e' : k = w.heap.size + 1 := e; show w.heap.size ≤ k; omega))) (fun k hk => Nat.le_trans HT.o.low hk)
    have h0 := H0.o.kept Ac.o (by omega)
    have hh : Hsh K s0 wr (w.heap.size + 1) ps.flatten := by
     have := HW.o
     rw [hk9, HN.o, List.take_length] at this
     exact this
    have hkk : Kept (fun k => w.heap.size ≤ k) w wr := Aa.o.kept_up.trans (Ac.o.mono (fun k _ e => by have e' : k = w.heap.size + 1 := e; show w.heap.size ≤ k; omega))
    have Ay := Hh hTw
    have Ap := Hh h0
    have Au := Hh hh
    have Aw := Hh hkk
    clear hk9 hTw h0 hh hkk HW Ac
    go_wp2_with fail
    refine (hsum_is K s0 wr (w.heap.size + 1) ps.flatten Ay.o Au.o).mono ?_
    rintro _ w5 ⟨rfl, hb5⟩
    have h05 := Ap.o.below hb5 Ap.o.lt
    have hk5 : Kept (fun k => w.heap.size ≤ k) w w5 := Aw.o.trans ((Kept.of_below (S := fun k => w.heap.size ≤ k) hb5))
    have h32 := digest_length K s0 HT.o.len ps.flatten
    obtain ⟨D, hDD⟩ : ∃ D, D = digest K s0 ps.flatten := ⟨_, rfl⟩
    rw [← hDD] at h32 ⊢
    have hsz : (Tryz.prog.info? 27).map (·.size) = some (bcells D).toArray.size := by rw [List.size_toArray, bcells_length, h32]; kernel_rfl
    have Ai : (bcells (List.replicate 32 0)).toArray.size = (bcells D).toArray.size := by rw [List.size_toArray, List.size_toArray, bcells_length, bcells_length, h32, List.length_replicate]
    have Af : Has (w5.setRow w.heap.size (bcells D).toArray) w.heap.size 27 (bcells D).toArray := h05.setRow
    have Ab : Below w.heap.size w (w5.setRow w.heap.size (bcells D).toArray) := (hk5.below (Nat.le_refl _) (fun k hk => hk)).trans ((kept_setRow (g := w.heap.size) w5 (bcells D).toArray).below (Nat.le_of_lt h05.lt) (fun k hk => by have e : k = w.heap.size := hk; omega))
    have Ar := Hh hDD
    have Ak := Hh Af
    have Ad := Hh Ab
    have HZ := Hh hsz
    have Az := Hh Ai
    have Aj := Hh h05
    clear h05 hk5 h32 hsz Ai Af Ab hDD hb5
    unfold arr
    go_wp2_with (refine wpList_store_row rfl 27 (.tmp 2) (.tmp 17) rfl w.heap.size (bcells D).toArray rfl rfl 27 _ Aj.o HZ.o Az.o (all_oneCell_toArray (bcells_one D)) ?_)
    refine bodyPost_ret (results_cell_row rfl _ _ w.heap.size 27 (bcells D).toArray (0, 0) _ rfl Ak.o Tryz.underlying27 rfl HZ.o) rfl ?_
    exact ⟨by rw [← Ar.o]; rfl, Ad.o⟩
end Go.Proofs.YtknfbccbdiidjaaGreatDoor
