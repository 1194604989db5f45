/- The digest as a plain function: words of 32 bits, a block mixed into a state, the digest of bytes; how the machine's operations on u32 are those on words. -/
import Derived.Test.YtngmpcmeebcdmaaDoorBase
namespace Go.Proofs.YtngmpcmeebcdmaaDoor
set_option linter.unusedVariables false
set_option linter.unusedSimpArgs false

/-- a word of 32 bits. -/
abbrev Wd := BitVec 32
/-- turned to the right. -/
def rotr (n : Nat) (x : Wd) : Wd := (x <<< (32 - n)) ||| (x >>> n)
def lil0 (x : Wd) : Wd := rotr 7 x ^^^ rotr 18 x ^^^ (x >>> 3)
def lil1 (x : Wd) : Wd := rotr 17 x ^^^ rotr 19 x ^^^ (x >>> 10)
def big0 (x : Wd) : Wd := rotr 2 x ^^^ rotr 13 x ^^^ rotr 22 x
def big1 (x : Wd) : Wd := rotr 6 x ^^^ rotr 11 x ^^^ rotr 25 x
def cho (e f g : Wd) : Wd := (e &&& f) ^^^ (~~~e &&& g)
def maj (a b c : Wd) : Wd := (a &&& b) ^^^ (a &&& c) ^^^ (b &&& c)
/-- four bytes as a word, the highest first. -/
def word (bs : List Nat) (i : Nat) : Wd := BitVec.ofNat 32 (((bs.getD (4 * i) 0 * 256 + bs.getD (4 * i + 1) 0) * 256 + bs.getD (4 * i + 2) 0) * 256 + bs.getD (4 * i + 3) 0)
/-- the next word of a schedule. -/
def nextWord (bs : List Nat) (l : List Wd) (k : Nat) : Wd :=
  if k < 16 then word bs k else l.getD (k - 16) 0 + lil0 (l.getD (k - 15) 0) + l.getD (k - 7) 0 + lil1 (l.getD (k - 2) 0)
/-- the first k words of a block's schedule. -/
def sched (bs : List Nat) : Nat → List Wd
  | 0 => []
  | k + 1 => sched bs k ++ [nextWord bs (sched bs k) k]
/-- eight words. -/
structure St where
  (a b c d e f g h : Wd)
def St.list (s : St) : List Wd := [s.a, s.b, s.c, s.d, s.e, s.f, s.g, s.h]
def St.of (l : List Wd) : St := ⟨l.getD 0 0, l.getD 1 0, l.getD 2 0, l.getD 3 0, l.getD 4 0, l.getD 5 0, l.getD 6 0, l.getD 7 0⟩
def tee (s : St) (k w : Wd) : Wd := s.h + big1 s.e + cho s.e s.f s.g + k + w
def you (s : St) : Wd := big0 s.a + maj s.a s.b s.c
/-- one round. -/
def rnd (s : St) (k w : Wd) : St := ⟨tee s k w + you s, s.a, s.b, s.c, s.d + tee s k w, s.e, s.f, s.g⟩
/-- the first k rounds. -/
def rnds (K ws : List Wd) (s : St) : Nat → St
  | 0 => s
  | k + 1 => rnd (rnds K ws s k) (K.getD k 0) (ws.getD k 0)
/-- the first k words of a state, each with what was added to it; the others as they were. -/
def addTo (s t : List Wd) (k : Nat) : List Wd := (List.range 8).map fun i => if i < k then s.getD i 0 + t.getD i 0 else s.getD i 0
/-- a block of 64 bytes, mixed into a state. -/
def mixF (K s : List Wd) (bs : List Nat) : List Wd := addTo s (rnds K (sched bs 64) (St.of s) 64).list 8
/-- k blocks, one behind the other. -/
def eat (K : List Wd) : Nat → List Wd → List Nat → List Wd
  | 0, s, _ => s
  | k + 1, s, m => eat K k (mixF K s (m.take 64)) (m.drop 64)
/-- eight bytes of a number, the highest first. -/
def eight (n : Nat) : List Nat := (List.range 8).map fun i => n / 2 ^ (8 * (7 - i)) % 256
/-- what follows the last full block. -/
def tailOf (rest : List Nat) (n : Nat) : List Nat :=
  rest ++ 128 :: (List.replicate ((if rest.length < 56 then 64 else 128) - 9 - rest.length) 0 ++ eight (8 * n))
/-- a word's four bytes. -/
def bytesOf (x : Wd) : List Nat := [x.toNat / 16777216, x.toNat / 65536 % 256, x.toNat / 256 % 256, x.toNat % 256]
/-- the digest. -/
def digest (K s0 : List Wd) (m : List Nat) : List Nat :=
  let s := eat K (m.length / 64) s0 m
  let t := tailOf (m.drop (64 * (m.length / 64))) m.length
  (eat K (t.length / 64) s t).flatMap bytesOf

theorem sched_length (bs : List Nat) (k : Nat) : (sched bs k).length = k := by
  induction k with
  | zero => rfl
  | succ k ih => simp [sched, ih]
theorem addTo_length (s t : List Wd) (k : Nat) : (addTo s t k).length = 8 := by simp [addTo]
theorem mixF_length (K s : List Wd) (bs : List Nat) : (mixF K s bs).length = 8 := addTo_length _ _ _
theorem addTo_zero (s t : List Wd) (h : s.length = 8) : addTo s t 0 = s := by
  apply List.ext_getElem
  · simp [addTo, h]
  · intro i h1 h2
    simp [addTo, h2]
theorem addTo_set (s t : List Wd) (k : Nat) (hk : k < 8) : (addTo s t k).set k (s.getD k 0 + t.getD k 0) = addTo s t (k + 1) := by
  apply List.ext_getElem?
  intro i
  simp only [addTo, List.getElem?_set, List.length_map, List.length_range, List.getElem?_map]
  by_cases h : k = i
  · subst h; simp [hk]
  · rw [if_neg h]
    by_cases h8 : i < 8
    · simp only [List.getElem?_range h8, Option.map_some]
      by_cases h2 : i < k
      · rw [if_pos h2, if_pos (by omega)]
      · rw [if_neg h2, if_neg (by omega)]
    · simp [h8]
theorem eat_length (K s : List Wd) (hs : s.length = 8) (k : Nat) (m : List Nat) : (eat K k s m).length = 8 := by
  induction k generalizing s m with
  | zero => exact hs
  | succ k ih => exact ih _ (mixF_length _ _ _) _
theorem eat_add (K s : List Wd) (j k : Nat) (m : List Nat) : eat K (j + k) s m = eat K k (eat K j s m) (m.drop (64 * j)) := by
  induction j generalizing s m with
  | zero => simp [eat]
  | succ j ih =>
    rw [Nat.succ_add]
    simp only [eat]
    rw [ih, List.drop_drop]
    congr 2
    omega
theorem eat_append (K s : List Wd) (k : Nat) (m b : List Nat) (h : 64 * k ≤ m.length) : eat K k s (m ++ b) = eat K k s m := by
  induction k generalizing s m with
  | zero => rfl
  | succ k ih =>
    simp only [eat]
    rw [List.take_append_of_le_length (by omega), List.drop_append_of_le_length (by omega), ih _ _ (by simp; omega)]
theorem eight_length (n : Nat) : (eight n).length = 8 := by simp [eight]
theorem tailOf_length (rest : List Nat) (n : Nat) (h : rest.length < 64) : (tailOf rest n).length = if rest.length < 56 then 64 else 128 := by
  unfold tailOf
  simp only [List.length_append, List.length_cons, List.length_replicate, eight_length]
  split <;> omega
theorem digest_length (K s0 : List Wd) (hs : s0.length = 8) (m : List Nat) : (digest K s0 m).length = 32 := by
  unfold digest
  have h8 := eat_length K (eat K (m.length / 64) s0 m) (eat_length K s0 hs _ _) ((tailOf (m.drop (64 * (m.length / 64))) m.length).length / 64) (tailOf (m.drop (64 * (m.length / 64))) m.length)
  simp only [List.length_flatMap]
  generalize eat K _ (eat K (m.length / 64) s0 m) _ = l at h8
  match l, h8 with
  | [_, _, _, _, _, _, _, _], _ => rfl
theorem digest_hash (K s0 : List Wd) (hs : s0.length = 8) (m : List Nat) : IsHash (digest K s0 m) := by
  refine ⟨digest_length K s0 hs m, fun k hk => ?_⟩
  unfold digest at hk
  obtain ⟨x, _, hx⟩ := List.mem_flatMap.1 hk
  have := x.isLt
  simp only [bytesOf, List.mem_cons, List.not_mem_nil, or_false] at hx
  omega

/-! the machine's operations on u32 -/
theorem of32 (x : Wd) : BitVec.ofInt IntKind.u32.bits (x.toNat : Int) = x := by
  show BitVec.ofInt 32 (x.toNat : Int) = x
  rw [BitVec.ofInt_natCast]
  simp
theorem wrap_nat (n : Nat) : IntKind.u32.wrap (n : Int) = ((n % 4294967296 : Nat) : Int) := by rw [IntKind.wrap_u32]; omega
theorem wrap_wd (x : Wd) : IntKind.u32.wrap (x.toNat : Int) = (x.toNat : Int) := by
  rw [wrap_nat, Nat.mod_eq_of_lt x.isLt]
theorem xor_wd (x y : Wd) : bits .xor .u32 (x.toNat : Int) (y.toNat : Int) = ((x ^^^ y).toNat : Int) := by
  unfold bits
  simp only [of32]
  exact wrap_wd (x ^^^ y)
theorem and_wd (x y : Wd) : bits .and .u32 (x.toNat : Int) (y.toNat : Int) = ((x &&& y).toNat : Int) := by
  unfold bits
  simp only [of32]
  exact wrap_wd (x &&& y)
theorem or_wd (x y : Wd) : bits .or .u32 (x.toNat : Int) (y.toNat : Int) = ((x ||| y).toNat : Int) := by
  unfold bits
  simp only [of32]
  exact wrap_wd (x ||| y)
theorem add_wd (x y : Wd) : ((x.toNat : Int) + (y.toNat : Int)) % 4294967296 = ((x + y).toNat : Int) := by
  rw [BitVec.toNat_add]; omega
theorem wadd_wd (x y : Wd) : IntKind.u32.wrap ((x.toNat : Int) + (y.toNat : Int)) = ((x + y).toNat : Int) := by
  rw [IntKind.wrap_u32]; exact add_wd x y
theorem shl_wd (x : Wd) (n : Nat) : ((x.toNat : Int) * 2 ^ n) % 4294967296 = ((x <<< n).toNat : Int) := by
  rw [BitVec.toNat_shiftLeft, Nat.shiftLeft_eq]
  have : ((x.toNat : Int) * 2 ^ n) = ((x.toNat * 2 ^ n : Nat) : Int) := by rw [Int.natCast_mul, Int.natCast_pow]; rfl
  rw [this]; omega
theorem wshl_wd (x : Wd) (n : Nat) : IntKind.u32.wrap ((x.toNat : Int) * 2 ^ n) = ((x <<< n).toNat : Int) := by
  rw [IntKind.wrap_u32]; exact shl_wd x n
theorem shr_wd (x : Wd) (n : Nat) : (x.toNat : Int) / 2 ^ n = ((x >>> n).toNat : Int) := by
  rw [BitVec.toNat_ushiftRight, Nat.shiftRight_eq_div_pow, Int.natCast_ediv, Int.natCast_pow]; rfl
theorem not_wd (x : Wd) : 4294967295 - (x.toNat : Int) = ((~~~x).toNat : Int) := by
  rw [BitVec.toNat_not]; have := x.isLt; omega

theorem lil0_num (x : Wd) : bits .xor .u32 (bits .xor .u32 ((rotr 7 x).toNat : Int) ((rotr 18 x).toNat : Int)) ((x.toNat : Int) / 8) = ((lil0 x).toNat : Int) := by
  have h := shr_wd x 3
  simp only [show (2 : Int) ^ 3 = 8 from rfl] at h
  rw [h, xor_wd, xor_wd]; rfl
theorem lil1_num (x : Wd) : bits .xor .u32 (bits .xor .u32 ((rotr 17 x).toNat : Int) ((rotr 19 x).toNat : Int)) ((x.toNat : Int) / 1024) = ((lil1 x).toNat : Int) := by
  have h := shr_wd x 10
  simp only [show (2 : Int) ^ 10 = 1024 from rfl] at h
  rw [h, xor_wd, xor_wd]; rfl
theorem big0_num (x : Wd) : bits .xor .u32 (bits .xor .u32 ((rotr 2 x).toNat : Int) ((rotr 13 x).toNat : Int)) ((rotr 22 x).toNat : Int) = ((big0 x).toNat : Int) := by
  rw [xor_wd, xor_wd]; rfl
theorem big1_num (x : Wd) : bits .xor .u32 (bits .xor .u32 ((rotr 6 x).toNat : Int) ((rotr 11 x).toNat : Int)) ((rotr 25 x).toNat : Int) = ((big1 x).toNat : Int) := by
  rw [xor_wd, xor_wd]; rfl
theorem maj_num (a b c : Wd) : bits .xor .u32 (bits .xor .u32 (bits .and .u32 (a.toNat : Int) (b.toNat : Int)) (bits .and .u32 (a.toNat : Int) (c.toNat : Int))) (bits .and .u32 (b.toNat : Int) (c.toNat : Int)) = ((maj a b c).toNat : Int) := by
  rw [and_wd, and_wd, and_wd, xor_wd, xor_wd]; rfl
theorem notx_wd (x : Wd) : bits .xor .u32 IntKind.u32.max (x.toNat : Int) = ((~~~x).toNat : Int) := by
  have e : IntKind.u32.max = ((BitVec.allOnes 32).toNat : Int) := by decide
  rw [e, xor_wd, BitVec.allOnes_xor]
theorem cho_num (e f g : Wd) : bits .xor .u32 (bits .and .u32 (e.toNat : Int) (f.toNat : Int)) (bits .and .u32 (bits .xor .u32 IntKind.u32.max (e.toNat : Int)) (g.toNat : Int)) = ((cho e f g).toNat : Int) := by
  rw [notx_wd, and_wd, and_wd, xor_wd]; rfl
theorem add4_num (a b c d : Wd) : ((a.toNat : Int) + (b.toNat : Int) + (c.toNat : Int) + (d.toNat : Int)) % 4294967296 = ((a + b + c + d).toNat : Int) := by
  simp only [BitVec.toNat_add]; omega
theorem add5_num (a b c d e : Wd) : ((a.toNat : Int) + (b.toNat : Int) + (c.toNat : Int) + (d.toNat : Int) + (e.toNat : Int)) % 4294967296 = ((a + b + c + d + e).toNat : Int) := by
  simp only [BitVec.toNat_add]; omega

theorem or_low (a b i : Nat) (h : b < 2 ^ i) : a * 2 ^ i ||| b = a * 2 ^ i + b := by
  rw [← Nat.shiftLeft_eq, Nat.shiftLeft_add_eq_or_of_lt h]
theorem small_wd (n : Nat) (h : n < 4294967296) : (n : Int) = ((BitVec.ofNat 32 n).toNat : Int) := by
  rw [BitVec.toNat_ofNat, Nat.mod_eq_of_lt h]
theorem or_nat (a b : Nat) (ha : a < 4294967296) (hb : b < 4294967296) : bits .or .u32 (a : Int) (b : Int) = ((a ||| b : Nat) : Int) := by
  rw [small_wd a ha, small_wd b hb, or_wd, BitVec.toNat_or, BitVec.toNat_ofNat, BitVec.toNat_ofNat, Nat.mod_eq_of_lt ha, Nat.mod_eq_of_lt hb]
theorem word_num (b0 b1 b2 b3 : Nat) (l0 : b0 < 256) (l1 : b1 < 256) (l2 : b2 < 256) (l3 : b3 < 256) :
    bits .or .u32 (bits .or .u32 (bits .or .u32 ((b0 : Int) * 16777216) ((b1 : Int) * 65536)) ((b2 : Int) * 256)) (b3 : Int) = ((BitVec.ofNat 32 (((b0 * 256 + b1) * 256 + b2) * 256 + b3)).toNat : Int) := by
  have e2 := or_low (b0 * 256 + b1) (b2 * 256) 16 (by omega)
  have e3 := or_low ((b0 * 256 + b1) * 256 + b2) b3 8 (by omega)
  rw [show (b0 : Int) * 16777216 = ((b0 * 16777216 : Nat) : Int) by omega, show (b1 : Int) * 65536 = ((b1 * 65536 : Nat) : Int) by omega, show (b2 : Int) * 256 = ((b2 * 256 : Nat) : Int) by omega]
  have f1 := or_low b0 (b1 * 65536) 24 (by omega)
  rw [or_nat _ _ (by omega) (by omega), show b0 * 16777216 = b0 * 2 ^ 24 by omega, f1, or_nat _ _ (by omega) (by omega),
    show b0 * 2 ^ 24 + b1 * 65536 = (b0 * 256 + b1) * 2 ^ 16 by omega, e2, or_nat _ _ (by omega) (by omega),
    show (b0 * 256 + b1) * 2 ^ 16 + b2 * 256 = ((b0 * 256 + b1) * 256 + b2) * 2 ^ 8 by omega, e3, ← small_wd _ (by omega)]

/-- the cells of words. -/
def wcells (ws : List Wd) : List Value := ws.map fun x => Value.int .u32 (x.toNat : Int)
theorem wcells_length (ws : List Wd) : (wcells ws).length = ws.length := by simp [wcells]
theorem wcells_get (ws : List Wd) (i : Nat) (h : i < ws.length) : (wcells ws)[i]? = some (.int .u32 ((ws.getD i 0).toNat : Int)) := by
  simp [wcells, h]
theorem wcells_set (ws : List Wd) (i : Nat) (x : Wd) : (wcells ws).set i (.int .u32 (x.toNat : Int)) = wcells (ws.set i x) := by
  simp [wcells, List.map_set]
/-- the schedule's cells, the rest nought. -/
def schedTo (bs : List Nat) (k : Nat) : List Wd := sched bs k ++ List.replicate (64 - k) 0
theorem schedTo_length (bs : List Nat) (k : Nat) (h : k ≤ 64) : (schedTo bs k).length = 64 := by simp [schedTo, sched_length]; omega
theorem schedTo_set (bs : List Nat) (k : Nat) (h : k < 64) : (schedTo bs k).set k (nextWord bs (sched bs k) k) = schedTo bs (k + 1) := by
  unfold schedTo
  rw [List.set_append_right _ _ (by rw [sched_length]; exact Nat.le_refl _), sched_length, Nat.sub_self]
  obtain ⟨m, hm⟩ : ∃ m, 64 - k = m + 1 := ⟨63 - k, by omega⟩
  rw [hm, List.replicate_succ, List.set_cons_zero, sched, List.append_assoc]
  have : 64 - (k + 1) = m := by omega
  rw [this]; rfl
theorem schedTo_get (bs : List Nat) (k i : Nat) (h : i < k) : (schedTo bs k).getD i 0 = (sched bs k).getD i 0 := by
  simp [schedTo, List.getD_eq_getElem?_getD, List.getElem?_append_left (show i < (sched bs k).length by rw [sched_length]; exact h)]
theorem schedTo_full (bs : List Nat) : schedTo bs 64 = sched bs 64 := by simp [schedTo]
end Go.Proofs.YtngmpcmeebcdmaaDoor
