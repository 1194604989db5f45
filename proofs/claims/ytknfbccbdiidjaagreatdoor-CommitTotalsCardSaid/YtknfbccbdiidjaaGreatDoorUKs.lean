/- What the listed variables give: the two tables of the digest hold 64 and 8 words. -/
import Derived.Test.YtknfbccbdiidjaaGreatDoorWs
import Derived.Test.YtknfbccbdiidjaaGreatDoorUSha7
import Derived.LaidMore
import Derived.Stop.Joined
namespace Go.Proofs.YtknfbccbdiidjaaGreatDoor
set_option linter.unusedVariables false
set_option linter.unusedSimpArgs false
open Go.ChangeShapes Go.WideShapes Go.ChangeAt Go.RowKit

def laid2 : List (String × DataW Unit) := [("moneyer/sha.start", Rows.laid_moneyer_sha_start), ("moneyer/sha.rounds", Rows.laid_moneyer_sha_rounds)]
theorem own : ownKnob Tryz.prog.godebug = none := by kernel_rfl
theorem laidOut : laidOutB Tryz.prog = true := by kernel_rfl
theorem gStart : Tryz.prog.globalNamed "moneyer/sha.start" = some 1 := by kernel_rfl
theorem gRounds : Tryz.prog.globalNamed "moneyer/sha.rounds" = some 2 := by kernel_rfl
theorem tStart : (Tryz.prog.globals[1]?).map (·.type) = some 53 := by kernel_rfl
theorem tRounds : (Tryz.prog.globals[2]?).map (·.type) = some 54 := by kernel_rfl
theorem door_met (os : Os) (args : Array Value) : laidMetH Tryz.prog laid2 ((World.doorLaid Tryz.prog 4000 os).forCall (fun _ _ => 0) ⟨#[], args, []⟩).memory :=
 laidMetH_of_parts3 (fuel := 8) (laidMet_of_run' 8 (by kernel_rfl) (by kernel_rfl)) (by kernel_rfl) (by kernel_rfl)
end Go.Proofs.YtknfbccbdiidjaaGreatDoor
/- The reference's digest, its primes and roots: the plain laws. -/
namespace Go.Proofs.YtknfbccbdiidjaaGreatDoor
set_option linter.unusedVariables false
set_option linter.unusedSimpArgs false

structure RootIs (k N x : Nat) : Prop where
 low : x ^ k ≤ N
 high : N < (x + 1) ^ k
theorem RootIs.one {k N x y : Nat} (hx : RootIs k N x) (hy : RootIs k N y) : x = y := by
 have key : ∀ {a b}, RootIs k N a → RootIs k N b → a ≤ b := fun {a b} ha hb => by
  refine Nat.le_of_not_lt fun hc => ?_
  have h1 : (b + 1) ^ k ≤ a ^ k := Nat.pow_le_pow_left hc k
  have := ha.low
  have := hb.high
  omega
 exact Nat.le_antisymm (key hx hy) (key hy hx)
def ks64 : List Nat := [1116352408, 1899447441, 3049323471, 3921009573, 961987163, 1508970993, 2453635748, 2870763221, 3624381080, 310598401, 607225278, 1426881987, 1925078388, 2162078206, 2614888103, 3248222580, 3835390401, 4022224774, 264347078, 604807628, 770255983, 1249150122, 1555081692, 1996064986, 2554220882, 2821834349, 2952996808, 3210313671, 3336571891, 3584528711, 113926993, 338241895, 666307205, 773529912, 1294757372, 1396182291, 1695183700, 1986661051, 2177026350, 2456956037, 2730485921, 2820302411, 3259730800, 3345764771, 3516065817, 3600352804, 4094571909, 275423344, 430227734, 506948616, 659060556, 883997877, 958139571, 1322822218, 1537002063, 1747873779, 1955562222, 2024104815, 2227730452, 2361852424, 2428436474, 2756734187, 3204031479, 3329325298]
def ss8 : List Nat := [1779033703, 3144134277, 1013904242, 2773480762, 1359893119, 2600822924, 528734635, 1541459225]
structure HalfAt (k N lo hi : Nat) : Prop where
 low : lo ^ k ≤ N
 high : N < hi ^ k
 lt : lo < hi
 top : hi ≤ 137438953472
theorem HalfAt.lower {k N lo hi : Nat} (h : HalfAt k N lo hi) (hd : 1 < hi - lo) (hm : ((lo + hi) / 2) ^ k ≤ N) : HalfAt k N ((lo + hi) / 2) hi := ⟨hm, h.high, by omega, h.top⟩
theorem HalfAt.done {k N lo hi : Nat} (h : HalfAt k N lo hi) (hd : ¬ 1 < hi - lo) : RootIs k N lo := by
 have := h.lt
 have e : hi = lo + 1 := by omega
 exact ⟨h.low, by rw [← e]; exact h.high⟩
theorem own_blk {w : World} {base : Nat} {t : TypeId} {z : Nat} {v : Value} {n : Nat} {cs : List Value} (h : w.ownsRow base t z v n cs) : ∀ k, v.ownBlock = some k → base ≤ k := fun k hk => by
 rcases h.2 with ⟨e2, _⟩ | ⟨gs, cap, cur, e2, hbase, _⟩
 · rw [e2] at hk; simp [Value.ownBlock] at hk
 · rw [e2] at hk
   simp [Value.ownBlock] at hk
   omega
end Go.Proofs.YtknfbccbdiidjaaGreatDoor
/- What the listed variables hold, word by word: the reference's tables. -/
namespace Go.Proofs.YtknfbccbdiidjaaGreatDoor
set_option linter.unusedVariables false
set_option linter.unusedSimpArgs false
open Go.ChangeShapes Go.WideShapes Go.ChangeAt Go.RowKit

def KS : List Wd := ks64.map (BitVec.ofNat 32)
def SS : List Wd := ss8.map (BitVec.ofNat 32)
theorem ss_len : SS.length = 8 := by decide
theorem words_at {H : Type} {enc : TypeId × Value → H} {P : Program} {w : World} {base : Nat} {spare : Nat → Bool} {held : Bool} {T e : TypeId} {n fuel : Nat} {cs : List Value} {d : DataW H} {p : List MemPlace} (l : List Nat)
  (ht : P.underlying T = some (.array n e)) (he : P.underlying e = some (.int .u32)) (h1 : P.cellsOf e = 1) (hT : P.cellsOf T = n) (hf : DataW.trod enc P w base spare held fuel T cs = some (d, p))
  (hd : d = .agg (l.map fun (k : Nat) => .lit (.int .u32 (k : Int)))) : ∀ i, i < n → cs[i]? = some (.int .u32 ((l.getD i 0 : Nat) : Int)) := by
 obtain ⟨xs, m, _, hx, hlen, hn, hall⟩ := DataW.trod_array ht hf
 rw [hT] at hlen
 subst hd
 have e3 : (xs.map (·.1)) = l.map fun (k : Nat) => (.lit (.int .u32 (k : Int)) : DataW H) := (DataW.agg.inj (Prod.mk.inj hx).1).symm
 have hll : l.length = n := by
  have := congrArg List.length e3
  simpa [hn] using this.symm
 intro i hi
 have hE := hall i hi
 rw [h1, Nat.mul_one, List.getElem?_eq_getElem (by omega)] at hE
 obtain ⟨k, hk1, e2, hw⟩ := DataW.trod_int he hE
 rw [List.drop_eq_getElem_cons (by omega)] at hk1
 simp only [List.take_succ_cons, List.take_zero, List.cons.injEq, and_true] at hk1
 have e4 : (xs.map (·.1))[i]? = (l.map fun (k : Nat) => (.lit (.int .u32 (k : Int)) : DataW H))[i]? := by rw [e3]
 rw [List.getElem?_map, List.getElem?_map, List.getElem?_eq_getElem (by omega : i < xs.length), List.getElem?_eq_getElem (by omega : i < l.length), e2] at e4
 simp only [Option.map_some, Option.some.injEq, DataW.lit.injEq, Lit.int.injEq, true_and] at e4
 rw [List.getElem?_eq_getElem (by omega), hk1, e4, List.getD_eq_getElem?_getD, List.getElem?_eq_getElem (by omega)]
 rfl
theorem ks_nat : ∀ i, i < 64 → (KS.getD i 0).toNat = ks64.getD i 0 := by decide
theorem ss_nat : ∀ i, i < 8 → (SS.getD i 0).toNat = ss8.getD i 0 := by decide
theorem of_laid2 {W : World} (h : laidMetH Tryz.prog laid2 W) : Tabs KS SS W := by
 rw [MakeChecks.laidMetH_plain _ _ _ (by kernel_rfl)] at h
 obtain ⟨ps, ⟨g0, t0, cs0, f0, p0, q0, hg0, ht0, hv0, hd0, ⟨g1, t1, cs1, f1, p1, q1, hg1, ht1, hv1, hd1, _, _⟩, _⟩, _, _⟩ := h
 obtain rfl := Option.some.inj (gStart.symm.trans hg0)
 obtain rfl := Option.some.inj (gRounds.symm.trans hg1)
 obtain rfl := Option.some.inj (tStart.symm.trans ht0)
 obtain rfl := Option.some.inj (tRounds.symm.trans ht1)
 have hsc := words_at ss8 Tryz.underlying53 Tryz.underlying52 (by kernel_rfl) (by kernel_rfl) hd0 (by rfl)
 have hkc := words_at ks64 Tryz.underlying54 Tryz.underlying52 (by kernel_rfl) (by kernel_rfl) hd1 (by rfl)
 have c0 : ∀ i, i < 8 → W.cell? ⟨1, i, none⟩ = some (.int .u32 ((SS.getD i 0).toNat : Int)) := fun i hi => by
  rw [World.var?_cell hg0 hv0 i, ss_nat i hi]; simpa using hsc i hi
 have c1 : ∀ i, i < 64 → W.cell? ⟨2, i, none⟩ = some (.int .u32 ((KS.getD i 0).toNat : Int)) := fun i hi => by
  rw [World.var?_cell hg1 hv1 i, ks_nat i hi]; simpa using hkc i hi
 refine ⟨c1, c0, ?_, ss_len⟩
 have a0 := World.block_lt_of_cell? W _ (c0 0 (by decide))
 have a1 := World.block_lt_of_cell? W _ (c1 0 (by decide))
 dsimp only at a0 a1
 omega
end Go.Proofs.YtknfbccbdiidjaaGreatDoor
