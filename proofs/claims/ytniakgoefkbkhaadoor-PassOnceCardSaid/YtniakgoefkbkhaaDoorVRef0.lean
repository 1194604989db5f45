/- The reference's digest, its primes and roots: the plain laws. -/
import Derived.Test.YtniakgoefkbkhaaDoorWs
import Derived.Test.YtniakgoefkbkhaaDoorVSha7
namespace Go.Proofs.YtniakgoefkbkhaaDoor
set_option linter.unusedVariables false
set_option linter.unusedSimpArgs false

structure RootIs (k N x : Nat) : Prop where
 low : x ^ k ≤ N
 high : N < (x + 1) ^ k
theorem RootIs.one {k N x y : Nat} (hx : RootIs k N x) (hy : RootIs k N y) : x = y := by
 have key : ∀ {a b}, RootIs k N a → RootIs k N b → a ≤ b := fun {a b} ha hb => by
  refine Nat.le_of_not_lt fun hc => ?_
  have h1 : (b + 1) ^ k ≤ a ^ k := Nat.pow_le_pow_left hc k
  have := ha.low
  have := hb.high
  omega
 exact Nat.le_antisymm (key hx hy) (key hy hx)
def ks64 : List Nat := [1116352408, 1899447441, 3049323471, 3921009573, 961987163, 1508970993, 2453635748, 2870763221, 3624381080, 310598401, 607225278, 1426881987, 1925078388, 2162078206, 2614888103, 3248222580, 3835390401, 4022224774, 264347078, 604807628, 770255983, 1249150122, 1555081692, 1996064986, 2554220882, 2821834349, 2952996808, 3210313671, 3336571891, 3584528711, 113926993, 338241895, 666307205, 773529912, 1294757372, 1396182291, 1695183700, 1986661051, 2177026350, 2456956037, 2730485921, 2820302411, 3259730800, 3345764771, 3516065817, 3600352804, 4094571909, 275423344, 430227734, 506948616, 659060556, 883997877, 958139571, 1322822218, 1537002063, 1747873779, 1955562222, 2024104815, 2227730452, 2361852424, 2428436474, 2756734187, 3204031479, 3329325298]
def ss8 : List Nat := [1779033703, 3144134277, 1013904242, 2773480762, 1359893119, 2600822924, 528734635, 1541459225]
structure HalfAt (k N lo hi : Nat) : Prop where
 low : lo ^ k ≤ N
 high : N < hi ^ k
 lt : lo < hi
 top : hi ≤ 137438953472
theorem HalfAt.done {k N lo hi : Nat} (h : HalfAt k N lo hi) (hd : ¬ 1 < hi - lo) : RootIs k N lo := by
 have := h.lt
 have e : hi = lo + 1 := by omega
 exact ⟨h.low, by rw [← e]; exact h.high⟩
theorem own_blk {w : World} {base : Nat} {t : TypeId} {z : Nat} {v : Value} {n : Nat} {cs : List Value} (h : w.ownsRow base t z v n cs) : ∀ k, v.ownBlock = some k → base ≤ k := fun k hk => by
 rcases h.2 with ⟨e2, _⟩ | ⟨gs, cap, cur, e2, hbase, _⟩
 · rw [e2] at hk; simp [Value.ownBlock] at hk
 · rw [e2] at hk
   simp [Value.ownBlock] at hk
   omega
end Go.Proofs.YtniakgoefkbkhaaDoor

