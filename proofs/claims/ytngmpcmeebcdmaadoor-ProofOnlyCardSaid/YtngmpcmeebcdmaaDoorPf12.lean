/- The walk of ProofOnly. -/
import Derived.Test.YtngmpcmeebcdmaaDoorPf10
import Derived.Test.YtngmpcmeebcdmaaDoorSameO
namespace Go.Proofs.YtngmpcmeebcdmaaDoor
set_option linter.unusedVariables false
set_option linter.unusedSimpArgs false
open Go.ChangeShapes Go.WideShapes Go.ChangeAt Go.RowKit Go.Maps

theorem boxes5 (w : World) (LP LQ CK : List Value) (LA LB : Array Value) : ∃ W1, W1 = ((((w.alloc (.cells LP.toArray 56)).alloc (.cells LQ.toArray 56)).alloc (.cells CK.toArray 28)).alloc (.cells LA 32)).alloc (.cells LB 32) ∧
    Has W1 w.heap.size 56 LP.toArray ∧ Has W1 (w.heap.size + 1) 56 LQ.toArray ∧ Has W1 (w.heap.size + 1 + 1) 28 CK.toArray ∧ Has W1 (w.heap.size + 1 + 1 + 1) 32 LA ∧ Has W1 (w.heap.size + 1 + 1 + 1 + 1) 32 LB ∧ Below w.heap.size w W1 := by
  refine ⟨_, rfl, ((((Has.new w _ _).alloc _).alloc _).alloc _).alloc _, ?_, ?_, ?_, ?_, (((((Below.refl _ _).alloc (Nat.le_refl _) _).alloc (by simp) _).alloc (by simp; omega) _).alloc (by simp; omega) _).alloc (by simp; omega) _⟩
  · have := Has.new (w.alloc (.cells LP.toArray 56)) 56 LQ.toArray
    exact (((by simpa using this : Has _ (w.heap.size + 1) _ _).alloc _).alloc _).alloc _
  · have := Has.new ((w.alloc (.cells LP.toArray 56)).alloc (.cells LQ.toArray 56)) 28 CK.toArray
    exact ((by simpa using this : Has _ (w.heap.size + 1 + 1) _ _).alloc _).alloc _
  · have := Has.new (((w.alloc (.cells LP.toArray 56)).alloc (.cells LQ.toArray 56)).alloc (.cells CK.toArray 28)) 32 LA
    exact (by simpa using this : Has _ (w.heap.size + 1 + 1 + 1) _ _).alloc _
  · have := Has.new ((((w.alloc (.cells LP.toArray 56)).alloc (.cells LQ.toArray 56)).alloc (.cells CK.toArray 28)).alloc (.cells LA 32)) 32 LB
    simpa using this
/-- what is known of the two proofs and leaves, wherever they came from. -/
structure OnlyS (w : World) (B7 B8 B9 B10 B11 : Nat) (LQ CK : List Value) (LB : Array Value) (bp : List Nat) (ap : Option Addr) (np cp : Nat) (xs : List Nd) (av : Option Addr) (bsA : List Nat) (cv sA : Nat) (wx : World) : Prop where
  p : Has wx B7 56 (pcells bp ap np cp).toArray
  q : Has wx B8 56 LQ.toArray
  k : Has wx B9 28 CK.toArray
  a : Has wx B10 32 #[.slice av bsA.length cv, .int .u64 (sA : Int)]
  b : Has wx B11 32 LB
  hash : IsHash bp
  nodes : NodesAt wx ap np xs
  few : np ≤ 300
  bytes : Bytes wx wx.heap.size (.slice av bsA.length cv) bsA
  short : bsA.length ≤ 65536
  sum : sA < 18446744073709551616
  bel : Below w.heap.size w wx
def OnlyC (w : World) (B7 B8 B9 B10 B11 : Nat) (LQ CK : List Value) (LB : Array Value) (wx : World) : Prop := ∃ bp ap np cp xs av bsA cv sA, OnlyS w B7 B8 B9 B10 B11 LQ CK LB bp ap np cp xs av bsA cv sA wx
theorem OnlyS.below {w : World} {B7 B8 B9 B10 B11 : Nat} {LQ CK : List Value} {LB : Array Value} {bp : List Nat} {ap : Option Addr} {np cp : Nat} {xs : List Nd} {av : Option Addr} {bsA : List Nat} {cv sA : Nat} {wx wy : World}
    (h : OnlyS w B7 B8 B9 B10 B11 LQ CK LB bp ap np cp xs av bsA cv sA wx) (hb : Below wx.heap.size wx wy) : OnlyS w B7 B8 B9 B10 B11 LQ CK LB bp ap np cp xs av bsA cv sA wy :=
  ⟨h.p.below hb h.p.lt, h.q.below hb h.q.lt, h.k.below hb h.k.lt, h.a.below hb h.a.lt, h.b.below hb h.b.lt, h.hash, h.nodes.below hb, h.few, h.bytes.alive hb hb.size, h.short, h.sum, h.bel.trans (hb.mono h.bel.size)⟩
theorem bare_num0 (bb : List Nat) (h : Nat) : (bits BinOp.and .u8 (((bb.getD (h / 8) 0 : Nat) : Int) / 2 ^ (h % 8)) 1 == 0) = !bareB bb h := by
  have e3 : (((bb.getD (h / 8) 0 : Nat) : Int) / 2 ^ (h % 8)) = ((bb.getD (h / 8) 0 / 2 ^ (h % 8) : Nat) : Int) := by
    rw [Int.natCast_ediv, Int.natCast_pow]; rfl
  rw [e3, and_one8]
  unfold bareB
  have h2 := Nat.mod_lt (bb.getD (h / 8) 0 / 2 ^ (h % 8)) (show 0 < 2 by decide)
  generalize bb.getD (h / 8) 0 / 2 ^ (h % 8) % 2 = x at h2
  rcases (by omega : x = 0 ∨ x = 1) with h | h <;> subst h <;> rfl
theorem chk_zero {K s0 : List Wd} {bare : Nat → Bool} {key : List Nat} {nodes : List Nd} {n0 r : Nd} (h : chkE (pfRoot K s0 bare key nodes n0) r = 0) : pfRoot K s0 bare key nodes n0 = .ok r := by
  cases e : pfRoot K s0 bare key nodes n0 with
  | error e' =>
    rw [e, chk_err] at h
    rcases pf_errs e with h1 | h1 | h1 | h1 <;> omega
  | ok n =>
    rw [e, chk_ok] at h
    by_cases hs : ndSame n r = true
    · rw [ndSame_iff.1 hs]
    · rw [if_neg hs] at h; cases h
/-- a step of a way that leads to a root: by which node. -/
theorem pf_next {K s0 : List Wd} {bare : Nat → Bool} {key : List Nat} {nodes : List Nd} {n0 r : Nd} (hl : s0.length = 8) (hn : ∀ x ∈ nodes, IsHash x.h) (hr : pfRoot K s0 bare key nodes n0 = .ok r) {h i : Nat} {m : Nd} (hh : h < 256) (e : pfAt K s0 bare key nodes n0 h = .ok (m, i)) :
    ∃ m1 i1 x, pfAt K s0 bare key nodes n0 (h + 1) = .ok (m1, i1) ∧ IsHash x.h ∧ m.s + x.s < 18446744073709551616 ∧ m1 = (if bitAt key h = 1 then brNd K s0 x m else brNd K s0 m x) ∧ ((bare h = true ∧ x = emptyNd K s0 h ∧ i1 = i) ∨ (bare h = false ∧ nodes[i]? = some x ∧ i1 = i + 1)) := by
  obtain ⟨m1, i1, e1⟩ := (pf_back hr).2 (h + 1) (by omega)
  rcases pfAt_ok e e1 with ⟨hb, hu, hx⟩ | ⟨hb, x, hx0, hu, hx⟩
  · obtain ⟨-, -, h2, h3⟩ := pfBr_ok hx
    exact ⟨m1, i1, _, e1, empty_hash K s0 hl h, h2, h3, .inl ⟨hb, rfl, hu⟩⟩
  · obtain ⟨-, -, h2, h3⟩ := pfBr_ok hx
    exact ⟨m1, i1, x, e1, hn x (List.mem_of_getElem? hx0), h2, h3, .inr ⟨hb, hx0, hu⟩⟩
theorem pf_last {K s0 : List Wd} {bare : Nat → Bool} {key : List Nat} {nodes : List Nd} {n0 r m : Nd} {i : Nat} (hr : pfRoot K s0 bare key nodes n0 = .ok r) (e : pfAt K s0 bare key nodes n0 256 = .ok (m, i)) : m = r := by
  rw [pf_done e] at hr
  split at hr
  · cases hr
  · cases hr; rfl
theorem NodesAt.keptLt {w w' : World} {a : Option Addr} {n B : Nat} {xs : List Nd} (h : NodesAt w a n xs) (hB : w.heap.size ≤ B) (hk : Kept (fun j => B ≤ j) w w') : NodesAt w' a n xs := by
  refine ⟨h.len, h.hash, h.fits, fun hn => ?_⟩
  obtain ⟨b, o, e, hb, hr⟩ := h.at_ hn
  exact ⟨b, o, e, by have := hk.size; omega, fun i x hx => rangeAt_kept (hr i x hx) hk (fun e => by have e' : B ≤ b := e; omega)⟩
/-- the three boxes of the climb. -/
structure OnlyL (Wl : World) (B18 B19 B22 : Nat) (lm ln le : List Value) (wr : World) : Prop where
  m : Has wr B18 58 lm.toArray
  n : Has wr B19 58 ln.toArray
  e : Has wr B22 58 le.toArray
  kept : Kept (fun j => j = B18 ∨ j = B19 ∨ j = B22) Wl wr
section
variable {Wl : World} {B18 B19 B22 : Nat} {lm ln le : List Value} {wr wr' : World}
theorem OnlyL.keep (h : OnlyL Wl B18 B19 B22 lm ln le wr) {S : Nat → Prop} (hk : Kept S wr wr') (hs : ∀ j, S j → Wl.heap.size ≤ j) (hl : B18 < Wl.heap.size ∧ B19 < Wl.heap.size ∧ B22 < Wl.heap.size) : OnlyL Wl B18 B19 B22 lm ln le wr' :=
  ⟨h.m.kept hk (fun e => by have := hs _ e; omega), h.n.kept hk (fun e => by have := hs _ e; omega), h.e.kept hk (fun e => by have := hs _ e; omega), h.kept.step hk (fun j e => .inr (hs j e))⟩
theorem OnlyL.below (h : OnlyL Wl B18 B19 B22 lm ln le wr) (hb : Below wr.heap.size wr wr') : OnlyL Wl B18 B19 B22 lm ln le wr' :=
  have hk : Kept (fun _ => False) wr wr' := Kept.of_below hb
  ⟨h.m.kept hk (fun e => e), h.n.kept hk (fun e => e), h.e.kept hk (fun e => e), h.kept.step hk (fun j e => e.elim)⟩
theorem OnlyL.setM (h : OnlyL Wl B18 B19 B22 lm ln le wr) (hp : B18 < B19 ∧ B19 < B22) (l : List Value) : OnlyL Wl B18 B19 B22 l ln le (wr.setRow B18 l.toArray) := by
  have hk := kept_setRow (g := B18) wr l.toArray
  exact ⟨h.m.setRow, h.n.kept hk (by show ¬ B19 = B18; omega), h.e.kept hk (by show ¬ B22 = B18; omega), h.kept.step hk (fun j e => .inl (.inl e))⟩
theorem OnlyL.setN (h : OnlyL Wl B18 B19 B22 lm ln le wr) (hp : B18 < B19 ∧ B19 < B22) (l : List Value) : OnlyL Wl B18 B19 B22 lm l le (wr.setRow B19 l.toArray) := by
  have hk := kept_setRow (g := B19) wr l.toArray
  exact ⟨h.m.kept hk (by show ¬ B18 = B19; omega), h.n.setRow, h.e.kept hk (by show ¬ B22 = B19; omega), h.kept.step hk (fun j e => .inl (.inr (.inl e)))⟩
theorem OnlyL.setE (h : OnlyL Wl B18 B19 B22 lm ln le wr) (hp : B18 < B19 ∧ B19 < B22) (l : List Value) : OnlyL Wl B18 B19 B22 lm ln l (wr.setRow B22 l.toArray) := by
  have hk := kept_setRow (g := B22) wr l.toArray
  exact ⟨h.m.kept hk (by show ¬ B18 = B22; omega), h.n.kept hk (by show ¬ B19 = B22; omega), h.e.setRow, h.kept.step hk (fun j e => .inl (.inr (.inr e)))⟩
end
theorem nd_hash_row {w : World} {g : Nat} {t : TypeId} {x : Nd} (h : Has w g t (ndV x).toArray) : w.rangeAt g 0 (bcells x.h) := fun j u hu => by
  refine h.cell_is ?_
  rw [List.getElem?_toArray, Nat.zero_add, ndV, ncells, List.getElem?_append_left (List.getElem?_eq_some_iff.1 hu).1]
  exact hu
set_option maxRecDepth 100000 in
set_option maxHeartbeats 8000000 in
theorem only_walk (K s0 : List Wd) (w : World) (hT : Tabs K s0 w) (b0 : List Nat) (hb0 : IsHash b0) (a0 : Option Addr) (n0 c0 : Nat) (xs0 : List Nd) (hx0 : NodesAt w a0 n0 xs0) (hn0 : n0 ≤ 9223372036854775807)
    (bq : List Nat) (hbq : IsHash bq) (aq : Option Addr) (nq cq : Nat) (xsq : List Nd) (hxq : NodesAt w aq nq xsq) (hnq : nq ≤ 9223372036854775807) (key : List Nat) (hkey : IsHash key)
    (av0 : Option Addr) (bs0 : List Nat) (cv0 sA0 : Nat) (hs0 : sA0 < 18446744073709551616) (hl0 : bs0.length ≤ 9223372036854775807) (hB0 : Bytes w w.heap.size (.slice av0 bs0.length cv0) bs0)
    (bv : Option Addr) (bsB : List Nat) (cb sB : Nat) (hsB : sB < 18446744073709551616) (hlB : bsB.length ≤ 9223372036854775807) (hBB : Bytes w w.heap.size (.slice bv bsB.length cb) bsB)
    (A : Option Addr) (N c : Nat) (ps : List PutT) (hps : PutsAt w A N ps) (fr : Bool) :
    Calls Tryd.prog 7 #[.agg (pcells b0 a0 n0 c0).toArray, .agg (pcells bq aq nq cq).toArray, arr key, leafV (.slice av0 bs0.length cv0) sA0, leafV (.slice bv bsB.length cb) sB, .slice A N c, .bool fr] w fun e w' => e = .returned (.bool true) ∧ Below w.heap.size w w' := by
  obtain ⟨Z, hz, hZs, hZn, -⟩ := zero_node
  have hlow := hT.low
  have hfew := hps.few
  obtain ⟨LP0, hLP0⟩ : ∃ L, L = pcells b0 a0 n0 c0 := ⟨_, rfl⟩
  obtain ⟨LQ, hLQ⟩ : ∃ L, L = pcells bq aq nq cq := ⟨_, rfl⟩
  obtain ⟨CK, hCK⟩ : ∃ L, L = bcells key := ⟨_, rfl⟩
  obtain ⟨na, hna⟩ : ∃ x, x = bs0.length := ⟨_, rfl⟩
  obtain ⟨nb, hnb⟩ : ∃ x, x = bsB.length := ⟨_, rfl⟩
  have lk : CK.length = 32 := by rw [hCK, bcells_length, hkey.1]
  have SZK := Lib.hid (show (Tryd.prog.info? 28).map (·.size) = some CK.toArray.size by rw [List.size_toArray, lk]; kernel_rfl)
  have SZN := Lib.hid (show ∀ x : Nd, IsHash x.h → (Tryd.prog.info? 58).map (·.size) = some (ndV x).toArray.size from fun x hx => by rw [List.size_toArray, ndV_len hx]; kernel_rfl)
  have SZL := Lib.hid (show ∀ x : Nd, IsHash x.h → (Tryd.prog.info? 58).map (·.size) = some (ndV x).length from fun x hx => by rw [ndV_len hx]; kernel_rfl)
  have HZN := Lib.hid (show ∀ x : Nd, IsHash x.h → Z.size = (ndV x).toArray.size from fun x hx => by rw [hZs, List.size_toArray, ndV_len hx])
  have HNN := Lib.hid (show ∀ x y : Nd, IsHash x.h → IsHash y.h → (ndV x).toArray.size = (ndV y).toArray.size from fun x y hx hy => by rw [List.size_toArray, List.size_toArray, ndV_len hx, ndV_len hy])
  have SZP := Lib.hid (show ∀ (bb : List Nat), IsHash bb → ∀ (a : Option Addr) (n c : Nat), (Tryd.prog.info? 56).map (·.size) = some (pcells bb a n c).toArray.size from fun bb hb a n c => by rw [List.size_toArray, pcells_len hb]; kernel_rfl)
  have HPP := Lib.hid (show ∀ (bb bb' : List Nat), IsHash bb → IsHash bb' → ∀ (a a' : Option Addr) (n c n' c' : Nat), (pcells bb a n c).toArray.size = (pcells bb' a' n' c').toArray.size from fun bb bb' hb hb' a a' n c n' c' => by rw [List.size_toArray, List.size_toArray, pcells_len hb, pcells_len hb'])
  have SZF := Lib.hid (show ∀ (a : Option Addr) (n c s : Nat), (Tryd.prog.info? 32).map (·.size) = some (#[Value.slice a n c, .int .u64 (s : Int)] : Array Value).size ∧ (#[Value.slice a n c, .int .u64 (s : Int)] : Array Value).all (·.oneCell') = true from fun a n c s => ⟨by kernel_rfl, by kernel_rfl⟩)
  have HEH := Lib.hid (show ∀ h, IsHash (emptyNd K s0 h).h from fun h => empty_hash K s0 hT.len h)
  obtain ⟨W1, hW1, q7, q8, q9, q10, q11, hb1⟩ := boxes5 w LP0 LQ CK #[.slice av0 na cv0, .int .u64 (sA0 : Int)] #[.slice bv nb cb, .int .u64 (sB : Int)]
  have hon : n0 ≤ 300 → na ≤ 200 → OnlyS w w.heap.size (w.heap.size + 1) (w.heap.size + 1 + 1) (w.heap.size + 1 + 1 + 1) (w.heap.size + 1 + 1 + 1 + 1) LQ CK #[.slice bv nb cb, .int .u64 (sB : Int)] b0 a0 n0 c0 xs0 av0 bs0 cv0 sA0 W1 := fun h1 h2 =>
    ⟨by rw [← hLP0]; exact q7, q8, q9, by rw [← hna]; exact q10, q11, hb0, hx0.below hb1, h1, hB0.alive hb1 hb1.size, by omega, hs0, hb1⟩
  have hqrow : LQ[32]? = some (.slice aq nq cq) := by rw [hLQ]; exact pcells_row hbq aq nq cq
  have hprow : LP0[32]? = some (.slice a0 n0 c0) := by rw [hLP0]; exact pcells_row hb0 a0 n0 c0
  have HT := Lib.hid hT
  have HPS := Lib.hid hps
  have HKEY := Lib.hid hkey
  have ECK := Lib.hid hCK
  have ELQ := Lib.hid hLQ
  have ENB := Lib.hid hnb
  have HON := Lib.hid hon
  have HXQ := Lib.hid hxq
  have HBQ := Lib.hid hbq
  have HBB := Lib.hid hBB
  have HSB := Lib.hid hsB
  have HQR := Lib.hid hqrow
  have HPR := Lib.hid hprow
  have HB1 := Lib.hid hb1
  have Q7 := Lib.hid q7
  have Q8 := Lib.hid q8
  have Q10 := Lib.hid q10
  have Q11 := Lib.hid q11
  have HW1 := Lib.hid hW1
  rw [← hna] at hl0
  rw [← hnb] at hlB
  unfold arr leafV
  rw [← hLP0, ← hLQ, ← hCK, ← hna, ← hnb]
  clear hT hps hkey hCK hLQ hLP0 hna hnb hon hxq hbq hBB hsB hqrow hprow hb1 q7 q8 q9 q10 q11 hW1 lk hZs hb0 hx0 hs0 hB0
  go_enter Tryd.func7, Tryd.ntmps7
  go_upto_region 1 with (fail)
  rw [← HW1.out]
  clear HW1
  obtain ⟨B7, hB7⟩ : ∃ b, b = w.heap.size := ⟨_, rfl⟩
  obtain ⟨B8, hB8⟩ : ∃ b, b = w.heap.size + 1 := ⟨_, rfl⟩
  obtain ⟨B9, hB9⟩ : ∃ b, b = w.heap.size + 1 + 1 := ⟨_, rfl⟩
  obtain ⟨B10, hB10⟩ : ∃ b, b = w.heap.size + 1 + 1 + 1 := ⟨_, rfl⟩
  obtain ⟨B11, hB11⟩ : ∃ b, b = w.heap.size + 1 + 1 + 1 + 1 := ⟨_, rfl⟩
  rw [← hB11, ← hB10, ← hB9, ← hB8] at HON
  rw [← hB8] at Q8
  rw [← hB10] at Q10
  rw [← hB11] at Q11
  rw [← hB11, ← hB10, ← hB9, ← hB8, ← hB7]
  have HPLB := Lib.hid (show w.heap.size ≤ B7 ∧ B7 < B8 ∧ B8 < B9 ∧ B9 < B10 ∧ B10 < B11 by omega)
  rw [show w.heap.size = B7 from hB7.symm] at Q7
  have HON2 := Lib.hid (show n0 ≤ 300 → na ≤ 200 → OnlyS w B7 B8 B9 B10 B11 LQ CK #[.slice bv nb cb, .int .u64 (sB : Int)] b0 a0 n0 c0 xs0 av0 bs0 cv0 sA0 W1 by rw [hB7]; exact HON.out)
  clear hB7 hB8 hB9 hB10 hB11 HON
  go_wp2_with fail
  refine (headP_is K s0 W1 (HT.out.below HB1.out hlow)).mono ?_
  rintro _ w2 ⟨rfl, hb2⟩
  have c7 := (Q7.out.below hb2 Q7.out.lt).cell_is (i := 32) (by rw [List.getElem?_toArray]; exact HPR.out)
  have c8 := (Q8.out.below hb2 Q8.out.lt).cell_is (i := 32) (by rw [List.getElem?_toArray]; exact HQR.out)
  have c10 : w2.cell? ⟨B10, 0, none⟩ = some (.slice av0 na cv0) := (Q10.out.below hb2 Q10.out.lt).cell_is rfl
  have c11 : w2.cell? ⟨B11, 0, none⟩ = some (.slice bv nb cb) := (Q11.out.below hb2 Q11.out.lt).cell_is rfl
  have HB2 := Lib.hid (HB1.out.trans (hb2.mono HB1.out.size))
  have HO2 := Lib.hid (show n0 ≤ 300 → na ≤ 200 → OnlyS w B7 B8 B9 B10 B11 LQ CK #[.slice bv nb cb, .int .u64 (sB : Int)] b0 a0 n0 c0 xs0 av0 bs0 cv0 sA0 w2 from fun h1 h2 => (HON2.out h1 h2).below hb2)
  clear hb2 HON2 Q7 Q8 Q10 Q11
  by_cases g1 : 300 < n0
  · have g1' : (300 : Int) < (n0 : Int) := by omega
    go_wp2
    go_ret
    exact ⟨rfl, HB2.out⟩
  have g1' : ¬ (300 : Int) < (n0 : Int) := by omega
  by_cases g2 : 300 < nq
  · have g2' : (300 : Int) < (nq : Int) := by omega
    go_wp2
    go_ret
    exact ⟨rfl, HB2.out⟩
  have g2' : ¬ (300 : Int) < (nq : Int) := by omega
  by_cases g3 : 200 < na
  · have g3' : (200 : Int) < (na : Int) := by omega
    go_wp2
    go_ret
    exact ⟨rfl, HB2.out⟩
  have g3' : ¬ (200 : Int) < (na : Int) := by omega
  by_cases g4 : 200 < nb
  · have g4' : (200 : Int) < (nb : Int) := by omega
    go_wp2
    go_ret
    exact ⟨rfl, HB2.out⟩
  have g4' : ¬ (200 : Int) < (nb : Int) := by omega
  by_cases g5 : 40 < N
  · have g5' : (40 : Int) < (N : Int) := by omega
    go_wp2
    go_ret
    exact ⟨rfl, HB2.out⟩
  have g5' : ¬ (40 : Int) < (N : Int) := by omega
  have HO := Lib.hid (HO2.out (by omega) (by omega))
  have HNB := Lib.hid (show nq ≤ 300 ∧ nb ≤ 200 by omega)
  clear HO2
  go_upto_if 55 with (fail)
  clear c7 c8 c10 c11 g1 g1' g2 g2' g3 g3' g4 g4' g5 g5'
  go_cut [] from 26 (fun wx => OnlyC w B7 B8 B9 B10 B11 LQ CK #[.slice bv nb cb, .int .u64 (sB : Int)] wx)
  case first =>
    as_aux_lemma =>
      cases fr with
      | false =>
        go_wp2
        go_meet
        case rel => exact ⟨_, _, _, _, _, _, _, _, _, HO.out⟩
      | true =>
        go_wp2_with fail
        refine (plant_is K s0 HT.out.len w2 A N c ps (HPS.out.below HB2.out)).mono ?_
        rintro _ w3 ⟨g, T, rfl, htr, hb3, hg⟩
        have hk3 := HO.out.k.below hb3 HO.out.k.lt
        have ha3 := HO.out.a.below hb3 HO.out.a.lt
        obtain ⟨Z3, hZ3⟩ : ∃ Z3 : Nat → Prop, Z3 = fun j => w2.heap.size ≤ j ∧ j < w3.heap.size := ⟨_, rfl⟩
        rw [← hZ3] at htr
        have hz3 : ∀ j, Z3 j → w2.heap.size ≤ j ∧ j < w3.heap.size := fun j h => by rw [hZ3] at h; exact h
        have hlo : 2 + 1 ≤ g := by have := HB2.out.size; omega
        have HTR3 := Lib.hid htr
        have HB23 := Lib.hid hb3
        have HK3 := Lib.hid hk3
        have HA3 := Lib.hid ha3
        have HZ3 := Lib.hid hz3
        clear htr hb3 hg hk3 ha3 hZ3 hz3
        have hget := tr_get HTR3.out key HKEY.out
        unfold arr at hget
        obtain ⟨ws, hws⟩ : ∃ x, x = wasS T key := ⟨_, rfl⟩
        obtain ⟨kn, hkn⟩ : ∃ x, x = (findT T key).isSome := ⟨_, rfl⟩
        rw [← ECK.out, ← hws, ← hkn] at hget
        have HGET := Lib.hid hget
        have EWS := Lib.hid hws
        clear hget hws hkn
        go_wp2_with (refine wpList_load_row rfl 28 (.tmp 9) rfl B9 rfl 28 CK.toArray (0, 0) _ HK3.out Tryd.underlying28 rfl SZK.out ?_)
        refine HGET.out.mono ?_
        rintro _ w4 ⟨v', rfl, hrow, hb4⟩
        obtain ⟨av, cv, hv', -⟩ := id hrow
        obtain ⟨nv, hnv⟩ : ∃ x, x = (valT T key).length := ⟨_, rfl⟩
        rw [← hnv] at hv'
        subst hv'
        unfold leafV
        have HROW := Lib.hid hrow
        have HB34 := Lib.hid hb4
        have ENV := Lib.hid hnv
        have ha4 := HA3.out.below hb4 HA3.out.lt
        have HA4 := Lib.hid ha4
        clear hrow hb4 hnv ha4 HGET
        have EAL := Lib.hid (show (#[Value.slice av0 bs0.length cv0, .int .u64 (sA0 : Int)] : Array Value).size = (#[Value.slice av nv cv, .int .u64 (ws : Int)] : Array Value).size from rfl)
        go_upto_region 8 with (refine wpList_store_row rfl 32 (.tmp 10) (.tmp 62) rfl B10 #[.slice av nv cv, .int .u64 (ws : Int)] rfl rfl 32 #[.slice av0 bs0.length cv0, .int .u64 (sA0 : Int)] HA4.out (SZF.out av nv cv ws).1 EAL.out (SZF.out av nv cv ws).2 ?_)
        have hk45 := kept_setRow (g := B10) w4 #[.slice av nv cv, .int .u64 (ws : Int)]
        have ha5 : Has (w4.setRow B10 #[.slice av nv cv, .int .u64 (ws : Int)]) B10 32 #[.slice av nv cv, .int .u64 (ws : Int)] := HA4.out.setRow
        generalize w4.setRow B10 #[.slice av nv cv, .int .u64 (ws : Int)] = W5 at hk45 ha5 ⊢
        have h10lt := HO.out.a.lt
        have h7lt := HO.out.p.lt
        have hpo := HPLB.out
        have hk24 : Kept (fun j => j = B10) w2 w4 := (Kept.of_below HB23.out).trans (Kept.of_below (HB34.out))
        have hk25 : Kept (fun j => j = B10) w2 W5 := hk24.step hk45 (fun j e => .inl e)
        have htr5 : Tr K s0 Z3 W5 g T := (HTR3.out.quiet HB34.out).kept hk45 (fun j _ h e => by have e' : j = B10 := e; have := (HZ3.out j h).1; omega)
        have hbe5 : Below w.heap.size w W5 := HB2.out.trans (hk25.below HB2.out.size (fun j e => by omega))
        have hmk := make_is K s0 Z3 W5 (HT.out.below hbe5 hlow) g T htr5 hlo key HKEY.out
        unfold arr at hmk
        rw [← ECK.out] at hmk
        have hk5 := HO.out.k.kept hk25 (by show ¬ B9 = B10; omega)
        have HMK := Lib.hid hmk
        have HK5 := Lib.hid hk5
        have HA5 := Lib.hid ha5
        have HK25 := Lib.hid hk25
        have HK45 := Lib.hid hk45
        clear hmk hk5 ha5 hk24 hk25 htr5 hbe5 hk45
        go_wp2_with (refine wpList_load_row rfl 28 (.tmp 9) rfl B9 rfl 28 CK.toArray (0, 0) _ HK5.out Tryd.underlying28 rfl SZK.out ?_)
        refine HMK.out.mono ?_
        rintro _ w6 ⟨bp, ap, np, cp, rfl, hmd⟩
        have hk26 : Kept (fun j => j = B10) w2 w6 := HK25.out.step hmd.kept (fun j e => .inr (HZ3.out j e).1)
        have hp6 := HO.out.p.kept hk26 (by show ¬ B7 = B10; omega)
        have HP6 := Lib.hid hp6
        have HMD := Lib.hid hmd
        have HK26 := Lib.hid hk26
        have HSP := Lib.hid (And.intro (SZP.out bp hmd.hash ap np cp) (HPP.out b0 bp HO.out.hash hmd.hash a0 ap n0 c0 np cp))
        clear hp6 hmd hk26 HMK
        go_wp2_with (refine wpList_store_row rfl 56 (.tmp 7) (.tmp 66) rfl B7 (pcells bp ap np cp).toArray rfl rfl 56 (pcells b0 a0 n0 c0).toArray HP6.out HSP.out.1 HSP.out.2 (pcells_one _ _ _ _) ?_)
        have hk67 := kept_setRow (g := B7) w6 (pcells bp ap np cp).toArray
        have hp7 : Has (w6.setRow B7 (pcells bp ap np cp).toArray) B7 56 (pcells bp ap np cp).toArray := HP6.out.setRow
        generalize w6.setRow B7 (pcells bp ap np cp).toArray = W7 at hk67 hp7 ⊢
        have hk27 : Kept (fun j => j = B7 ∨ j = B10) w2 W7 := (HK26.out.mono (fun _ _ e => .inr e)).step hk67 (fun j e => .inl (.inl e))
        have hn6 := HMD.out.nodes
        have hfin : OnlyC w B7 B8 B9 B10 B11 LQ CK #[.slice bv nb cb, .int .u64 (sB : Int)] W7 := by
          refine ⟨bp, ap, np, cp, nodesF K s0 (besF K s0 T key) 256, av, valT T key, cv, ws, hp7, HO.out.q.kept hk27 (by show ¬ (B8 = B7 ∨ B8 = B10); omega), HO.out.k.kept hk27 (by show ¬ (B9 = B7 ∨ B9 = B10); omega), ?_, HO.out.b.kept hk27 (by show ¬ (B11 = B7 ∨ B11 = B10); omega), HMD.out.hash, ?_, ?_, ?_, ?_, ?_, ?_⟩
          · rw [← ENV.out]
            exact (HA5.out.kept HMD.out.kept (fun e => by have := (HZ3.out _ e).1; omega)).kept hk67 (by show ¬ B10 = B7; omega)
          · refine ⟨hn6.len, hn6.hash, hn6.fits, fun hn => ?_⟩
            obtain ⟨b, o, e1, e2, e3⟩ := hn6.at_ hn
            have h1 : W5.heap.size ≤ b := HMD.out.new hn _ e1
            have h2 := HK25.out.size
            exact ⟨b, o, e1, by have := hk67.size; omega, fun i x hx => rangeAt_kept (e3 i x hx) hk67 (fun e => by have e' : b = B7 := e; omega)⟩
          · have h1 := hn6.len; have h2 := nodesF_len (K := K) (s0 := s0) (f := besF K s0 T key) 256; omega
          · have h1 := HROW.out
            rw [ENV.out] at h1
            have h2 := (h1.kept HK45.out (fun j _ h e => by have e' : j = B10 := e; have h3 : w3.heap.size ≤ j := h; have := HB23.out.size; omega)).kept HMD.out.kept (fun j _ h e => by have h3 : w3.heap.size ≤ j := h; have := (HZ3.out _ e).2; omega)
            exact (h2.kept hk67 (fun j _ h e => by have e' : j = B7 := e; have h3 : w3.heap.size ≤ j := h; have := HB23.out.size; omega)).bytes (Nat.le_refl _)
          · unfold valT
            cases hf : findT T key with
            | none => exact Nat.zero_le _
            | some o => exact HMD.out.tr.short o (find_key hf).2
          · rw [EWS.out]; exact Nat.lt_of_le_of_lt (was_le T key) HMD.out.tr.sum
          · exact HB2.out.trans (hk27.below HB2.out.size (fun j e => by rcases e with e | e <;> omega))
        have HFIN := Lib.hid hfin
        clear hk67 hp7 hk27 hn6 hfin
        go_meet
        case rel => exact HFIN.out
  case rest =>
  as_aux_lemma =>
    obtain ⟨w3, hw3⟩ : ∃ y, y = wc := ⟨_, rfl⟩
    subst hw3
    obtain ⟨bp, ap, np, cp, xs, av, bsA, cv, sA, ho⟩ := hcut
    obtain ⟨nA, hnA⟩ : ∃ x, x = bsA.length := ⟨_, rfl⟩
    obtain ⟨R, hR⟩ : ∃ R, R = pfRoot K s0 (bareB bp) key xs (leafNd K s0 bsA sA) := ⟨_, rfl⟩
    obtain ⟨RQ, hRQ⟩ : ∃ R, R = pfRoot K s0 (bareB bq) key xsq (leafNd K s0 bsB sB) := ⟨_, rfl⟩
    have hroot := root_is K s0 w3 (HT.out.below ho.bel hlow) bp ho.hash ap np cp xs ho.nodes (by have := ho.few; omega) key HKEY.out av bsA cv sA ho.bytes (by have := ho.short; omega) ho.sum R hR
    unfold arr leafV at hroot
    rw [← ECK.out, ← hnA] at hroot
    have hrh : IsHash (pfN R).h := by rw [hR]; exact pf_hash HT.out.len (leaf_hash K s0 HT.out.len bsA sA)
    have h10 := ho.a
    rw [← hnA] at h10
    have HO3 := Lib.hid ho
    have H10 := Lib.hid h10
    have HROOT := Lib.hid hroot
    have HRH := Lib.hid hrh
    have ER := Lib.hid hR
    have ERQ := Lib.hid hRQ
    have ENA := Lib.hid hnA
    clear ho h10 hroot hrh hR hRQ hnA HO HPS
    go_wp2_with (first
      | (refine wpList_load_row rfl 56 (.tmp 7) rfl B7 rfl 56 (pcells bp ap np cp).toArray (0, 0) _ HO3.out.p Tryd.underlying56 rfl (SZP.out bp HO3.out.hash ap np cp) ?_)
      | (refine wpList_load_row rfl 28 (.tmp 9) rfl B9 rfl 28 CK.toArray (0, 0) _ HO3.out.k Tryd.underlying28 rfl SZK.out ?_)
      | (refine wpList_load_row rfl 32 (.tmp 10) rfl B10 rfl 32 #[.slice av nA cv, .int .u64 (sA : Int)] (0, 0) _ H10.out Tryd.underlying32 rfl (SZF.out av nA cv sA).1 ?_))
    refine HROOT.out.mono ?_
    rintro _ w4 ⟨rfl, hb4⟩
    have hnw : Has ((w4.alloc (.cells Z 58)).setRow w4.heap.size (ndV (pfN R)).toArray) w4.heap.size 58 (ndV (pfN R)).toArray ∧ Below w3.heap.size w3 ((w4.alloc (.cells Z 58)).setRow w4.heap.size (ndV (pfN R)).toArray) := by
      rw [World.setRow_alloc_new]
      exact ⟨Has.new _ _ _, hb4.alloc hb4.size _⟩
    have HNW := Lib.hid hnw
    clear hb4 hnw HROOT
    go_upto_region 10 with (refine wpList_store_row rfl 58 (.tmp 16) (.tmp 72) rfl w4.heap.size (ndV (pfN R)).toArray rfl rfl 58 Z (heap_alloc_new w4 _) (SZN.out _ HRH.out) (HZN.out _ HRH.out) (ndV_one _) ?_)
    generalize (w4.alloc (.cells Z 58)).setRow w4.heap.size (ndV (pfN R)).toArray = W5 at HNW ⊢
    generalize w4.heap.size = G16 at HNW ⊢
    have HO5 := Lib.hid (HO3.out.below HNW.out.2)
    have H105 := Lib.hid (H10.out.below HNW.out.2 H10.out.lt)
    clear HO3 H10
    cases R with
    | error e =>
      have he : ¬ e = 0 := by rcases pf_errs ER.out.symm with h | h | h | h <;> omega
      have hne : ((e : Int) != 0) = true := by rw [bne_iff_ne]; omega
      unfold pfE
      go_wp2
      go_ret
      exact ⟨rfl, HO5.out.bel⟩
    | ok r =>
    have hrh : IsHash r.h := HRH.out
    have H16 := Lib.hid (show Has W5 G16 58 (ndV r).toArray from HNW.out.1)
    have hchk := check_is K s0 W5 (HT.out.below HO5.out.bel hlow) bq HBQ.out aq nq cq xsq (HXQ.out.below HO5.out.bel) (by have := HNB.out; omega) r hrh key HKEY.out bv bsB cb sB (HBB.out.alive HO5.out.bel HO5.out.bel.size) (by have h1 := HNB.out; have h2 := ENB.out; omega) HSB.out RQ ERQ.out
    unfold arr leafV at hchk
    rw [← ELQ.out, ← ECK.out, ← ENB.out] at hchk
    obtain ⟨ce, hce⟩ : ∃ x, x = chkE RQ r := ⟨_, rfl⟩
    rw [← hce] at hchk
    have HCHK := Lib.hid hchk
    have ECE := Lib.hid hce
    have HRR := Lib.hid hrh
    have SZQ := Lib.hid (show (Tryd.prog.info? 56).map (·.size) = some LQ.toArray.size by rw [ELQ.out]; exact SZP.out bq HBQ.out aq nq cq)
    unfold pfE
    clear hchk hce hrh HNW
    go_upto_region 10 with (fail)
    go_cut [83] from 26 (fun c wx => c = .bool (decide (¬ ce = 0)) ∧ Below W5.heap.size W5 wx)
    case first =>
      have hz0 : (((0 : Nat) : Int) != 0) = false := rfl
      go_wp2_with (first
        | (refine wpList_load_midG (by kernel_rfl) 56 (.tmp 8) rfl B8 0 rfl LQ _ HO5.out.q.row0 Tryd.underlying56 rfl (by have := SZQ.out; rwa [List.size_toArray] at this) ?_)
        | (refine wpList_load_midG (by kernel_rfl) 58 (.tmp 16) rfl G16 0 rfl (ndV r) _ H16.out.row0 Tryd.underlying58 rfl (SZL.out r HRR.out) ?_)
        | (refine wpList_load_midG (by kernel_rfl) 28 (.tmp 9) rfl B9 0 rfl CK _ HO5.out.k.row0 Tryd.underlying28 rfl (by have := SZK.out; rwa [List.size_toArray] at this) ?_)
        | (refine wpList_load_midG (by kernel_rfl) 32 (.tmp 11) rfl B11 0 rfl [.slice bv nb cb, .int .u64 (sB : Int)] _ (Has.row0 (L := [.slice bv nb cb, .int .u64 (sB : Int)]) HO5.out.b) Tryd.underlying32 rfl (SZF.out bv nb cb sB).1 ?_))
      refine HCHK.out.mono ?_
      rintro _ w6 ⟨rfl, hb6⟩
      have HB6 := Lib.hid hb6
      clear hb6
      by_cases hc0 : ce = 0
      · subst hc0
        go_wp2
        go_meet
        case rel => exact ⟨rfl, HB6.out⟩
      · have hcd : decide (¬ ce = 0) = true := decide_eq_true hc0
        have hcn : ((ce : Int) != 0) = true := by rw [bne_iff_ne]; omega
        have HCD := Lib.hid hcd
        clear hcd
        go_wp2
        go_meet
        case rel => exact ⟨by rw [HCD.out], HB6.out⟩
    case rest =>
    obtain ⟨w6, hw6⟩ : ∃ y, y = wc := ⟨_, rfl⟩
    subst hw6
    obtain ⟨rfl, hb6⟩ := hcut
    have HO6 := Lib.hid (HO5.out.below hb6)
    have H106 := Lib.hid (H105.out.below hb6 H105.out.lt)
    clear hb6 HO5 H105 HCHK H16 SZQ
    by_cases hc0 : ce = 0
    · rw [decide_eq_false (show ¬ ¬ ce = 0 from fun h => h hc0)]
      have HRQ := Lib.hid (show pfRoot K s0 (bareB bq) key xsq (leafNd K s0 bsB sB) = .ok r from chk_zero (by rw [← ERQ.out, ← ECE.out, hc0]))
      have HRP := Lib.hid (show pfRoot K s0 (bareB bp) key xs (leafNd K s0 bsA sA) = .ok r from ER.out.symm)
      clear hc0 ECE ERQ ER
      go_upto_region 12 with (fail)
      have c100 : w6.cell? ⟨B10, 0, none⟩ = some (.slice av nA cv) := H106.out.cell_is rfl
      have c101 : w6.cell? ⟨B10, 1, none⟩ = some (.int .u64 (sA : Int)) := H106.out.cell_is rfl
      have c110 : w6.cell? ⟨B11, 0, none⟩ = some (.slice bv nb cb) := HO6.out.b.cell_is rfl
      have c111 : w6.cell? ⟨B11, 1, none⟩ = some (.int .u64 (sB : Int)) := HO6.out.b.cell_is rfl
      have hsame : Calls Tryd.prog 23 #[.slice av nA cv, .slice bv nb cb] w6 fun e w' => e = .returned (.bool (decide (bsA = bsB))) ∧ w' = w6 := by
        have := same_is w6 (.slice av nA cv) (.slice bv nb cb) bsA bsB (by rw [ENA.out]; exact HO6.out.bytes) (by rw [ENB.out]; exact HBB.out.alive HO6.out.bel HO6.out.bel.size)
        exact this
      have HSAME := Lib.hid hsame
      clear hsame
      go_cut [95] from 26 (fun c wx => w6 = wx ∧ ∃ b : Bool, c = .bool b)
      case first =>
        by_cases hss : sA = sB
        · have hss' : ((sA : Int) == (sB : Int)) = true := by rw [beq_iff_eq]; omega
          clear hss
          go_wp2_with fail
          refine HSAME.out.mono ?_
          rintro _ w7 ⟨rfl, hw7⟩
          have HW7 := Lib.hid hw7
          clear hw7
          go_wp2
          go_meet
          case rel => exact ⟨HW7.out.symm, _, rfl⟩
        · have hss' : ((sA : Int) == (sB : Int)) = false := by rw [beq_eq_false_iff_ne]; omega
          clear hss
          go_wp2
          go_meet
          case rel => exact ⟨rfl, _, rfl⟩
      case rest =>
      obtain ⟨w7, hw7⟩ : ∃ y, y = wc := ⟨_, rfl⟩
      subst hw7
      obtain ⟨rfl, b95, rfl⟩ := hcut
      clear c100 c101 c110 c111 HSAME
      cases b95 with
      | true =>
        go_wp2
        go_ret
        exact ⟨rfl, HO6.out.bel⟩
      | false =>
      obtain ⟨nA0, hnA0⟩ : ∃ x, x = leafNd K s0 bsA sA := ⟨_, rfl⟩
      obtain ⟨nB0, hnB0⟩ : ∃ x, x = leafNd K s0 bsB sB := ⟨_, rfl⟩
      have hhA : IsHash nA0.h := by rw [hnA0]; exact leaf_hash K s0 HT.out.len bsA sA
      have hhB : IsHash nB0.h := by rw [hnB0]; exact leaf_hash K s0 HT.out.len bsB sB
      have hlA := leafNode_is K s0 w6 (.slice av bsA.length cv) bsA sA (HT.out.below HO6.out.bel hlow) HO6.out.bytes (by have := HO6.out.short; omega) HO6.out.sum
      have hlA2 : Calls Tryd.prog 38 #[.agg #[.slice av nA cv, .int .u64 (sA : Int)]] w6 fun e w' => e = .returned (.agg (ndV nA0).toArray) ∧ Below w6.heap.size w6 w' := by
        rw [hnA0, ENA.out]; exact hlA
      have hlB : ∀ W, Below w.heap.size w W → Calls Tryd.prog 38 #[.agg #[.slice bv nb cb, .int .u64 (sB : Int)]] W fun e w' => e = .returned (.agg (ndV nB0).toArray) ∧ Below W.heap.size W w' := fun W hW => by
        rw [hnB0, ENB.out]
        exact leafNode_is K s0 W (.slice bv bsB.length cb) bsB sB (HT.out.below hW hlow) (HBB.out.alive hW hW.size) (by have h1 := HNB.out; have h2 := ENB.out; omega) HSB.out
      have hl0z : ∀ W, Below w.heap.size w W → Calls Tryd.prog 38 #[.agg #[.slice none 0 0, .int .u64 0]] W fun e w' => e = .returned (.agg (ndV (emptyNd K s0 0)).toArray) ∧ Below W.heap.size W w' := fun W hW =>
        leafNode_is K s0 W (.slice none 0 0) [] 0 (HT.out.below hW hlow) (nil_bytes _ _) (by decide) (by decide)
      have HLA := Lib.hid hlA2
      have HLB := Lib.hid hlB
      have HL0 := Lib.hid hl0z
      have HHA := Lib.hid hhA
      have HHB := Lib.hid hhB
      rw [← hnA0] at HRP
      rw [← hnB0] at HRQ
      clear hlA hlA2 hlB hl0z hhA hhB hnA0 hnB0
      go_wp2_with (refine wpList_load_row rfl 32 (.tmp 10) rfl B10 rfl 32 #[.slice av nA cv, .int .u64 (sA : Int)] (0, 0) _ H106.out Tryd.underlying32 rfl (SZF.out av nA cv sA).1 ?_)
      refine HLA.out.mono ?_
      rintro _ w7 ⟨rfl, hb7⟩
      have hnw : Has ((w7.alloc (.cells Z 58)).setRow w7.heap.size (ndV nA0).toArray) w7.heap.size 58 (ndV nA0).toArray ∧ Below w6.heap.size w6 ((w7.alloc (.cells Z 58)).setRow w7.heap.size (ndV nA0).toArray) := by
        rw [World.setRow_alloc_new]
        exact ⟨Has.new _ _ _, hb7.alloc hb7.size _⟩
      have HN7 := Lib.hid hnw
      have HS7 := Lib.hid hb7.size
      clear hb7 hnw HLA H106
      go_upto_region 15 with (refine wpList_store_row rfl 58 (.tmp 18) (.tmp 97) rfl w7.heap.size (ndV nA0).toArray rfl rfl 58 Z (heap_alloc_new w7 _) (SZN.out _ HHA.out) (HZN.out _ HHA.out) (ndV_one _) ?_)
      generalize (w7.alloc (.cells Z 58)).setRow w7.heap.size (ndV nA0).toArray = W8 at HN7 ⊢
      generalize w7.heap.size = B18 at HN7 HS7 ⊢
      have HO8 := Lib.hid (HO6.out.below HN7.out.2)
      have HND6 := Lib.hid (And.intro HO6.out.nodes (HXQ.out.below HO6.out.bel))
      have HB68 := Lib.hid HN7.out.2
      have HP18 := Lib.hid (show B11 < B18 by have h1 := HO6.out.b.lt; have h2 := HS7.out; omega)
      clear HO6
      go_wp2_with (refine wpList_load_row rfl 32 (.tmp 11) rfl B11 rfl 32 #[.slice bv nb cb, .int .u64 (sB : Int)] (0, 0) _ HO8.out.b Tryd.underlying32 rfl (SZF.out bv nb cb sB).1 ?_)
      refine (HLB.out _ HO8.out.bel).mono ?_
      rintro _ w9 ⟨rfl, hb9⟩
      have hnw : Has ((w9.alloc (.cells Z 58)).setRow w9.heap.size (ndV nB0).toArray) w9.heap.size 58 (ndV nB0).toArray ∧ Below W8.heap.size W8 ((w9.alloc (.cells Z 58)).setRow w9.heap.size (ndV nB0).toArray) := by
        rw [World.setRow_alloc_new]
        exact ⟨Has.new _ _ _, hb9.alloc hb9.size _⟩
      have HN9 := Lib.hid hnw
      have HP19 := Lib.hid (show B18 < w9.heap.size by have h1 := HN7.out.1.lt; have h2 := hb9.size; omega)
      clear hb9 hnw HLB
      go_upto_region 16 with (refine wpList_store_row rfl 58 (.tmp 19) (.tmp 99) rfl w9.heap.size (ndV nB0).toArray rfl rfl 58 Z (heap_alloc_new w9 _) (SZN.out _ HHB.out) (HZN.out _ HHB.out) (ndV_one _) ?_)
      generalize (w9.alloc (.cells Z 58)).setRow w9.heap.size (ndV nB0).toArray = W10 at HN9 ⊢
      generalize w9.heap.size = B19 at HN9 HP19 ⊢
      have H1810 := Lib.hid (HN7.out.1.below HN9.out.2 HN7.out.1.lt)
      have HO10 := Lib.hid (HO8.out.below HN9.out.2)
      have HB610 := Lib.hid (HB68.out.trans (HN9.out.2.mono HB68.out.size))
      clear HO8 HN7
      have SZB := Lib.hid (show ∀ x : Nd, IsHash x.h → (Tryd.prog.info? 28).map (·.size) = some (bcells x.h).length from fun x hx => by rw [bcells_length, hx.1]; kernel_rfl)
      have hcmp := hash_eq_at 9998 nA0.h nB0.h HHA.out HHB.out
      obtain ⟨eq0, heq0⟩ : ∃ b, b = decide (nA0.h = nB0.h) := ⟨_, rfl⟩
      rw [← heq0] at hcmp
      have EEQ := Lib.hid heq0
      have HR18 := Lib.hid (nd_hash_row H1810.out)
      have HR19 := Lib.hid (nd_hash_row HN9.out.1)
      clear heq0
      cases eq0 with
      | true =>
        go_wp2_with (first
          | (refine wpList_load_mid rfl 28 (.tmp 100) rfl B18 0 rfl (bcells nA0.h) _ HR18.out Tryd.underlying28 rfl (SZB.out nA0 HHA.out) ?_)
          | (refine wpList_load_mid rfl 28 (.tmp 102) rfl B19 0 rfl (bcells nB0.h) _ HR19.out Tryd.underlying28 rfl (SZB.out nB0 HHB.out) ?_))
        go_ret
        exact ⟨rfl, HO10.out.bel⟩
      | false =>
      have HNE0 := Lib.hid (show ¬ nA0.h = nB0.h from of_decide_eq_false EEQ.out.symm)
      go_wp2_with (first
        | (refine wpList_load_mid rfl 28 (.tmp 100) rfl B18 0 rfl (bcells nA0.h) _ HR18.out Tryd.underlying28 rfl (SZB.out nA0 HHA.out) ?_)
        | (refine wpList_load_mid rfl 28 (.tmp 102) rfl B19 0 rfl (bcells nB0.h) _ HR19.out Tryd.underlying28 rfl (SZB.out nB0 HHB.out) ?_))
      refine (HL0.out _ HO10.out.bel).mono ?_
      rintro _ w11 ⟨rfl, hb11⟩
      have hnw : Has ((w11.alloc (.cells Z 58)).setRow w11.heap.size (ndV (emptyNd K s0 0)).toArray) w11.heap.size 58 (ndV (emptyNd K s0 0)).toArray ∧ Below W10.heap.size W10 ((w11.alloc (.cells Z 58)).setRow w11.heap.size (ndV (emptyNd K s0 0)).toArray) := by
        rw [World.setRow_alloc_new]
        exact ⟨Has.new _ _ _, hb11.alloc hb11.size _⟩
      have HN11 := Lib.hid hnw
      have HP22 := Lib.hid (show B19 < w11.heap.size by have h1 := HN9.out.1.lt; have h2 := hb11.size; omega)
      clear hb11 hnw HL0 hcmp EEQ HR18 HR19
      go_upto_region 21 with (refine wpList_store_row rfl 58 (.tmp 22) (.tmp 106) rfl w11.heap.size (ndV (emptyNd K s0 0)).toArray rfl rfl 58 Z (heap_alloc_new w11 _) (SZN.out _ (HEH.out 0)) (HZN.out _ (HEH.out 0)) (ndV_one _) ?_)
      generalize (w11.alloc (.cells Z 58)).setRow w11.heap.size (ndV (emptyNd K s0 0)).toArray = Wl at HN11 ⊢
      generalize w11.heap.size = B22 at HN11 HP22 ⊢
      have HOL := Lib.hid (HO10.out.below HN11.out.2)
      have HB6L := Lib.hid (HB610.out.trans (HN11.out.2.mono HB610.out.size))
      have HNDV := Lib.hid (show ∀ V, Kept (fun j => j = B18 ∨ j = B19 ∨ j = B22) Wl V → NodesAt V ap np xs ∧ NodesAt V aq nq xsq from fun V hV => by
        have h1 := HP19.out
        have h2 := HP22.out
        have hk : Kept (fun j => B18 ≤ j) w6 V := (Kept.of_below HB6L.out).trans (hV.mono (fun j _ e => by rcases e with e | e | e <;> (show B18 ≤ j; omega)))
        exact ⟨HND6.out.1.keptLt HS7.out hk, HND6.out.2.keptLt HS7.out hk⟩)
      have HL := Lib.hid (show OnlyL Wl B18 B19 B22 (ndV nA0) (ndV nB0) (ndV (emptyNd K s0 0)) Wl from ⟨H1810.out.below HN11.out.2 H1810.out.lt, HN9.out.1.below HN11.out.2 HN9.out.1.lt, HN11.out.1, Kept.refl _ _⟩)
      have HPP2 := Lib.hid (show B11 < B18 ∧ B18 < B19 ∧ B19 < B22 ∧ B22 < Wl.heap.size ∧ w.heap.size ≤ B18 from ⟨HP18.out, HP19.out, HP22.out, HN11.out.1.lt, by have h1 := HPLB.out; have h2 := HP18.out; omega⟩)
      clear HO10 H1810 HN9 HN11 HP18 HP19 HP22 HB6L HB610 HB68 HND6 HS7
      go_wp2_with fail
      go_loopw [20, 21, 23] (fun iv kv hv wr => ∃ (i k h : Nat) (m n : Nd), iv = .int .i64 (i : Int) ∧ kv = .int .i64 (k : Int) ∧ hv = .int .i64 (h : Int) ∧ h ≤ 256 ∧ pfAt K s0 (bareB bp) key xs nA0 h = .ok (m, i) ∧ pfAt K s0 (bareB bq) key xsq nB0 h = .ok (n, k) ∧ ¬ m.h = n.h ∧ OnlyL Wl B18 B19 B22 (ndV m) (ndV n) (ndV (emptyNd K s0 h)) wr) (fun _ _ hv _ => 256 - (intOf hv).toNat)
      case atStart => exact ⟨0, 0, 0, nA0, nB0, rfl, rfl, rfl, Nat.zero_le _, rfl, rfl, HNE0.out, HL.out⟩
      case round =>
        clear HL HNE0
        obtain ⟨i, k, h, m, n, rfl, rfl, rfl, hh, hpm, hpn, hne, hol⟩ := hrel
        by_cases hlt : h < 256
        · obtain ⟨m1, i1, x, e1, hxh, hxf, hxm, hxc⟩ := pf_next HT.out.len HOL.out.nodes.hash HRP.out hlt hpm
          obtain ⟨n1, k1, y, e2, hyh, hyf, hym, hyc⟩ := pf_next HT.out.len HXQ.out.hash HRQ.out hlt hpn
          have hmh : IsHash m.h := pfAt_hash HT.out.len HHA.out h hpm
          have hnh : IsHash n.h := pfAt_hash HT.out.len HHB.out h hpn
          have hm1h : IsHash m1.h := pfAt_hash HT.out.len HHA.out (h + 1) e1
          have hn1h : IsHash n1.h := pfAt_hash HT.out.len HHB.out (h + 1) e2
          have hi1 : i1 ≤ np := by have := (pfAt_sum (h + 1) e1).1; rw [HOL.out.nodes.len] at this; exact this
          have hk1 : k1 ≤ nq := by have := (pfAt_sum (h + 1) e2).1; rw [HXQ.out.len] at this; exact this
          have hlt' : (h : Int) < 256 := by omega
          have HE1 := Lib.hid e1
          have HE2 := Lib.hid e2
          have HXH := Lib.hid hxh
          have HYH := Lib.hid hyh
          have HXM := Lib.hid (And.intro hxf hxm)
          have HYM := Lib.hid (And.intro hyf hym)
          have HXC := Lib.hid hxc
          have HYC := Lib.hid hyc
          have HMH := Lib.hid hmh
          have HNH := Lib.hid hnh
          have HM1 := Lib.hid hm1h
          have HN1 := Lib.hid hn1h
          have HIK := Lib.hid (And.intro hi1 hk1)
          have HLR := Lib.hid hol
          clear e1 e2 hxh hyh hxf hxm hyf hym hxc hyc hmh hnh hm1h hn1h hi1 hk1 hpm hpn hne hol
          go_upto_region 25 with (first
            | (refine wpList_load_row rfl 58 (.tmp 22) rfl B22 rfl 58 (ndV (emptyNd K s0 h)).toArray (0, 0) _ HLR.out.e Tryd.underlying58 rfl (SZN.out _ (HEH.out h)) ?_)
            | (refine wpList_store_row rfl 58 (.tmp 24) (.tmp 111) rfl wr.heap.size (ndV (emptyNd K s0 h)).toArray rfl rfl 58 Z (heap_alloc_new wr _) (SZN.out _ (HEH.out h)) (HZN.out _ (HEH.out h)) (ndV_one _) ?_))
          have hnw : OnlyL Wl B18 B19 B22 (ndV m) (ndV n) (ndV (emptyNd K s0 h)) ((wr.alloc (.cells Z 58)).setRow wr.heap.size (ndV (emptyNd K s0 h)).toArray) ∧ Has ((wr.alloc (.cells Z 58)).setRow wr.heap.size (ndV (emptyNd K s0 h)).toArray) wr.heap.size 58 (ndV (emptyNd K s0 h)).toArray := by
            rw [World.setRow_alloc_new]
            exact ⟨HLR.out.below ((Below.refl _ _).alloc (Nat.le_refl _) _), Has.new _ _ _⟩
          have hg24 : Wl.heap.size ≤ wr.heap.size := HLR.out.kept.size
          generalize (wr.alloc (.cells Z 58)).setRow wr.heap.size (ndV (emptyNd K s0 h)).toArray = V1 at hnw ⊢
          generalize wr.heap.size = G24 at hnw hg24 ⊢
          have HV1 := Lib.hid hnw
          have HG24 := Lib.hid hg24
          clear hnw hg24 HLR
          go_upto_region 26 with (first
            | (refine wpList_load_row rfl 58 (.tmp 22) rfl B22 rfl 58 (ndV (emptyNd K s0 h)).toArray (0, 0) _ HV1.out.1.e Tryd.underlying58 rfl (SZN.out _ (HEH.out h)) ?_)
            | (refine wpList_store_row rfl 58 (.tmp 25) (.tmp 112) rfl V1.heap.size (ndV (emptyNd K s0 h)).toArray rfl rfl 58 Z (heap_alloc_new V1 _) (SZN.out _ (HEH.out h)) (HZN.out _ (HEH.out h)) (ndV_one _) ?_))
          have hnw : OnlyL Wl B18 B19 B22 (ndV m) (ndV n) (ndV (emptyNd K s0 h)) ((V1.alloc (.cells Z 58)).setRow V1.heap.size (ndV (emptyNd K s0 h)).toArray) ∧ Has ((V1.alloc (.cells Z 58)).setRow V1.heap.size (ndV (emptyNd K s0 h)).toArray) V1.heap.size 58 (ndV (emptyNd K s0 h)).toArray ∧ Has ((V1.alloc (.cells Z 58)).setRow V1.heap.size (ndV (emptyNd K s0 h)).toArray) G24 58 (ndV (emptyNd K s0 h)).toArray := by
            rw [World.setRow_alloc_new]
            exact ⟨HV1.out.1.below ((Below.refl _ _).alloc (Nat.le_refl _) _), Has.new _ _ _, HV1.out.2.alloc _⟩
          have hg25 : G24 < V1.heap.size := HV1.out.2.lt
          generalize (V1.alloc (.cells Z 58)).setRow V1.heap.size (ndV (emptyNd K s0 h)).toArray = V2 at hnw ⊢
          generalize V1.heap.size = G25 at hnw hg25 ⊢
          have HV2 := Lib.hid hnw
          have HG25 := Lib.hid (show Wl.heap.size ≤ G24 ∧ G24 < G25 from ⟨HG24.out, hg25⟩)
          clear hnw hg25 HV1 HG24
          obtain ⟨bx, hbx⟩ : ∃ v, v = bp.getD (h / 8) 0 := ⟨_, rfl⟩
          have hps8 := HPP2.out
          have hpo := HPLB.out
          have hk7 : ∀ V, OnlyL Wl B18 B19 B22 (ndV m) (ndV n) (ndV (emptyNd K s0 h)) V → V.cell? ⟨B7, h / 8, none⟩ = some (.int .u8 (bx : Int)) ∧ V.cell? ⟨B7, 32, none⟩ = some (.slice ap np cp) := fun V hV => by
            have hp := HOL.out.p.kept hV.kept (by show ¬ (B7 = B18 ∨ B7 = B19 ∨ B7 = B22); omega)
            exact ⟨by rw [hbx]; exact hp.cell_is (by rw [List.getElem?_toArray]; exact pcells_byte HOL.out.hash ap np cp (h / 8) (by omega)), hp.cell_is (by rw [List.getElem?_toArray]; exact pcells_row HOL.out.hash ap np cp)⟩
          have hb8 : bx < 256 := by rw [hbx]; exact HOL.out.hash.byte _ (by omega)
          obtain ⟨ck7, -⟩ := hk7 V2 HV2.out.1
          obtain ⟨bt, hbt⟩ : ∃ b, b = bareB bp h := ⟨_, rfl⟩
          have hbn := bare_num0 bp h
          rw [← hbx, ← hbt] at hbn
          have EBT := Lib.hid hbt
          have HBN := Lib.hid hbn
          have HK7 := Lib.hid hk7
          clear hbn hbt hbx hps8 hpo hk7
          go_upto_if 123 with (fail)
          rw [HBN.out]
          clear ck7 HBN
          go_cut [20] from 107 to 197 (fun iv wx => iv = .int .i64 (i1 : Int) ∧ Has wx G24 58 (ndV x).toArray ∧ Kept (fun j => j = G24) V2 wx)
          case first =>
            as_aux_lemma =>
              rcases HXC.out with ⟨hb, hxe, hie⟩ | ⟨hb, hxe, hie⟩
              · have hbt : bt = true := by rw [EBT.out, hb]
                subst hbt hxe hie
                go_wp2
                go_meet
                case rel => exact ⟨rfl, HV2.out.2.2, Kept.refl _ _⟩
              · have hbt : bt = false := by rw [EBT.out, hb]
                subst hbt hie
                have hin : i < np := by have := HIK.out.1; omega
                have hin' : ¬ (np : Int) ≤ (i : Int) := by omega
                have hin2 : (i : Int) + 1 ≤ 400 := by have := HOL.out.few; omega
                obtain ⟨-, c732⟩ := HK7.out V2 HV2.out.1
                obtain ⟨b, o, ha, hbl, hr⟩ := (HNDV.out V2 HV2.out.1.kept).1.at_ (by omega)
                have hrx : V2.rangeAt b (o + i * 33) (ndV x) := hr i x hxe
                have hat := at_nodeo b o np cp i hin
                rw [← ha] at hat
                have HRX := Lib.hid hrx
                have HFN := Lib.hid (show Has (V2.setRow G24 (ndV x).toArray) G24 58 (ndV x).toArray ∧ Kept (fun j => j = G24) V2 (V2.setRow G24 (ndV x).toArray) from ⟨HV2.out.2.2.setRow, kept_setRow (g := G24) V2 _⟩)
                clear hxe hr hrx hbl ha
                go_wp2_with (first
                  | (refine wpList_load_mid rfl 58 (.tmp 132) rfl b (o + i * 33) rfl (ndV x) _ HRX.out Tryd.underlying58 rfl (SZL.out x HXH.out) ?_)
                  | (refine wpList_store_row rfl 58 (.tmp 24) (.tmp 133) rfl G24 (ndV x).toArray rfl rfl 58 (ndV (emptyNd K s0 h)).toArray HV2.out.2.2 (SZN.out _ HXH.out) (HNN.out _ _ (HEH.out h) HXH.out) (ndV_one _) ?_))
                go_meet
                case rel => exact ⟨by go_num, HFN.out⟩
          case rest =>
          obtain ⟨V3, hV3⟩ : ∃ y, y = wc := ⟨_, rfl⟩
          subst hV3
          obtain ⟨rfl, h24, hk24⟩ := hcut
          have hol3 := HV2.out.1.keep hk24 (fun j e => by have e' : j = G24 := e; have := HG25.out.1; omega) (by have := HPP2.out; omega)
          have h25 := HV2.out.2.1.kept hk24 (by show ¬ G25 = G24; have := HG25.out.2; omega)
          have HV3 := Lib.hid (And.intro hol3 (And.intro h24 h25))
          clear h24 hk24 hol3 h25 HV2 HK7 EBT HXC
          obtain ⟨by_, hby⟩ : ∃ v, v = bq.getD (h / 8) 0 := ⟨_, rfl⟩
          have hps8 := HPP2.out
          have hpo := HPLB.out
          have hk8 : ∀ V, OnlyL Wl B18 B19 B22 (ndV m) (ndV n) (ndV (emptyNd K s0 h)) V → V.cell? ⟨B8, h / 8, none⟩ = some (.int .u8 (by_ : Int)) ∧ V.cell? ⟨B8, 32, none⟩ = some (.slice aq nq cq) := fun V hV => by
            have hp := HOL.out.q.kept hV.kept (by show ¬ (B8 = B18 ∨ B8 = B19 ∨ B8 = B22); omega)
            exact ⟨by rw [hby]; exact hp.cell_is (by rw [List.getElem?_toArray, ELQ.out]; exact pcells_byte HBQ.out aq nq cq (h / 8) (by omega)), hp.cell_is (by rw [List.getElem?_toArray, ELQ.out]; exact pcells_row HBQ.out aq nq cq)⟩
          have hb8 : by_ < 256 := by rw [hby]; exact HBQ.out.byte _ (by omega)
          obtain ⟨ck8, -⟩ := hk8 V3 HV3.out.1
          obtain ⟨bt2, hbt⟩ : ∃ b, b = bareB bq h := ⟨_, rfl⟩
          have hbn := bare_num0 bq h
          rw [← hby, ← hbt] at hbn
          have EBT := Lib.hid hbt
          have HBN := Lib.hid hbn
          have HK8 := Lib.hid hk8
          clear hbn hbt hby hps8 hpo hk8
          go_upto_if 146 with (fail)
          rw [HBN.out]
          clear ck8 HBN
          go_cut [21] from 107 to 197 (fun kv wx => kv = .int .i64 (k1 : Int) ∧ Has wx G25 58 (ndV y).toArray ∧ Kept (fun j => j = G25) V3 wx)
          case first =>
            as_aux_lemma =>
              rcases HYC.out with ⟨hb, hxe, hie⟩ | ⟨hb, hxe, hie⟩
              · have hbt : bt2 = true := by rw [EBT.out, hb]
                subst hbt hxe hie
                go_wp2
                go_meet
                case rel => exact ⟨rfl, HV3.out.2.2, Kept.refl _ _⟩
              · have hbt : bt2 = false := by rw [EBT.out, hb]
                subst hbt hie
                have hin : k < nq := by have := HIK.out.2; omega
                have hin' : ¬ (nq : Int) ≤ (k : Int) := by omega
                have hin2 : (k : Int) + 1 ≤ 400 := by have := HNB.out; omega
                obtain ⟨-, c832⟩ := HK8.out V3 HV3.out.1
                obtain ⟨b, o, ha, hbl, hr⟩ := (HNDV.out V3 HV3.out.1.kept).2.at_ (by omega)
                have hrx : V3.rangeAt b (o + k * 33) (ndV y) := hr k y hxe
                have hat := at_nodeo b o nq cq k hin
                rw [← ha] at hat
                have HRX := Lib.hid hrx
                have HFN := Lib.hid (show Has (V3.setRow G25 (ndV y).toArray) G25 58 (ndV y).toArray ∧ Kept (fun j => j = G25) V3 (V3.setRow G25 (ndV y).toArray) from ⟨HV3.out.2.2.setRow, kept_setRow (g := G25) V3 _⟩)
                clear hxe hr hrx hbl ha
                go_wp2_with (first
                  | (refine wpList_load_mid rfl 58 (.tmp 155) rfl b (o + k * 33) rfl (ndV y) _ HRX.out Tryd.underlying58 rfl (SZL.out y HYH.out) ?_)
                  | (refine wpList_store_row rfl 58 (.tmp 25) (.tmp 156) rfl G25 (ndV y).toArray rfl rfl 58 (ndV (emptyNd K s0 h)).toArray HV3.out.2.2 (SZN.out _ HYH.out) (HNN.out _ _ (HEH.out h) HYH.out) (ndV_one _) ?_))
                go_meet
                case rel => exact ⟨by go_num, HFN.out⟩
          case rest =>
          obtain ⟨V4, hV4⟩ : ∃ y, y = wc := ⟨_, rfl⟩
          subst hV4
          obtain ⟨rfl, h25, hk25⟩ := hcut
          have hol4 := HV3.out.1.keep hk25 (fun j e => by have e' : j = G25 := e; have := HG25.out; omega) (by have := HPP2.out; omega)
          have h24 := HV3.out.2.1.kept hk25 (by show ¬ G24 = G25; have := HG25.out.2; omega)
          have HV4 := Lib.hid (And.intro hol4 (And.intro h24 h25))
          have hk9 := HOL.out.k.kept hol4.kept (by have h1 := HPP2.out; have h2 := HPLB.out; show ¬ (B9 = B18 ∨ B9 = B19 ∨ B9 = B22); omega)
          have HK9 := Lib.hid hk9
          have hbit := bit_in key (h : Int) V4 HKEY.out.1 (by omega) (by omega)
          unfold arr at hbit
          rw [← ECK.out, Int.toNat_natCast] at hbit
          obtain ⟨bi, hbi⟩ : ∃ b, b = bitAt key h := ⟨_, rfl⟩
          have hbi2 : bi < 2 := by rw [hbi]; exact bitAt_lt key h
          rw [← hbi] at hbit HXM HYM
          have HBIT := Lib.hid hbit
          clear h25 hk25 hol4 h24 HV3 HK8 EBT HYC hk9 hbit hbi
          go_wp2_with (refine wpList_load_row rfl 28 (.tmp 9) rfl B9 rfl 28 CK.toArray (0, 0) _ HK9.out Tryd.underlying28 rfl SZK.out ?_)
          refine HBIT.out.mono ?_
          rintro _ V5 ⟨rfl, hV5⟩
          have hb5 : Below V4.heap.size V4 V5 := by rw [hV5]; exact (Below.refl _ _).alloc (Nat.le_refl _) _
          have HV5 := Lib.hid (show OnlyL Wl B18 B19 B22 (ndV m) (ndV n) (ndV (emptyNd K s0 h)) V5 ∧ Has V5 G24 58 (ndV x).toArray ∧ Has V5 G25 58 (ndV y).toArray from ⟨HV4.out.1.below hb5, HV4.out.2.1.below hb5 HV4.out.2.1.lt, HV4.out.2.2.below hb5 HV4.out.2.2.lt⟩)
          clear hV5 hb5 HV4 HK9 HBIT
          go_upto_if 162 with (fail)
          have hbel : ∀ V lm ln le, OnlyL Wl B18 B19 B22 lm ln le V → Below w.heap.size w V := fun V lm ln le hV => HOL.out.bel.trans (hV.kept.below HOL.out.bel.size (fun j e => by have h1 := HPP2.out; rcases e with e | e | e <;> omega))
          have HBEL := Lib.hid hbel
          have hp18 : B18 < B19 ∧ B19 < B22 := by have := HPP2.out; omega
          have HP18 := Lib.hid hp18
          have hg45 : ∀ j : Nat, j = B18 → ¬ G25 = j := fun j e e2 => by have h1 := HPP2.out; have h2 := HG25.out; omega
          clear hbel hp18
          go_cut [] from 107 to 197 (fun wx => OnlyL Wl B18 B19 B22 (ndV m1) (ndV n1) (ndV (emptyNd K s0 h)) wx)
          case first =>
            rcases (by omega : bi = 1 ∨ bi = 0) with h0 | h0
            · subst h0
              have hm1 : m1 = brNd K s0 x m := by have := HXM.out.2; rwa [if_pos (by first | rfl | trivial)] at this
              have hn1 : n1 = brNd K s0 y n := by have := HYM.out.2; rwa [if_pos (by first | rfl | trivial)] at this
              have HBR1 := Lib.hid (br_fits K s0 V5 x m (HT.out.below (HBEL.out _ _ _ _ HV5.out.1) hlow) HXH.out HMH.out (by have := HXM.out.1; omega))
              rw [← hm1] at HBR1
              have hbr2 := fun V (hV : Below w.heap.size w V) => br_fits K s0 V y n (HT.out.below hV hlow) HYH.out HNH.out (by have := HYM.out.1; omega)
              rw [← hn1] at hbr2
              have HBR2 := Lib.hid hbr2
              clear hm1 hn1 hbr2
              go_wp2_with (first
                | (refine wpList_load_row rfl 58 (.tmp 24) rfl G24 rfl 58 (ndV x).toArray (0, 0) _ HV5.out.2.1 Tryd.underlying58 rfl (SZN.out _ HXH.out) ?_)
                | (refine wpList_load_row rfl 58 (.tmp 18) rfl B18 rfl 58 (ndV m).toArray (0, 0) _ HV5.out.1.m Tryd.underlying58 rfl (SZN.out _ HMH.out) ?_))
              refine HBR1.out.mono ?_
              rintro _ V6 ⟨rfl, hb6⟩
              have h6 := HV5.out.1.below hb6
              have h7 := h6.setM HP18.out (ndV m1)
              have h725 := (HV5.out.2.2.below hb6 HV5.out.2.2.lt).kept (kept_setRow (g := B18) V6 (ndV m1).toArray) (hg45 B18 rfl)
              have H6 := Lib.hid h6.m
              have H7 := Lib.hid h7
              have H725 := Lib.hid h725
              clear hb6 h6 h7 h725
              go_upto_region 38 with (refine wpList_store_row rfl 58 (.tmp 18) (.tmp 167) rfl B18 (ndV m1).toArray rfl rfl 58 (ndV m).toArray H6.out (SZN.out _ HM1.out) (HNN.out _ _ HMH.out HM1.out) (ndV_one _) ?_)
              generalize V6.setRow B18 (ndV m1).toArray = V7 at H7 H725 ⊢
              go_wp2_with (first
                | (refine wpList_load_row rfl 58 (.tmp 25) rfl G25 rfl 58 (ndV y).toArray (0, 0) _ H725.out Tryd.underlying58 rfl (SZN.out _ HYH.out) ?_)
                | (refine wpList_load_row rfl 58 (.tmp 19) rfl B19 rfl 58 (ndV n).toArray (0, 0) _ H7.out.n Tryd.underlying58 rfl (SZN.out _ HNH.out) ?_))
              refine (HBR2.out _ (HBEL.out _ _ _ _ H7.out)).mono ?_
              rintro _ V8 ⟨rfl, hb8v⟩
              have h8 := H7.out.below hb8v
              have H8 := Lib.hid h8.n
              have H9 := Lib.hid (h8.setN HP18.out (ndV n1))
              clear hb8v h8
              go_wp2_with (refine wpList_store_row rfl 58 (.tmp 19) (.tmp 173) rfl B19 (ndV n1).toArray rfl rfl 58 (ndV n).toArray H8.out (SZN.out _ HN1.out) (HNN.out _ _ HNH.out HN1.out) (ndV_one _) ?_)
              go_meet
              case rel => exact H9.out
            · subst h0
              have hm1 : m1 = brNd K s0 m x := by have := HXM.out.2; rwa [if_neg (by first | decide | simp)] at this
              have hn1 : n1 = brNd K s0 n y := by have := HYM.out.2; rwa [if_neg (by first | decide | simp)] at this
              have HBR1 := Lib.hid (br_fits K s0 V5 m x (HT.out.below (HBEL.out _ _ _ _ HV5.out.1) hlow) HMH.out HXH.out HXM.out.1)
              rw [← hm1] at HBR1
              have hbr2 := fun V (hV : Below w.heap.size w V) => br_fits K s0 V n y (HT.out.below hV hlow) HNH.out HYH.out HYM.out.1
              rw [← hn1] at hbr2
              have HBR2 := Lib.hid hbr2
              clear hm1 hn1 hbr2
              go_wp2_with (first
                | (refine wpList_load_row rfl 58 (.tmp 24) rfl G24 rfl 58 (ndV x).toArray (0, 0) _ HV5.out.2.1 Tryd.underlying58 rfl (SZN.out _ HXH.out) ?_)
                | (refine wpList_load_row rfl 58 (.tmp 18) rfl B18 rfl 58 (ndV m).toArray (0, 0) _ HV5.out.1.m Tryd.underlying58 rfl (SZN.out _ HMH.out) ?_))
              refine HBR1.out.mono ?_
              rintro _ V6 ⟨rfl, hb6⟩
              have h6 := HV5.out.1.below hb6
              have h7 := h6.setM HP18.out (ndV m1)
              have h725 := (HV5.out.2.2.below hb6 HV5.out.2.2.lt).kept (kept_setRow (g := B18) V6 (ndV m1).toArray) (hg45 B18 rfl)
              have H6 := Lib.hid h6.m
              have H7 := Lib.hid h7
              have H725 := Lib.hid h725
              clear hb6 h6 h7 h725
              go_upto_region 40 with (refine wpList_store_row rfl 58 (.tmp 18) (.tmp 179) rfl B18 (ndV m1).toArray rfl rfl 58 (ndV m).toArray H6.out (SZN.out _ HM1.out) (HNN.out _ _ HMH.out HM1.out) (ndV_one _) ?_)
              generalize V6.setRow B18 (ndV m1).toArray = V7 at H7 H725 ⊢
              go_wp2_with (first
                | (refine wpList_load_row rfl 58 (.tmp 25) rfl G25 rfl 58 (ndV y).toArray (0, 0) _ H725.out Tryd.underlying58 rfl (SZN.out _ HYH.out) ?_)
                | (refine wpList_load_row rfl 58 (.tmp 19) rfl B19 rfl 58 (ndV n).toArray (0, 0) _ H7.out.n Tryd.underlying58 rfl (SZN.out _ HNH.out) ?_))
              refine (HBR2.out _ (HBEL.out _ _ _ _ H7.out)).mono ?_
              rintro _ V8 ⟨rfl, hb8v⟩
              have h8 := H7.out.below hb8v
              have H8 := Lib.hid h8.n
              have H9 := Lib.hid (h8.setN HP18.out (ndV n1))
              clear hb8v h8
              go_wp2_with (refine wpList_store_row rfl 58 (.tmp 19) (.tmp 185) rfl B19 (ndV n1).toArray rfl rfl 58 (ndV n).toArray H8.out (SZN.out _ HN1.out) (HNN.out _ _ HNH.out HN1.out) (ndV_one _) ?_)
              go_meet
              case rel => exact H9.out
          case rest =>
          obtain ⟨V6, hV6⟩ : ∃ y, y = wc := ⟨_, rfl⟩
          subst hV6
          have HV6 := Lib.hid hcut
          have HR18 := Lib.hid (nd_hash_row hcut.m)
          have HR19 := Lib.hid (nd_hash_row hcut.n)
          have hcmp := hash_eq_at 9998 m1.h n1.h HM1.out HN1.out
          obtain ⟨eq1, heq1⟩ : ∃ b, b = decide (m1.h = n1.h) := ⟨_, rfl⟩
          rw [← heq1] at hcmp
          have EEQ := Lib.hid heq1
          clear heq1 hcut HV5 hg45
          cases eq1 with
          | true =>
            go_wp2_with (first
              | (refine wpList_load_mid rfl 28 (.tmp 187) rfl B18 0 rfl (bcells m1.h) _ HR18.out Tryd.underlying28 rfl (SZB.out m1 HM1.out) ?_)
              | (refine wpList_load_mid rfl 28 (.tmp 189) rfl B19 0 rfl (bcells n1.h) _ HR19.out Tryd.underlying28 rfl (SZB.out n1 HN1.out) ?_))
            go_ret
            exact ⟨rfl, HBEL.out _ _ _ _ HV6.out⟩
          | false =>
            have HNE := Lib.hid (show ¬ m1.h = n1.h from of_decide_eq_false EEQ.out.symm)
            go_wp2_with (first
              | (refine wpList_load_mid rfl 28 (.tmp 187) rfl B18 0 rfl (bcells m1.h) _ HR18.out Tryd.underlying28 rfl (SZB.out m1 HM1.out) ?_)
              | (refine wpList_load_mid rfl 28 (.tmp 189) rfl B19 0 rfl (bcells n1.h) _ HR19.out Tryd.underlying28 rfl (SZB.out n1 HN1.out) ?_)
              | (refine wpList_load_row rfl 58 (.tmp 22) rfl B22 rfl 58 (ndV (emptyNd K s0 h)).toArray (0, 0) _ HV6.out.e Tryd.underlying58 rfl (SZN.out _ (HEH.out h)) ?_))
            refine (br_empty K s0 _ h (HT.out.below (HBEL.out _ _ _ _ HV6.out) hlow)).mono ?_
            rintro _ V7 ⟨rfl, hb7⟩
            have h7 := HV6.out.below hb7
            have H7 := Lib.hid h7.e
            have H8 := Lib.hid (h7.setE HP18.out (ndV (emptyNd K s0 (h + 1))))
            clear hb7 h7 hcmp EEQ HR18 HR19
            go_wp2_with (refine wpList_store_row rfl 58 (.tmp 22) (.tmp 196) rfl B22 (ndV (emptyNd K s0 (h + 1))).toArray rfl rfl 58 (ndV (emptyNd K s0 h)).toArray H7.out (SZN.out _ (HEH.out (h + 1))) (HNN.out _ _ (HEH.out h) (HEH.out (h + 1))) (ndV_one _) ?_)
            go_roundw
            case rel =>
              have hfin : ∃ (i2 k2 h2 : Nat) (m2 n2 : Nd), Value.int .i64 (i1 : Int) = .int .i64 (i2 : Int) ∧ Value.int .i64 (k1 : Int) = .int .i64 (k2 : Int) ∧ Value.int .i64 ((h : Int) + 1) = .int .i64 (h2 : Int) ∧ h2 ≤ 256 ∧ pfAt K s0 (bareB bp) key xs nA0 h2 = .ok (m2, i2) ∧ pfAt K s0 (bareB bq) key xsq nB0 h2 = .ok (n2, k2) ∧ ¬ m2.h = n2.h ∧ OnlyL Wl B18 B19 B22 (ndV m2) (ndV n2) (ndV (emptyNd K s0 h2)) (V7.setRow B22 (ndV (emptyNd K s0 (h + 1))).toArray) := ⟨i1, k1, h + 1, m1, n1, rfl, rfl, rfl, by omega, HE1.out, HE2.out, HNE.out, H8.out⟩
              first | exact hfin | ((repeat apply Exists.intro); exact ⟨hfin, rfl⟩)
            case measure => simp [intOf]; omega
        · obtain rfl : h = 256 := by omega
          exact absurd (by rw [pf_last HRP.out hpm, pf_last HRQ.out hpn]) hne
    · rw [decide_eq_true hc0]
      go_wp2
      go_ret
      exact ⟨rfl, HO6.out.bel⟩
end Go.Proofs.YtngmpcmeebcdmaaDoor
