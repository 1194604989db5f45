/- A book that lies in a zone: the contracts of its methods, with all that is kept outside of the zone. -/
import Derived.Test.YtnddejgglbdkmaaDoorBook22
namespace Go.Proofs.YtnddejgglbdkmaaDoor
set_option linter.unusedVariables false
set_option linter.unusedSimpArgs false
open Go.ChangeShapes Go.WideShapes Go.ChangeAt Go.RowKit Go.Maps

/-- a book at g whose blocks lie in the zone S. -/
def Lv (S : Nat → Prop) (w : World) (g : Nat) (b : Bk) : Prop := ∃ m0 m1 v, BookAt w g m0 m1 v b ∧ ∀ k, bset g m0 m1 v k → S k
section
variable {S S' : Nat → Prop} {w w' : World} {g : Nat} {b b' : Bk}
theorem Lv.lt (h : Lv S w g b) : g < w.heap.size := by obtain ⟨m0, m1, v, h1, h2⟩ := h; exact h1.obj.lt
theorem Lv.at (h : Lv S w g b) : S g := by obtain ⟨m0, m1, v, h1, h2⟩ := h; exact h2 g (.inl rfl)
theorem Lv.kept {T : Nat → Prop} (h : Lv S w g b) (hk : Kept T w w') (hs : ∀ k, k < w.heap.size → S k → ¬ T k) : Lv S w' g b := by
  obtain ⟨m0, m1, v, h1, h2⟩ := h
  exact ⟨m0, m1, v, h1.kept hk (fun k e => hs k (h1.lt k e) (h2 k e)), h2⟩
theorem Lv.zone (h : Lv S w g b) (hs : ∀ k, k < w.heap.size → S k → S' k) : Lv S' w g b := by
  obtain ⟨m0, m1, v, h1, h2⟩ := h
  exact ⟨m0, m1, v, h1, fun k e => hs k (h1.lt k e) (h2 k e)⟩
theorem Lv.quiet (h : Lv S w g b) (hb : Below w.heap.size w w') : Lv S w' g b := h.kept (T := fun _ => False) (Kept.of_below hb) (fun _ _ _ h => h)
theorem Lv.step {m0 m1 : Nat} {v v' : Value} (hs : ∀ k, bset g m0 m1 v k → S k) (hn : ∀ k, w.heap.size ≤ k → S k) (h' : BookAt w' g m0 m1 v' b') (hk : Kept (bset g m0 m1 v) w w') (hv : ∀ k, v'.ownBlock = some k → v.ownBlock = some k ∨ w.heap.size ≤ k) : Lv S w' g b' ∧ Kept S w w' := by
  refine ⟨⟨m0, m1, v', h', fun k e => ?_⟩, hk.mono fun k _ e => hs k e⟩
  rcases e with e | e | e | e
  · exact hs k (.inl e)
  · exact hs k (.inr (.inl e))
  · exact hs k (.inr (.inr (.inl e)))
  · rcases hv k e with e | e
    · exact hs k (.inr (.inr (.inr e)))
    · exact hn k e
theorem Lv.still (h : Lv S w g b) (hb : Below w.heap.size w w') : Lv S w' g b ∧ Kept S w w' := ⟨h.quiet hb, Kept.of_below hb⟩

theorem lv_new (w : World) (S : Nat → Prop) (hn : ∀ k, w.heap.size ≤ k → S k) (k0 k1 : Nat) : Calls Tryd.prog 9 #[.agg #[.int .u64 (k0 : Int), .int .u64 (k1 : Int)]] w fun e w' => ∃ g, e = .returned (.pointer (some ⟨g, 0, none⟩)) ∧ Lv S w' g ⟨[], [], [], k0, k1⟩ ∧ Below w.heap.size w w' ∧ w.heap.size ≤ g := by
  refine (new_is w k0 k1).mono fun e w' ⟨g, m0, m1, he, hB, hbel⟩ => ⟨g, he, ?_⟩
  obtain ⟨v, hg, hown⟩ := hB.obj
  have := hB.low
  refine ⟨⟨m0, m1, v, ⟨hg, own_base hown (Nat.zero_le _), hB.map0, hB.map1, hB.ne⟩, fun k e => hn k ?_⟩, hbel, this.1⟩
  rcases e with rfl | rfl | rfl | e
  · omega
  · omega
  · omega
  · rcases hown.2 with ⟨rfl, _⟩ | ⟨g', cap, cur, rfl, hg', _⟩
    · simp [Value.ownBlock] at e
    · simp [Value.ownBlock] at e
      omega
theorem lv_fund (h : Lv S w g b) (hn : ∀ k, w.heap.size ≤ k → S k) (hb : b.ok) (at_ : Int) (id : List Nat) (n : Nat) (hid : IsHash id) (hn2 : n < 18446744073709551616) :
    Calls Tryd.prog 10 #[.pointer (some ⟨g, 0, none⟩), .int .i64 at_, arr id, .int .u64 (n : Int)] w fun e w' => e = .returned (.int .i64 (fundE b at_ id n)) ∧ Lv S w' g (fundN b at_ id n) ∧ Kept S w w' := by
  by_cases h1 : ¬ isSide at_ ∨ n = 0
  · have e1 : fundE b at_ id n = 1 := if_pos h1
    have e2 : fundN b at_ id n = b := by unfold fundN; rw [if_neg (by rw [e1]; decide)]
    rw [e1, e2]
    exact (fund_arg w g at_ id n h1).mono fun e w' he => ⟨he.1, h.still he.2⟩
  · have ha : isSide at_ := Decidable.of_not_not fun e => h1 (.inl e)
    have hn0 : 0 < n := Nat.pos_of_ne_zero fun e => h1 (.inr e)
    obtain ⟨m0, m1, v, hat, hset⟩ := _root_.id h
    by_cases h2 : (amounts b id).sum + n < 18446744073709551616
    · have e1 : fundE b at_ id n = 0 := by unfold fundE; rw [if_neg h1, if_pos h2]
      have e2 : fundN b at_ id n = b.put at_ (addL (b.side at_) id n) := by unfold fundN; rw [if_pos e1]
      rw [e1, e2]
      exact (fund_fits w g m0 m1 v b at_ id n hat hb hid ha hn0 h2).mono fun e w' he => ⟨he.1, Lv.step hset hn he.2.1 he.2.2 fun k e => .inl e⟩
    · have e1 : fundE b at_ id n = 10 := by unfold fundE; rw [if_neg h1, if_neg h2]
      have e2 : fundN b at_ id n = b := by unfold fundN; rw [if_neg (by rw [e1]; decide)]
      rw [e1, e2]
      exact (fund_over w g m0 m1 v b at_ id n hat hb hid ha hn0 hn2 (by omega)).mono fun e w' he => ⟨he.1, h.still he.2⟩
theorem lv_offer (h : Lv S w g b) (hn : ∀ k, w.heap.size ≤ k → S k) (hb : b.ok) (o : Off) (ho : o.ok) :
    Calls Tryd.prog 11 #[.pointer (some ⟨g, 0, none⟩), .agg o.cells.toArray] w fun e w' => e = .returned (.int .i64 (offE b o)) ∧ Lv S w' g (offN b o) ∧ Kept S w w' := by
  by_cases hf : o.fair
  · have e1 : offE b o = offerE b o := if_pos hf
    have e2 : offN b o = offerN b o := by unfold offN offerN; rw [e1]
    rw [e1, e2]
    obtain ⟨m0, m1, v, hat, hset⟩ := h
    exact (offer_go w g m0 m1 v b o hat hb ho hf).mono fun e w' ⟨he, v', h1, h2, h3⟩ => ⟨he, Lv.step hset hn h1 h2 h3⟩
  · have e1 : offE b o = 1 := if_neg hf
    have e2 : offN b o = b := by unfold offN; rw [if_neg (by rw [e1]; decide)]
    rw [e1, e2]
    exact (offer_arg w g o ho hf).mono fun e w' he => ⟨he.1, h.still he.2⟩
theorem lv_back (h : Lv S w g b) (hn : ∀ k, w.heap.size ≤ k → S k) (hb : Tidy b) (f n : Int) :
    Calls Tryd.prog 14 #[.pointer (some ⟨g, 0, none⟩), .int .i64 f, .int .i64 n] w fun e w' => e = .returned (.int .i64 (backE b f n)) ∧ Lv S w' g (backN b f n) ∧ Kept S w w' := by
  obtain ⟨m0, m1, v, hat, hset⟩ := _root_.id h
  rcases find_cases b.offers f n with hf | ⟨k, o, hk, hf⟩
  · have e1 : backE b f n = 5 := by unfold backE; rw [hf]; rfl
    have e2 : backN b f n = b := by unfold backN; rw [hf]; rfl
    rw [e1, e2]
    exact (back_none w g m0 m1 v b f n hat hb.ok hf).mono fun e w' he => ⟨he.1, h.still he.2⟩
  · have hm := List.mem_of_getElem? hk
    have e1 : backE b f n = 0 := by unfold backE; rw [hf, if_neg (by omega)]
    have e2 : backN b f n = giveB b k o.frm o := by
      unfold backN Bk.at; rw [hf, if_neg (by omega), Int.toNat_natCast, List.getD_eq_getElem?_getD, hk]; rfl
    rw [e1, e2]
    exact (back_at w g m0 m1 v b f n hat hb.ok k o hk hf (hb.sides o hm) (hb.room (fun f => f) o hm)).mono fun e w' ⟨he, v', h1, h2, h3⟩ => ⟨he, Lv.step hset hn h1 h2 fun k e => .inl (h3 ▸ e)⟩
theorem lv_settle (K s0 : List Wd) (hT : Tabs K s0 w) (h : Lv S w g b) (hn : ∀ k, w.heap.size ≤ k → S k) (hb : Tidy b) (f n : Int) (sec : List Nat) (hsec : IsHash sec) :
    Calls Tryd.prog 13 #[.pointer (some ⟨g, 0, none⟩), .int .i64 f, .int .i64 n, arr sec] w fun e w' => e = .returned (.int .i64 (settleE K s0 b f n sec)) ∧ Lv S w' g (settleN K s0 b f n sec) ∧ Kept S w w' := by
  obtain ⟨m0, m1, v, hat, hset⟩ := _root_.id h
  rcases find_cases b.offers f n with hf | ⟨k, o, hk, hf⟩
  · have e1 : settleE K s0 b f n sec = 5 := by unfold settleE; rw [hf]; rfl
    have e2 : settleN K s0 b f n sec = b := by unfold settleN; rw [e1]; rfl
    rw [e1, e2]
    exact (settle_none w g m0 m1 v b f n sec hat hb.ok hf).mono fun e w' he => ⟨he.1, h.still he.2⟩
  · have hm := List.mem_of_getElem? hk
    have hat9 : b.at k = o := by unfold Bk.at; rw [Int.toNat_natCast, List.getD_eq_getElem?_getD, hk]; rfl
    refine (settle_at K s0 w hT g m0 m1 v b f n sec hsec hat hb.ok k o hk hf (hb.sides o hm) (hb.room (fun f => 1 - f) o hm)).mono fun e w' he => ?_
    by_cases hc : digest K s0 sec = o.lock
    · have e1 : settleE K s0 b f n sec = 0 := by unfold settleE; rw [hf, if_neg (by omega), hat9, if_pos hc]
      have e2 : settleN K s0 b f n sec = giveB b k (1 - o.frm) o := by unfold settleN; rw [if_pos e1, hf, hat9, Int.toNat_natCast]
      rw [e1, e2]
      obtain ⟨a1, v', a2, a3, a4⟩ := he.2 hc
      exact ⟨a1, Lv.step hset hn a2 a3 fun k e => .inl (a4 ▸ e)⟩
    · have e1 : settleE K s0 b f n sec = 31 := by unfold settleE; rw [hf, if_neg (by omega), hat9, if_neg hc]
      have e2 : settleN K s0 b f n sec = b := by unfold settleN; rw [e1]; rfl
      rw [e1, e2]
      obtain ⟨a1, a2⟩ := he.1 hc
      exact ⟨a1, h.still a2⟩
theorem lv_has (h : Lv S w g b) (hb : b.ok) (at_ : Int) (id : List Nat) (hid : IsHash id) (ha : isSide at_) :
    Calls Tryd.prog 16 #[.pointer (some ⟨g, 0, none⟩), .int .i64 at_, arr id] w fun e w' => e = .returned (.int .u64 (b.has at_ id : Nat)) ∧ Below w.heap.size w w' := by
  obtain ⟨m0, m1, v, hat, hset⟩ := h
  exact has_is w g m0 m1 v b at_ id hat hb hid ha
theorem lv_total (h : Lv S w g b) (hb : b.ok) (id : List Nat) (hid : IsHash id) (hs : tot b id < 18446744073709551616) :
    Calls Tryd.prog 15 #[.pointer (some ⟨g, 0, none⟩), arr id] w fun e w' => e = .returned (.int .u64 (tot b id : Nat)) ∧ Below w.heap.size w w' := by
  obtain ⟨m0, m1, v, hat, hset⟩ := h
  have hs' : (amounts b id).sum < 18446744073709551616 := hs
  exact (total_of w g m0 m1 v b id hat hb hid).mono fun e w' he => ⟨by rw [he.1, if_pos hs']; rfl, he.2⟩
end
end Go.Proofs.YtnddejgglbdkmaaDoor
