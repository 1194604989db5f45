/- A book that the caller holds: the contracts of its methods in one word each. -/
import Derived.Test.YtnddejgglbdkmaaDoorBook13
namespace Go.Proofs.YtnddejgglbdkmaaDoor
set_option linter.unusedVariables false
set_option linter.unusedSimpArgs false
open Go.ChangeShapes Go.WideShapes Go.ChangeAt Go.RowKit Go.Maps

/-- a book that was made behind block N; nothing ahead of N has turned since w0. -/
def Live (N : Nat) (w0 w : World) (g : Nat) (b : Bk) : Prop := ∃ m0 m1 v, BookAt w g m0 m1 v b ∧ (∀ k, bset g m0 m1 v k → N ≤ k) ∧ Below N w0 w
theorem Live.below {N : Nat} {w0 w : World} {g : Nat} {b : Bk} (h : Live N w0 w g b) : Below N w0 w := by obtain ⟨_, _, _, _, _, h⟩ := h; exact h
theorem Live.step {N : Nat} {w0 w w' : World} {g m0 m1 : Nat} {v v' : Value} {b' : Bk} (hs : ∀ k, bset g m0 m1 v k → N ≤ k) (hb : Below N w0 w) (hN : N ≤ w.heap.size) (h' : BookAt w' g m0 m1 v' b') (hk : Kept (bset g m0 m1 v) w w') (hv : ∀ k, v'.ownBlock = some k → v.ownBlock = some k ∨ w.heap.size ≤ k) : Live N w0 w' g b' := by
  refine ⟨m0, m1, v', h', fun k e => ?_, hb.trans (hk.below hN hs)⟩
  rcases e with e | e | e | e
  · exact hs k (.inl e)
  · exact hs k (.inr (.inl e))
  · exact hs k (.inr (.inr (.inl e)))
  · rcases hv k e with e | e
    · exact hs k (.inr (.inr (.inr e)))
    · omega
/-- behind a call that made new blocks alone. -/
theorem Live.quiet {N : Nat} {w0 w w' : World} {g : Nat} {b : Bk} (h : Live N w0 w g b) (hN : N ≤ w.heap.size) (hb : Below w.heap.size w w') : Live N w0 w' g b := by
  obtain ⟨m0, m1, v, h1, h2, h3⟩ := h
  exact ⟨m0, m1, v, h1.kept (Kept.of_below (S := fun _ => False) hb) (fun _ _ h => h), h2, h3.trans (hb.mono hN)⟩
theorem Live.size {N : Nat} {w0 w : World} {g : Nat} {b : Bk} (h : Live N w0 w g b) (hN : N ≤ w0.heap.size) : N ≤ w.heap.size := by have := h.below.size; omega
theorem Live.drew {N : Nat} {w0 w : World} {g : Nat} {b : Bk} (h : Live N w0 w g b) : Live N w0 w.drew g b := by
  obtain ⟨m0, m1, v, h1, h2, h3⟩ := h
  exact ⟨m0, m1, v, h1.kept ((Kept.refl (fun _ => False) w).drew) (fun _ _ h => h), h2, h3.drew⟩

def fundE (b : Bk) (at_ : Int) (id : List Nat) (n : Nat) : Int := if ¬ isSide at_ ∨ n = 0 then 1 else if (amounts b id).sum + n < 18446744073709551616 then 0 else 10
def fundN (b : Bk) (at_ : Int) (id : List Nat) (n : Nat) : Bk := if fundE b at_ id n = 0 then b.put at_ (addL (b.side at_) id n) else b
def offE (b : Bk) (o : Off) : Int := if o.fair then offerE b o else 1
def offN (b : Bk) (o : Off) : Bk := if offE b o = 0 then offerB b o else b
def backE (b : Bk) (f n : Int) : Int := if findI b.offers f n < 0 then 5 else 0
/-- the offer at an index. -/
def Bk.at (b : Bk) (i : Int) : Off := b.offers.getD i.toNat ⟨0, 0, List.replicate 32 0, 0, List.replicate 32 0, 0⟩
def backN (b : Bk) (f n : Int) : Bk := if findI b.offers f n < 0 then b else giveB b (findI b.offers f n).toNat (b.at (findI b.offers f n)).frm (b.at (findI b.offers f n))

section
variable {N : Nat} {w0 w : World} {g : Nat} {b : Bk}
theorem live_new (hb : Below N w0 w) (hN : N ≤ w.heap.size) (k0 k1 : Nat) : Calls Tryd.prog 9 #[.agg #[.int .u64 (k0 : Int), .int .u64 (k1 : Int)]] w fun e w' => ∃ g, e = .returned (.pointer (some ⟨g, 0, none⟩)) ∧ Live N w0 w' g ⟨[], [], [], k0, k1⟩ := by
  refine (new_is w k0 k1).mono fun e w' ⟨g, m0, m1, he, hB, hbel⟩ => ⟨g, he, ?_⟩
  obtain ⟨v, hg, hown⟩ := hB.obj
  refine ⟨m0, m1, v, ⟨hg, own_base hown (Nat.zero_le _), hB.map0, hB.map1, hB.ne⟩, fun k e => ?_, hb.trans (hbel.mono hN)⟩
  have := hB.low
  rcases e with rfl | rfl | rfl | e
  · omega
  · omega
  · omega
  · rcases hown.2 with ⟨rfl, _⟩ | ⟨g', cap, cur, rfl, hg', _⟩
    · simp [Value.ownBlock] at e
    · simp [Value.ownBlock] at e
      omega
theorem live_fund (h : Live N w0 w g b) (hN : N ≤ w0.heap.size) (hb : b.ok) (at_ : Int) (id : List Nat) (n : Nat) (hid : IsHash id) (hn : n < 18446744073709551616) :
    Calls Tryd.prog 10 #[.pointer (some ⟨g, 0, none⟩), .int .i64 at_, arr id, .int .u64 (n : Int)] w fun e w' => e = .returned (.int .i64 (fundE b at_ id n)) ∧ Live N w0 w' g (fundN b at_ id n) := by
  have hs := h.size hN
  by_cases h1 : ¬ isSide at_ ∨ n = 0
  · have e1 : fundE b at_ id n = 1 := if_pos h1
    have e2 : fundN b at_ id n = b := by unfold fundN; rw [if_neg (by rw [e1]; decide)]
    rw [e1, e2]
    exact (fund_arg w g at_ id n h1).mono fun e w' he => ⟨he.1, h.quiet hs he.2⟩
  · have ha : isSide at_ := Decidable.of_not_not fun e => h1 (.inl e)
    have hn0 : 0 < n := Nat.pos_of_ne_zero fun e => h1 (.inr e)
    obtain ⟨m0, m1, v, hat, hset, hbel⟩ := _root_.id h
    by_cases h2 : (amounts b id).sum + n < 18446744073709551616
    · have e1 : fundE b at_ id n = 0 := by unfold fundE; rw [if_neg h1, if_pos h2]
      have e2 : fundN b at_ id n = b.put at_ (addL (b.side at_) id n) := by unfold fundN; rw [if_pos e1]
      rw [e1, e2]
      exact (fund_fits w g m0 m1 v b at_ id n hat hb hid ha hn0 h2).mono fun e w' he => ⟨he.1, Live.step hset hbel hs he.2.1 he.2.2 fun k e => .inl e⟩
    · have e1 : fundE b at_ id n = 10 := by unfold fundE; rw [if_neg h1, if_neg h2]
      have e2 : fundN b at_ id n = b := by unfold fundN; rw [if_neg (by rw [e1]; decide)]
      rw [e1, e2]
      exact (fund_over w g m0 m1 v b at_ id n hat hb hid ha hn0 hn (by omega)).mono fun e w' he => ⟨he.1, h.quiet hs he.2⟩
theorem live_offer (h : Live N w0 w g b) (hN : N ≤ w0.heap.size) (hb : b.ok) (o : Off) (ho : o.ok) :
    Calls Tryd.prog 11 #[.pointer (some ⟨g, 0, none⟩), .agg o.cells.toArray] w fun e w' => e = .returned (.int .i64 (offE b o)) ∧ Live N w0 w' g (offN b o) := by
  have hs := h.size hN
  by_cases hf : o.fair
  · have e1 : offE b o = offerE b o := if_pos hf
    have e2 : offN b o = offerN b o := by unfold offN offerN; rw [e1]
    rw [e1, e2]
    obtain ⟨m0, m1, v, hat, hset, hbel⟩ := h
    exact (offer_go w g m0 m1 v b o hat hb ho hf).mono fun e w' ⟨he, v', h1, h2, h3⟩ => ⟨he, Live.step hset hbel hs h1 h2 h3⟩
  · have e1 : offE b o = 1 := if_neg hf
    have e2 : offN b o = b := by unfold offN; rw [if_neg (by rw [e1]; decide)]
    rw [e1, e2]
    exact (offer_arg w g o ho hf).mono fun e w' he => ⟨he.1, h.quiet hs he.2⟩
theorem live_back (h : Live N w0 w g b) (hN : N ≤ w0.heap.size) (hb : b.ok) (f n : Int) (hs : ∀ o ∈ b.offers, isSide o.frm) (hfit : ∀ o ∈ b.offers, b.has o.frm o.id + o.am < 18446744073709551616) :
    Calls Tryd.prog 14 #[.pointer (some ⟨g, 0, none⟩), .int .i64 f, .int .i64 n] w fun e w' => e = .returned (.int .i64 (backE b f n)) ∧ Live N w0 w' g (backN b f n) := by
  have hsz := h.size hN
  obtain ⟨m0, m1, v, hat, hset, hbel⟩ := _root_.id h
  by_cases hx : ∃ (k : Nat) (o : Off), b.offers[k]? = some o ∧ (o.frm = f ∧ o.no = n) ∧ ∀ (j : Nat) (p : Off), j < k → b.offers[j]? = some p → ¬ (p.frm = f ∧ p.no = n)
  · obtain ⟨k, o, hk, ho, hno⟩ := hx
    have hf := findI_at b.offers f n k o hk ho hno
    have e1 : backE b f n = 0 := by unfold backE; rw [hf, if_neg (by omega)]
    have e2 : backN b f n = giveB b k o.frm o := by
      unfold backN Bk.at; rw [hf, if_neg (by omega), Int.toNat_natCast, List.getD_eq_getElem?_getD, hk]; rfl
    rw [e1, e2]
    exact (back_at w g m0 m1 v b f n hat hb k o hk hf (hs o (List.mem_of_getElem? hk)) (hfit o (List.mem_of_getElem? hk))).mono fun e w' ⟨he, v', h1, h2, h3⟩ => ⟨he, Live.step hset hbel hsz h1 h2 fun k e => .inl (h3 ▸ e)⟩
  · have hall : ∀ o ∈ b.offers, ¬ (o.frm = f ∧ o.no = n) := by
      intro o ho hc
      obtain ⟨j, hj⟩ := List.getElem?_of_mem ho
      have : ∀ t : Nat, ∀ j o, j ≤ t → b.offers[j]? = some o → ¬ (o.frm = f ∧ o.no = n) := by
        intro t
        induction t with
        | zero =>
          intro j o hj ho hc
          exact hx ⟨j, o, ho, hc, fun j' p hj' => absurd hj' (by omega)⟩
        | succ t ih =>
          intro j o hj ho hc
          exact hx ⟨j, o, ho, hc, fun j' p hj' hp => ih j' p (by omega) hp⟩
      exact this j j o (Nat.le_refl _) hj hc
    have hf := findI_none b.offers f n hall
    have e1 : backE b f n = 5 := by unfold backE; rw [hf]; rfl
    have e2 : backN b f n = b := by unfold backN; rw [hf]; rfl
    rw [e1, e2]
    exact (back_none w g m0 m1 v b f n hat hb hf).mono fun e w' he => ⟨he.1, h.quiet hsz he.2⟩
theorem live_has (h : Live N w0 w g b) (hN : N ≤ w0.heap.size) (hb : b.ok) (at_ : Int) (id : List Nat) (hid : IsHash id) (ha : isSide at_) :
    Calls Tryd.prog 16 #[.pointer (some ⟨g, 0, none⟩), .int .i64 at_, arr id] w fun e w' => e = .returned (.int .u64 (b.has at_ id : Nat)) ∧ Live N w0 w' g b := by
  have hs := h.size hN
  obtain ⟨m0, m1, v, hat, hset, hbel⟩ := _root_.id h
  exact (has_is w g m0 m1 v b at_ id hat hb hid ha).mono fun e w' he => ⟨he.1, h.quiet hs he.2⟩
theorem live_total (h : Live N w0 w g b) (hN : N ≤ w0.heap.size) (hb : b.ok) (id : List Nat) (hid : IsHash id) (hs : (amounts b id).sum < 18446744073709551616) :
    Calls Tryd.prog 15 #[.pointer (some ⟨g, 0, none⟩), arr id] w fun e w' => e = .returned (.int .u64 ((amounts b id).sum : Nat)) ∧ Live N w0 w' g b := by
  have hsz := h.size hN
  obtain ⟨m0, m1, v, hat, hset, hbel⟩ := _root_.id h
  exact (total_of w g m0 m1 v b id hat hb hid).mono fun e w' he => ⟨by rw [he.1, if_pos hs], h.quiet hsz he.2⟩
end
end Go.Proofs.YtnddejgglbdkmaaDoor
