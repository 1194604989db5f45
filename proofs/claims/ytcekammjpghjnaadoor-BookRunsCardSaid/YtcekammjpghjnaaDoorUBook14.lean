/- A book that the caller holds: the contracts of its methods in one word each. -/
import Derived.Test.YtcekammjpghjnaaDoorWs
import Derived.Test.YtcekammjpghjnaaDoorUBook13
namespace Go.Proofs.YtcekammjpghjnaaDoor
set_option linter.unusedVariables false
set_option linter.unusedSimpArgs false
open Go.ChangeShapes Go.WideShapes Go.ChangeAt Go.RowKit Go.Maps

def Live (N : Nat) (w0 w : World) (g : Nat) (b : Bk) : Prop := ∃ m0 m1 v, BookAt w g m0 m1 v b ∧ (∀ k, bset g m0 m1 v k → N ≤ k) ∧ Below N w0 w
theorem Live.below {N : Nat} {w0 w : World} {g : Nat} {b : Bk} (h : Live N w0 w g b) : Below N w0 w := by obtain ⟨_, _, _, _, _, h⟩ := h; exact h
theorem Live.step {N : Nat} {w0 w w' : World} {g m0 m1 : Nat} {v v' : Value} {b' : Bk} (hs : ∀ k, bset g m0 m1 v k → N ≤ k) (hb : Below N w0 w) (hN : N ≤ w.heap.size) (h' : BookAt w' g m0 m1 v' b') (hk : Kept (bset g m0 m1 v) w w') (hv : ∀ k, v'.ownBlock = some k → v.ownBlock = some k ∨ w.heap.size ≤ k) : Live N w0 w' g b' := by
 refine ⟨m0, m1, v', h', fun k e => ?_, hb.trans (hk.below hN hs)⟩
 rcases e with e | e | e | e
 · exact hs k (.inl e)
 · exact hs k (.inr (.inl e))
 · exact hs k (.inr (.inr (.inl e)))
 · rcases hv k e with e | e
   · exact hs k (.inr (.inr (.inr e)))
   · omega
theorem Live.quiet {N : Nat} {w0 w w' : World} {g : Nat} {b : Bk} (h : Live N w0 w g b) (hN : N ≤ w.heap.size) (hb : Below w.heap.size w w') : Live N w0 w' g b := by
 obtain ⟨m0, m1, v, h1, h2, h3⟩ := h
 exact ⟨m0, m1, v, h1.kept (Kept.of_below (S := fun _ => False) hb) (fun _ _ h => h), h2, h3.trans (hb.mono hN)⟩
theorem Live.size {N : Nat} {w0 w : World} {g : Nat} {b : Bk} (h : Live N w0 w g b) (hN : N ≤ w0.heap.size) : N ≤ w.heap.size := by have := h.below.size; omega
theorem Live.drew {N : Nat} {w0 w : World} {g : Nat} {b : Bk} (h : Live N w0 w g b) : Live N w0 w.drew g b := by
 obtain ⟨m0, m1, v, h1, h2, h3⟩ := h
 exact ⟨m0, m1, v, h1.kept ((Kept.refl (fun _ => False) w).drew) (fun _ _ h => h), h2, h3.drew⟩

def fundE (b : Bk) (at_ : Int) (id : List Nat) (n : Nat) : Int := if ¬ isSide at_ ∨ n = 0 then 1 else if (amounts b id).sum + n < 18446744073709551616 then 0 else 10
def fundN (b : Bk) (at_ : Int) (id : List Nat) (n : Nat) : Bk := if fundE b at_ id n = 0 then b.put at_ (addL (b.side at_) id n) else b
def offE (b : Bk) (o : Off) : Int := if o.fair then offerE b o else 1
def offN (b : Bk) (o : Off) : Bk := if offE b o = 0 then offerB b o else b
def backE (b : Bk) (f n : Int) : Int := if findI b.offers f n < 0 then 5 else 0
def Bk.at (b : Bk) (i : Int) : Off := b.offers.getD i.toNat ⟨0, 0, List.replicate 32 0, 0, List.replicate 32 0, 0⟩
def backN (b : Bk) (f n : Int) : Bk := if findI b.offers f n < 0 then b else giveB b (findI b.offers f n).toNat (b.at (findI b.offers f n)).frm (b.at (findI b.offers f n))

section
variable {N : Nat} {w0 w : World} {g : Nat} {b : Bk}
theorem live_new (hb : Below N w0 w) (hN : N ≤ w.heap.size) (k0 k1 : Nat) : Calls Tryd.prog 5 #[.agg #[.int .u64 (k0 : Int), .int .u64 (k1 : Int)]] w fun e w' => ∃ g, e = .returned (.pointer (some ⟨g, 0, none⟩)) ∧ Live N w0 w' g ⟨[], [], [], k0, k1⟩ := by
 refine (new_is w k0 k1).mono fun e w' ⟨g, m0, m1, he, hB, hbel⟩ => ⟨g, he, ?_⟩
 obtain ⟨v, hg, hown⟩ := hB.obj
 refine ⟨m0, m1, v, ⟨hg, own_base hown (Nat.zero_le _), hB.map0, hB.map1, hB.ne⟩, fun k e => ?_, hb.trans (hbel.mono hN)⟩
 have := hB.low
 rcases e with rfl | rfl | rfl | e
 · omega
 · omega
 · omega
 · rcases hown.2 with ⟨rfl, _⟩ | ⟨g', cap, cur, rfl, hg', _⟩
   · simp [Value.ownBlock] at e
   · simp [Value.ownBlock] at e
     omega
theorem live_fund (h : Live N w0 w g b) (hN : N ≤ w0.heap.size) (hb : b.ok) (at_ : Int) (id : List Nat) (n : Nat) (hid : IsHash id) (hn : n < 18446744073709551616) :
   Calls Tryd.prog 8 #[.pointer (some ⟨g, 0, none⟩), .int .i64 at_, arr id, .int .u64 (n : Int)] w fun e w' => e = .returned (.int .i64 (fundE b at_ id n)) ∧ Live N w0 w' g (fundN b at_ id n) := by
 have hs := h.size hN
 by_cases h1 : ¬ isSide at_ ∨ n = 0
 · have e1 : fundE b at_ id n = 1 := if_pos h1
   have e2 : fundN b at_ id n = b := by unfold fundN; rw [if_neg (by rw [e1]; decide)]
   rw [e1, e2]
   exact (fund_arg w g at_ id n h1).mono fun e w' he => ⟨he.1, h.quiet hs he.2⟩
 · have ha : isSide at_ := Decidable.of_not_not fun e => h1 (.inl e)
   have hn0 : 0 < n := Nat.pos_of_ne_zero fun e => h1 (.inr e)
   obtain ⟨m0, m1, v, hat, hset, hbel⟩ := _root_.id h
   by_cases h2 : (amounts b id).sum + n < 18446744073709551616
   · have e1 : fundE b at_ id n = 0 := by unfold fundE; rw [if_neg h1, if_pos h2]
     have e2 : fundN b at_ id n = b.put at_ (addL (b.side at_) id n) := by unfold fundN; rw [if_pos e1]
     rw [e1, e2]
     exact (fund_fits w g m0 m1 v b at_ id n hat hb hid ha hn0 h2).mono fun e w' he => ⟨he.1, Live.step hset hbel hs he.2.1 he.2.2 fun k e => .inl e⟩
   · have e1 : fundE b at_ id n = 10 := by unfold fundE; rw [if_neg h1, if_neg h2]
     have e2 : fundN b at_ id n = b := by unfold fundN; rw [if_neg (by rw [e1]; decide)]
     rw [e1, e2]
     exact (fund_over w g m0 m1 v b at_ id n hat hb hid ha hn0 hn (by omega)).mono fun e w' he => ⟨he.1, h.quiet hs he.2⟩
theorem live_offer (h : Live N w0 w g b) (hN : N ≤ w0.heap.size) (hb : b.ok) (o : Off) (ho : o.ok) :
   Calls Tryd.prog 11 #[.pointer (some ⟨g, 0, none⟩), .agg o.cells.toArray] w fun e w' => e = .returned (.int .i64 (offE b o)) ∧ Live N w0 w' g (offN b o) := by
 have hs := h.size hN
 by_cases hf : o.fair
 · have e1 : offE b o = offerE b o := if_pos hf
   have e2 : offN b o = offerN b o := by unfold offN offerN; rw [e1]
   rw [e1, e2]
   obtain ⟨m0, m1, v, hat, hset, hbel⟩ := h
   exact (offer_go w g m0 m1 v b o hat hb ho hf).mono fun e w' ⟨he, v', h1, h2, h3⟩ => ⟨he, Live.step hset hbel hs h1 h2 h3⟩
 · have e1 : offE b o = 1 := if_neg hf
   have e2 : offN b o = b := by unfold offN; rw [if_neg (by rw [e1]; decide)]
   rw [e1, e2]
   exact (offer_arg w g o ho hf).mono fun e w' he => ⟨he.1, h.quiet hs he.2⟩
theorem live_has (h : Live N w0 w g b) (hN : N ≤ w0.heap.size) (hb : b.ok) (at_ : Int) (id : List Nat) (hid : IsHash id) (ha : isSide at_) :
  Calls Tryd.prog 17 #[.pointer (some ⟨g, 0, none⟩), .int .i64 at_, arr id] w fun e w' => e = .returned (.int .u64 (b.has at_ id : Nat)) ∧ Live N w0 w' g b := by
 have hs := h.size hN
 obtain ⟨m0, m1, v, hat, hset, hbel⟩ := _root_.id h
 exact (has_is w g m0 m1 v b at_ id hat hb hid ha).mono fun e w' he => ⟨he.1, h.quiet hs he.2⟩
theorem live_total (h : Live N w0 w g b) (hN : N ≤ w0.heap.size) (hb : b.ok) (id : List Nat) (hid : IsHash id) (hs : (amounts b id).sum < 18446744073709551616) :
  Calls Tryd.prog 18 #[.pointer (some ⟨g, 0, none⟩), arr id] w fun e w' => e = .returned (.int .u64 ((amounts b id).sum : Nat)) ∧ Live N w0 w' g b := by
 have hsz := h.size hN
 obtain ⟨m0, m1, v, hat, hset, hbel⟩ := _root_.id h
 exact (total_of w g m0 m1 v b id hat hb hid).mono fun e w' he => ⟨by rw [he.1, if_pos hs], h.quiet hsz he.2⟩
end
end Go.Proofs.YtcekammjpghjnaaDoor

