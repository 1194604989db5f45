/- A book that lies in a zone: the contracts of its methods, with all that is kept outside of the zone. -/
import Derived.Test.YtcekammjpghjnaaDoorWs
import Derived.Test.YtcekammjpghjnaaDoorUBook22
import Derived.Test.YtcekammjpghjnaaDoorUSha7
import Derived.LaidMore
import Derived.Stop.Joined
import Derived.Test.YtcekammjpghjnaaDoorUMap4
namespace Go.Proofs.YtcekammjpghjnaaDoor
set_option linter.unusedVariables false
set_option linter.unusedSimpArgs false
open Go.ChangeShapes Go.WideShapes Go.ChangeAt Go.RowKit Go.Maps

def Lv (S : Nat → Prop) (w : World) (g : Nat) (b : Bk) : Prop := ∃ m0 m1 v, BookAt w g m0 m1 v b ∧ ∀ k, bset g m0 m1 v k → S k
section
variable {S S' : Nat → Prop} {w w' : World} {g : Nat} {b b' : Bk}
theorem Lv.lt (h : Lv S w g b) : g < w.heap.size := by obtain ⟨m0, m1, v, h1, h2⟩ := h; exact h1.obj.lt
theorem Lv.at (h : Lv S w g b) : S g := by obtain ⟨m0, m1, v, h1, h2⟩ := h; exact h2 g (.inl rfl)
theorem Lv.kept {T : Nat → Prop} (h : Lv S w g b) (hk : Kept T w w') (hs : ∀ k, k < w.heap.size → S k → ¬ T k) : Lv S w' g b := by
 obtain ⟨m0, m1, v, h1, h2⟩ := h
 exact ⟨m0, m1, v, h1.kept hk (fun k e => hs k (h1.lt k e) (h2 k e)), h2⟩
theorem Lv.zone (h : Lv S w g b) (hs : ∀ k, k < w.heap.size → S k → S' k) : Lv S' w g b := by
 obtain ⟨m0, m1, v, h1, h2⟩ := h
 exact ⟨m0, m1, v, h1, fun k e => hs k (h1.lt k e) (h2 k e)⟩
theorem Lv.quiet (h : Lv S w g b) (hb : Below w.heap.size w w') : Lv S w' g b := h.kept (T := fun _ => False) (Kept.of_below hb) (fun _ _ _ h => h)
theorem Lv.step {m0 m1 : Nat} {v v' : Value} (hs : ∀ k, bset g m0 m1 v k → S k) (hn : ∀ k, w.heap.size ≤ k → S k) (h' : BookAt w' g m0 m1 v' b') (hk : Kept (bset g m0 m1 v) w w') (hv : ∀ k, v'.ownBlock = some k → v.ownBlock = some k ∨ w.heap.size ≤ k) : Lv S w' g b' ∧ Kept S w w' := by
 refine ⟨⟨m0, m1, v', h', fun k e => ?_⟩, hk.mono fun k _ e => hs k e⟩
 rcases e with e | e | e | e
 · exact hs k (.inl e)
 · exact hs k (.inr (.inl e))
 · exact hs k (.inr (.inr (.inl e)))
 · rcases hv k e with e | e
   · exact hs k (.inr (.inr (.inr e)))
   · exact hn k e
theorem Lv.still (h : Lv S w g b) (hb : Below w.heap.size w w') : Lv S w' g b ∧ Kept S w w' := ⟨h.quiet hb, Kept.of_below hb⟩

theorem lv_new (w : World) (S : Nat → Prop) (hn : ∀ k, w.heap.size ≤ k → S k) (k0 k1 : Nat) : Calls Tryd.prog 5 #[.agg #[.int .u64 (k0 : Int), .int .u64 (k1 : Int)]] w fun e w' => ∃ g, e = .returned (.pointer (some ⟨g, 0, none⟩)) ∧ Lv S w' g ⟨[], [], [], k0, k1⟩ ∧ Below w.heap.size w w' ∧ w.heap.size ≤ g := by
 refine (new_is w k0 k1).mono fun e w' ⟨g, m0, m1, he, hB, hbel⟩ => ⟨g, he, ?_⟩
 obtain ⟨v, hg, hown⟩ := hB.obj
 have := hB.low
 refine ⟨⟨m0, m1, v, ⟨hg, own_base hown (Nat.zero_le _), hB.map0, hB.map1, hB.ne⟩, fun k e => hn k ?_⟩, hbel, this.1⟩
 rcases e with rfl | rfl | rfl | e
 · omega
 · omega
 · omega
 · rcases hown.2 with ⟨rfl, _⟩ | ⟨g', cap, cur, rfl, hg', _⟩
   · simp [Value.ownBlock] at e
   · simp [Value.ownBlock] at e
     omega
theorem lv_fund (h : Lv S w g b) (hn : ∀ k, w.heap.size ≤ k → S k) (hb : b.ok) (at_ : Int) (id : List Nat) (n : Nat) (hid : IsHash id) (hn2 : n < 18446744073709551616) :
   Calls Tryd.prog 8 #[.pointer (some ⟨g, 0, none⟩), .int .i64 at_, arr id, .int .u64 (n : Int)] w fun e w' => e = .returned (.int .i64 (fundE b at_ id n)) ∧ Lv S w' g (fundN b at_ id n) ∧ Kept S w w' := by
 by_cases h1 : ¬ isSide at_ ∨ n = 0
 · have e1 : fundE b at_ id n = 1 := if_pos h1
   have e2 : fundN b at_ id n = b := by unfold fundN; rw [if_neg (by rw [e1]; decide)]
   rw [e1, e2]
   exact (fund_arg w g at_ id n h1).mono fun e w' he => ⟨he.1, h.still he.2⟩
 · have ha : isSide at_ := Decidable.of_not_not fun e => h1 (.inl e)
   have hn0 : 0 < n := Nat.pos_of_ne_zero fun e => h1 (.inr e)
   obtain ⟨m0, m1, v, hat, hset⟩ := _root_.id h
   by_cases h2 : (amounts b id).sum + n < 18446744073709551616
   · have e1 : fundE b at_ id n = 0 := by unfold fundE; rw [if_neg h1, if_pos h2]
     have e2 : fundN b at_ id n = b.put at_ (addL (b.side at_) id n) := by unfold fundN; rw [if_pos e1]
     rw [e1, e2]
     exact (fund_fits w g m0 m1 v b at_ id n hat hb hid ha hn0 h2).mono fun e w' he => ⟨he.1, Lv.step hset hn he.2.1 he.2.2 fun k e => .inl e⟩
   · have e1 : fundE b at_ id n = 10 := by unfold fundE; rw [if_neg h1, if_neg h2]
     have e2 : fundN b at_ id n = b := by unfold fundN; rw [if_neg (by rw [e1]; decide)]
     rw [e1, e2]
     exact (fund_over w g m0 m1 v b at_ id n hat hb hid ha hn0 hn2 (by omega)).mono fun e w' he => ⟨he.1, h.still he.2⟩
theorem lv_offer (h : Lv S w g b) (hn : ∀ k, w.heap.size ≤ k → S k) (hb : b.ok) (o : Off) (ho : o.ok) :
   Calls Tryd.prog 11 #[.pointer (some ⟨g, 0, none⟩), .agg o.cells.toArray] w fun e w' => e = .returned (.int .i64 (offE b o)) ∧ Lv S w' g (offN b o) ∧ Kept S w w' := by
 by_cases hf : o.fair
 · have e1 : offE b o = offerE b o := if_pos hf
   have e2 : offN b o = offerN b o := by unfold offN offerN; rw [e1]
   rw [e1, e2]
   obtain ⟨m0, m1, v, hat, hset⟩ := h
   exact (offer_go w g m0 m1 v b o hat hb ho hf).mono fun e w' ⟨he, v', h1, h2, h3⟩ => ⟨he, Lv.step hset hn h1 h2 h3⟩
 · have e1 : offE b o = 1 := if_neg hf
   have e2 : offN b o = b := by unfold offN; rw [if_neg (by rw [e1]; decide)]
   rw [e1, e2]
   exact (offer_arg w g o ho hf).mono fun e w' he => ⟨he.1, h.still he.2⟩
theorem lv_back (h : Lv S w g b) (hn : ∀ k, w.heap.size ≤ k → S k) (hb : Tidy b) (f n : Int) :
   Calls Tryd.prog 15 #[.pointer (some ⟨g, 0, none⟩), .int .i64 f, .int .i64 n] w fun e w' => e = .returned (.int .i64 (backE b f n)) ∧ Lv S w' g (backN b f n) ∧ Kept S w w' := by
 obtain ⟨m0, m1, v, hat, hset⟩ := _root_.id h
 rcases find_cases b.offers f n with hf | ⟨k, o, hk, hf⟩
 · have e1 : backE b f n = 5 := by unfold backE; rw [hf]; rfl
   have e2 : backN b f n = b := by unfold backN; rw [hf]; rfl
   rw [e1, e2]
   exact (back_none w g m0 m1 v b f n hat hb.ok hf).mono fun e w' he => ⟨he.1, h.still he.2⟩
 · have hm := List.mem_of_getElem? hk
   have e1 : backE b f n = 0 := by unfold backE; rw [hf, if_neg (by omega)]
   have e2 : backN b f n = giveB b k o.frm o := by
    unfold backN Bk.at; rw [hf, if_neg (by omega), Int.toNat_natCast, List.getD_eq_getElem?_getD, hk]; rfl
   rw [e1, e2]
   exact (back_at w g m0 m1 v b f n hat hb.ok k o hk hf (hb.sides o hm) (hb.room (fun f => f) o hm)).mono fun e w' ⟨he, v', h1, h2, h3⟩ => ⟨he, Lv.step hset hn h1 h2 fun k e => .inl (h3 ▸ e)⟩
theorem lv_settle (K s0 : List Wd) (hT : Tabs K s0 w) (h : Lv S w g b) (hn : ∀ k, w.heap.size ≤ k → S k) (hb : Tidy b) (f n : Int) (sec : List Nat) (hsec : IsHash sec) :
   Calls Tryd.prog 13 #[.pointer (some ⟨g, 0, none⟩), .int .i64 f, .int .i64 n, arr sec] w fun e w' => e = .returned (.int .i64 (settleE K s0 b f n sec)) ∧ Lv S w' g (settleN K s0 b f n sec) ∧ Kept S w w' := by
 obtain ⟨m0, m1, v, hat, hset⟩ := _root_.id h
 rcases find_cases b.offers f n with hf | ⟨k, o, hk, hf⟩
 · have e1 : settleE K s0 b f n sec = 5 := by unfold settleE; rw [hf]; rfl
   have e2 : settleN K s0 b f n sec = b := by unfold settleN; rw [e1]; rfl
   rw [e1, e2]
   exact (settle_none w g m0 m1 v b f n sec hat hb.ok hf).mono fun e w' he => ⟨he.1, h.still he.2⟩
 · have hm := List.mem_of_getElem? hk
   have hat9 : b.at k = o := by unfold Bk.at; rw [Int.toNat_natCast, List.getD_eq_getElem?_getD, hk]; rfl
   refine (settle_at K s0 w hT g m0 m1 v b f n sec hsec hat hb.ok k o hk hf (hb.sides o hm) (hb.room (fun f => 1 - f) o hm)).mono fun e w' he => ?_
   by_cases hc : digest K s0 sec = o.lock
   · have e1 : settleE K s0 b f n sec = 0 := by unfold settleE; rw [hf, if_neg (by omega), hat9, if_pos hc]
     have e2 : settleN K s0 b f n sec = giveB b k (1 - o.frm) o := by unfold settleN; rw [if_pos e1, hf, hat9, Int.toNat_natCast]
     rw [e1, e2]
     obtain ⟨a1, v', a2, a3, a4⟩ := he.2 hc
     exact ⟨a1, Lv.step hset hn a2 a3 fun k e => .inl (a4 ▸ e)⟩
   · have e1 : settleE K s0 b f n sec = 31 := by unfold settleE; rw [hf, if_neg (by omega), hat9, if_neg hc]
     have e2 : settleN K s0 b f n sec = b := by unfold settleN; rw [e1]; rfl
     rw [e1, e2]
     obtain ⟨a1, a2⟩ := he.1 hc
     exact ⟨a1, h.still a2⟩
theorem lv_has (h : Lv S w g b) (hb : b.ok) (at_ : Int) (id : List Nat) (hid : IsHash id) (ha : isSide at_) :
  Calls Tryd.prog 17 #[.pointer (some ⟨g, 0, none⟩), .int .i64 at_, arr id] w fun e w' => e = .returned (.int .u64 (b.has at_ id : Nat)) ∧ Below w.heap.size w w' := by
 obtain ⟨m0, m1, v, hat, hset⟩ := h
 exact has_is w g m0 m1 v b at_ id hat hb hid ha
theorem lv_total (h : Lv S w g b) (hb : b.ok) (id : List Nat) (hid : IsHash id) (hs : tot b id < 18446744073709551616) :
  Calls Tryd.prog 18 #[.pointer (some ⟨g, 0, none⟩), arr id] w fun e w' => e = .returned (.int .u64 (tot b id : Nat)) ∧ Below w.heap.size w w' := by
 obtain ⟨m0, m1, v, hat, hset⟩ := h
 have hs' : (amounts b id).sum < 18446744073709551616 := hs
 exact (total_of w g m0 m1 v b id hat hb hid).mono fun e w' he => ⟨by rw [he.1, if_pos hs']; rfl, he.2⟩
end
end Go.Proofs.YtcekammjpghjnaaDoor
/- What the listed variables give: the two tables of the digest hold 64 and 8 words. -/
namespace Go.Proofs.YtcekammjpghjnaaDoor
set_option linter.unusedVariables false
set_option linter.unusedSimpArgs false
open Go.ChangeShapes Go.WideShapes Go.ChangeAt Go.RowKit

def laid2 : List (String × DataW Unit) := [("moneyer/sha.start", Rows.laid_moneyer_sha_start), ("moneyer/sha.rounds", Rows.laid_moneyer_sha_rounds)]
theorem own : ownKnob Tryd.prog.godebug = none := by kernel_rfl
theorem laidOut : laidOutB Tryd.prog = true := by kernel_rfl
theorem gStart : Tryd.prog.globalNamed "moneyer/sha.start" = some 0 := by kernel_rfl
theorem gRounds : Tryd.prog.globalNamed "moneyer/sha.rounds" = some 2 := by kernel_rfl
theorem tStart : (Tryd.prog.globals[0]?).map (·.type) = some 33 := by kernel_rfl
theorem tRounds : (Tryd.prog.globals[2]?).map (·.type) = some 34 := by kernel_rfl
theorem door_met (os : Os) (args : Array Value) : laidMetH Tryd.prog laid2 ((World.doorLaid Tryd.prog 4000 os).forCall (fun _ _ => 0) ⟨#[], args, []⟩).memory :=
 laidMetH_of_parts3 (fuel := 8) (laidMet_of_run' 8 (by kernel_rfl) (by kernel_rfl)) (by kernel_rfl) (by kernel_rfl)
end Go.Proofs.YtcekammjpghjnaaDoor
/- What a step does to a book and to what there is; the law's arguments. -/
namespace Go.Proofs.YtcekammjpghjnaaDoor
set_option linter.unusedVariables false
set_option linter.unusedSimpArgs false
open Go.ChangeShapes Go.WideShapes Go.ChangeAt Go.RowKit Go.Maps

def stepB (K s0 : List Wd) (b : Bk) (s : Stp) : Bk :=
 if s.K = 0 then fundN b s.side s.id s.n else if s.K = 1 then offN b (s.offer K s0) else if s.K = 2 then settleN K s0 b s.side s.no s.sec else if s.K = 3 then backN b s.side s.no else b
theorem step_tidy (K s0 : List Wd) (hl : s0.length = 8) {b : Bk} (h : Tidy b) {s : Stp} (hs : s.ok) : Tidy (stepB K s0 b s) := by
 unfold stepB
 split
 · exact fund_tidy h _ _ _
 · split
   · exact offer_tidy h _ (stp_offer_ok K s0 hl s hs)
   · split
     · exact (settle_tidy h K s0 _ _ _).1
     · split
       · exact (back_tidy h _ _).1
       · exact h
theorem ent_look {l : List Ent} (hd : (l.map (·.1)).Nodup) {k : List Nat} {v : Value} (h : (k, v) ∈ l) : look l k = some v := by
 obtain ⟨j, hj⟩ := List.getElem?_of_mem h
 exact look_at hj hd
theorem open_two {H : Type} {enc : TypeId × Value → H} {P : Program} {w : World} {base base' : Nat} {spare : Nat → Bool} {held : Bool} {t e : TypeId} {v : Value} {d : DataW H} {p : List MemPlace} {r : Reach}
  (ht : P.underlying t = some (.array 2 e)) (he : P.underlying e = some (.int .u64)) (h1 : P.cellsOf e = 1) (h2 : P.cellsOf t = 2)
  (hv : Value.okWide P w r base' t v) (h : DataW.Trod enc P w base spare held t v d p) : ∃ a b : Nat, v = .agg #[.int .u64 (a : Int), .int .u64 (b : Int)] ∧ a < 18446744073709551616 ∧ b < 18446744073709551616 := by
 unfold Value.okWide at hv
 rw [ht] at hv
 obtain ⟨cs, rfl, hs, _⟩ := hv
 obtain ⟨fuel, hf⟩ := h
 have hf' : DataW.trod enc P w base spare held fuel t cs.toList = some (d, p) := by simpa [Value.cells] using hf
 obtain ⟨xs, m, _, hx, hlen, hn, hall⟩ := DataW.trod_array ht hf'
 rw [h2] at hlen
 have key : ∀ i, i < 2 → ∃ n : Nat, cs.toList[i]? = some (.int .u64 (n : Int)) ∧ n < 18446744073709551616 := fun i hi => by
  have := hall i hi
  rw [h1, Nat.mul_one, List.getElem?_eq_getElem (by omega)] at this
  obtain ⟨n, hn1, _, hw⟩ := DataW.trod_int he this
  rw [List.drop_eq_getElem_cons (by omega)] at hn1
  simp only [List.take_succ_cons, List.take_zero, List.cons.injEq, and_true] at hn1
  have hb := bounds_u64 hw
  refine ⟨n.toNat, ?_, by omega⟩
  rw [List.getElem?_eq_getElem (by omega), hn1, Int.toNat_of_nonneg hb.1]
 obtain ⟨a, ha, la⟩ := key 0 (by decide)
 obtain ⟨b, hb, lb⟩ := key 1 (by decide)
 refine ⟨a, b, ?_, la, lb⟩
 congr 1
 apply Array.toList_inj.1
 apply List.ext_getElem?
 intro i
 match i with
 | 0 => exact ha
 | 1 => exact hb
 | i + 2 => rw [List.getElem?_eq_none (by omega)]; rfl
theorem zero_hash : ∃ Z : Array Value, (∀ w, (zeroValue 39).run Tryd.prog w = .ok (.agg Z) w) ∧ Z.size = 32 ∧ ¬ Z = #[] := by
 have hs : (bcells Z32).toArray.size = 32 := by kernel_rfl
 exact ⟨_, fun w => by kernel_rfl, hs, fun e => by rw [e] at hs; cases hs⟩
theorem zero_step : ∃ Z : Array Value, (∀ w, (zeroValue 44).run Tryd.prog w = .ok (.agg Z) w) ∧ Z.size = 137 ∧ ¬ Z = #[] := by
 have hs : (Stp.cells ⟨0, 0, List.replicate 32 0, 0, ⟨0, 0, List.replicate 32 0, 0, List.replicate 32 0, 0⟩, 0, List.replicate 32 0, false⟩).toArray.size = 137 := by kernel_rfl
 exact ⟨_, fun w => by kernel_rfl, hs, fun e => by rw [e] at hs; cases hs⟩
end Go.Proofs.YtcekammjpghjnaaDoor
