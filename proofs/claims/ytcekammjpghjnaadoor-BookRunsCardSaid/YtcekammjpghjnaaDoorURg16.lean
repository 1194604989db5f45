/- A book that is none: what its methods answer. -/
import Derived.Test.YtcekammjpghjnaaDoorWs
import Derived.Test.YtcekammjpghjnaaDoorURg12
import Derived.Test.YtcekammjpghjnaaDoorUBook24
namespace Go.Proofs.YtcekammjpghjnaaDoor
set_option linter.unusedVariables false
set_option linter.unusedSimpArgs false
open Go.ChangeShapes Go.WideShapes Go.ChangeAt Go.RowKit Go.Maps

set_option maxRecDepth 100000 in
set_option maxHeartbeats 1000000 in
theorem none_fund (w : World) (LI : Array Value) : Calls Tryd.prog 8 #[.pointer none, .int .i64 0, .agg LI, .int .u64 1] w fun e w' => e = .returned (.int .i64 1) ∧ Below w.heap.size w w' := by
 have HB := Lib.hid (show Below w.heap.size w (w.alloc (.cells LI 39)) from (Below.refl _ _).alloc (Nat.le_refl _) _)
 go_enter Tryd.func8, Tryd.ntmps8
 go_upto_region 1 with (fail)
 generalize w.alloc (.cells LI 39) = W at HB ⊢
 go_wp2
 go_ret
 exact ⟨rfl, HB.out⟩
set_option maxRecDepth 100000 in
set_option maxHeartbeats 1000000 in
theorem none_offer (w : World) (LI : Array Value) : Calls Tryd.prog 11 #[.pointer none, .agg LI] w fun e w' => e = .returned (.int .i64 1) ∧ Below w.heap.size w w' := by
 have HB := Lib.hid (show Below w.heap.size w (w.alloc (.cells LI 42)) from (Below.refl _ _).alloc (Nat.le_refl _) _)
 go_enter Tryd.func11, Tryd.ntmps11
 go_upto_region 1 with (fail)
 generalize w.alloc (.cells LI 42) = W at HB ⊢
 go_wp2
 go_ret
 exact ⟨rfl, HB.out⟩
set_option maxRecDepth 100000 in
set_option maxHeartbeats 1000000 in
theorem none_settle (w : World) (LI : Array Value) : Calls Tryd.prog 13 #[.pointer none, .int .i64 0, .int .i64 0, .agg LI] w fun e w' => e = .returned (.int .i64 1) ∧ Below w.heap.size w w' := by
 have HB := Lib.hid (show Below w.heap.size w (w.alloc (.cells LI 39)) from (Below.refl _ _).alloc (Nat.le_refl _) _)
 go_enter Tryd.func13, Tryd.ntmps13
 go_upto_region 1 with (fail)
 generalize w.alloc (.cells LI 39) = W at HB ⊢
 go_wp2
 go_ret
 exact ⟨rfl, HB.out⟩
set_option maxRecDepth 100000 in
set_option maxHeartbeats 1000000 in
theorem none_back (w : World) : Calls Tryd.prog 15 #[.pointer none, .int .i64 0, .int .i64 0] w fun e w' => e = .returned (.int .i64 1) ∧ Below w.heap.size w w' := by
 go_enter Tryd.func15, Tryd.ntmps15
 go_wp2
 go_ret
 exact ⟨rfl, Below.refl _ _⟩
set_option maxRecDepth 100000 in
set_option maxHeartbeats 1000000 in
theorem none_has (w : World) (LI : Array Value) : Calls Tryd.prog 17 #[.pointer none, .int .i64 0, .agg LI] w fun e w' => e = .returned (.int .u64 0) ∧ Below w.heap.size w w' := by
 have HB := Lib.hid (show Below w.heap.size w (w.alloc (.cells LI 39)) from (Below.refl _ _).alloc (Nat.le_refl _) _)
 go_enter Tryd.func17, Tryd.ntmps17
 go_upto_region 1 with (fail)
 generalize w.alloc (.cells LI 39) = W at HB ⊢
 go_wp2
 go_ret
 exact ⟨rfl, HB.out⟩
set_option maxRecDepth 100000 in
set_option maxHeartbeats 1000000 in
theorem none_total (w : World) (LI : Array Value) : Calls Tryd.prog 18 #[.pointer none, .agg LI] w fun e w' => e = .returned (.int .u64 0) ∧ Below w.heap.size w w' := by
 have HB := Lib.hid (show Below w.heap.size w (w.alloc (.cells LI 39)) from (Below.refl _ _).alloc (Nat.le_refl _) _)
 go_enter Tryd.func18, Tryd.ntmps18
 go_upto_region 1 with (fail)
 generalize w.alloc (.cells LI 39) = W at HB ⊢
 go_wp2
 go_ret
 exact ⟨rfl, HB.out⟩
set_option maxRecDepth 100000 in
set_option maxHeartbeats 1000000 in
theorem none_offers (w : World) : Calls Tryd.prog 19 #[.pointer none] w fun e w' => e = .returned (.slice none 0 0) ∧ Below w.heap.size w w' := by
 go_enter Tryd.func19, Tryd.ntmps19
 go_wp2
 go_ret
 exact ⟨rfl, Below.refl _ _⟩
set_option maxRecDepth 100000 in
set_option maxHeartbeats 1000000 in
theorem none_sums (w : World) : Calls Tryd.prog 20 #[.pointer none, .int .i64 0] w fun e w' => e = .returned (.slice none 0 0) ∧ Below w.heap.size w w' := by
 go_enter Tryd.func20, Tryd.ntmps20
 go_wp2
 go_ret
 exact ⟨rfl, Below.refl _ _⟩
set_option maxRecDepth 100000 in
set_option maxHeartbeats 1000000 in
theorem none_clone (w : World) : Calls Tryd.prog 21 #[.pointer none] w fun e w' => e = .returned (.pointer none) ∧ Below w.heap.size w w' := by
 go_enter Tryd.func21, Tryd.ntmps21
 go_wp2
 go_ret
 exact ⟨rfl, Below.refl _ _⟩
set_option maxRecDepth 100000 in
set_option maxHeartbeats 1000000 in
theorem none_same (w : World) : Calls Tryd.prog 22 #[.pointer none, .pointer none] w fun e w' => e = .returned (.bool true) ∧ Below w.heap.size w w' := by
 go_enter Tryd.func22, Tryd.ntmps22
 go_wp2
 go_ret
 exact ⟨rfl, Below.refl _ _⟩
set_option maxRecDepth 100000 in
set_option maxHeartbeats 1000000 in
theorem none_same2 (w : World) (g : Nat) : Calls Tryd.prog 22 #[.pointer (some ⟨g, 0, none⟩), .pointer none] w fun e w' => e = .returned (.bool false) ∧ Below w.heap.size w w' := by
 go_enter Tryd.func22, Tryd.ntmps22
 go_wp2
 go_ret
 exact ⟨rfl, Below.refl _ _⟩
end Go.Proofs.YtcekammjpghjnaaDoor
/- A book that lives: a call of its methods leaves all else alone. -/
namespace Go.Proofs.YtcekammjpghjnaaDoor
set_option linter.unusedVariables false
set_option linter.unusedSimpArgs false
open Go.ChangeShapes Go.WideShapes Go.ChangeAt Go.RowKit Go.Maps

theorem map_not_has {w : World} {b : Nat} {l : List Ent} (h : MapIs w b l) {t : TypeId} {cs : Array Value} (hh : Has w b t cs) : False := by
 obtain ⟨es, clock, hm, _⟩ := h
 unfold Has at hh
 rw [hm] at hh
 cases hh
def Calm (n : Nat) (w w' : World) : Prop := ∃ S, Kept S w w' ∧ (∀ j t cs, Has w j t cs → t ≠ 71 → t ≠ 42 → ¬ S j) ∧ ∀ j, S j → n ≤ j
theorem Calm.has {n : Nat} {w w' : World} (h : Calm n w w') {j : Nat} {t : TypeId} {cs : Array Value} (hh : Has w j t cs) (h1 : t ≠ 71) (h2 : t ≠ 42) : Has w' j t cs := by
 obtain ⟨S, hk, hs, _⟩ := h
 exact hh.kept hk (hs j t cs hh h1 h2)
theorem Calm.rb {n : Nat} {w w' : World} (h : Calm n w w') {L : List Value} {r : RB} (hr : RbAt w L r) : RbAt w' L r := by
 obtain ⟨S, hk, hs, _⟩ := h
 exact hr.far hk (fun b cs hh => by
  rcases hh with hh | hh
  · exact hs b _ cs hh (by decide) (by decide)
  · exact hs b _ cs hh (by decide) (by decide))
theorem Calm.own {n : Nat} {w w' : World} (h : Calm n w w') {base m size : Nat} {e : TypeId} {v : Value} {xs : List Value} (ho : w.ownsRow base e size v m xs) (h1 : e ≠ 71) (h2 : e ≠ 42) : w'.ownsRow base e size v m xs := by
 obtain ⟨S, hk, hs, _⟩ := h
 refine own_kept ho hk (fun j e2 => ?_)
 rcases ho.2 with ⟨rfl, _⟩ | ⟨g, cap, cur, rfl, _, hh, _⟩
 · cases e2
 · injection e2 with e2
   rw [← e2]
   exact hs g e cur hh h1 h2
theorem Calm.below {n : Nat} {w w' : World} (h : Calm n w w') (hn : n ≤ w.heap.size) : Below n w w' := by
 obtain ⟨S, hk, _, hs⟩ := h
 exact hk.below hn hs
theorem Calm.quiet {n : Nat} {w w' : World} (hn : n ≤ w.heap.size) (h : Below w.heap.size w w') : Calm n w w' := ⟨fun _ => False, Kept.of_below h, fun _ _ _ _ _ _ e => e, fun _ e => e.elim⟩
def tight (w : World) (g m0 m1 : Nat) (v : Value) : Nat → Prop := fun k => w.heap.size ≤ k ∨ bset g m0 m1 v k
theorem tight_calm {n : Nat} {w w' : World} {g m0 m1 : Nat} {v : Value} {b : Bk} (hat : BookAt w g m0 m1 v b) (hset : ∀ k, bset g m0 m1 v k → n ≤ k) (hn : n ≤ w.heap.size) (hk : Kept (tight w g m0 m1 v) w w') : Calm n w w' := by
 refine ⟨_, hk, fun j t cs hh h1 h2 e => ?_, fun j e => ?_⟩
 · rcases e with e | rfl | rfl | rfl | e
   · have := hh.lt; omega
   · exact hh.ne hat.obj h1 rfl
   · exact map_not_has hat.map0 hh
   · exact map_not_has hat.map1 hh
   · exact own_has_ne hat.row hh (fun e2 => h2 e2.symm) j e rfl
 · rcases e with e | e
   · omega
   · exact hset j e
theorem tight_lv {n : Nat} {w w' : World} {g m0 m1 : Nat} {v : Value} {b' : Bk} (hset : ∀ k, bset g m0 m1 v k → n ≤ k) (hn : n ≤ w.heap.size) (h : Lv (tight w g m0 m1 v) w' g b') : Lv (fun k => n ≤ k) w' g b' := h.zone (fun k _ e => by
 rcases e with e | e
 · omega
 · exact hset k e)
variable {n : Nat} {w : World} {g : Nat} {b : Bk}
theorem calm_fund (h : Lv (fun k => n ≤ k) w g b) (hn : n ≤ w.heap.size) (hb : b.ok) (at_ : Int) (id : List Nat) (m : Nat) (hid : IsHash id) (hn2 : m < 18446744073709551616) :
  Calls Tryd.prog 8 #[.pointer (some ⟨g, 0, none⟩), .int .i64 at_, arr id, .int .u64 (m : Int)] w fun e w' => e = .returned (.int .i64 (fundE b at_ id m)) ∧ Lv (fun k => n ≤ k) w' g (fundN b at_ id m) ∧ Calm n w w' := by
 obtain ⟨m0, m1, v, hat, hset⟩ := h
 exact (lv_fund (S := tight w g m0 m1 v) ⟨m0, m1, v, hat, fun k e => .inr e⟩ (fun k e => .inl e) hb at_ id m hid hn2).mono fun e w' he => ⟨he.1, tight_lv hset hn he.2.1, tight_calm hat hset hn he.2.2⟩
theorem calm_offer (h : Lv (fun k => n ≤ k) w g b) (hn : n ≤ w.heap.size) (hb : b.ok) (o : Off) (ho : o.ok) :
  Calls Tryd.prog 11 #[.pointer (some ⟨g, 0, none⟩), .agg o.cells.toArray] w fun e w' => e = .returned (.int .i64 (offE b o)) ∧ Lv (fun k => n ≤ k) w' g (offN b o) ∧ Calm n w w' := by
 obtain ⟨m0, m1, v, hat, hset⟩ := h
 exact (lv_offer (S := tight w g m0 m1 v) ⟨m0, m1, v, hat, fun k e => .inr e⟩ (fun k e => .inl e) hb o ho).mono fun e w' he => ⟨he.1, tight_lv hset hn he.2.1, tight_calm hat hset hn he.2.2⟩
theorem calm_back (h : Lv (fun k => n ≤ k) w g b) (hn : n ≤ w.heap.size) (hb : Tidy b) (f k : Int) :
  Calls Tryd.prog 15 #[.pointer (some ⟨g, 0, none⟩), .int .i64 f, .int .i64 k] w fun e w' => e = .returned (.int .i64 (backE b f k)) ∧ Lv (fun k => n ≤ k) w' g (backN b f k) ∧ Calm n w w' := by
 obtain ⟨m0, m1, v, hat, hset⟩ := h
 exact (lv_back (S := tight w g m0 m1 v) ⟨m0, m1, v, hat, fun k e => .inr e⟩ (fun k e => .inl e) hb f k).mono fun e w' he => ⟨he.1, tight_lv hset hn he.2.1, tight_calm hat hset hn he.2.2⟩
theorem calm_settle (K s0 : List Wd) (hT : Tabs K s0 w) (h : Lv (fun k => n ≤ k) w g b) (hn : n ≤ w.heap.size) (hb : Tidy b) (f k : Int) (sec : List Nat) (hsec : IsHash sec) :
  Calls Tryd.prog 13 #[.pointer (some ⟨g, 0, none⟩), .int .i64 f, .int .i64 k, arr sec] w fun e w' => e = .returned (.int .i64 (settleE K s0 b f k sec)) ∧ Lv (fun k => n ≤ k) w' g (settleN K s0 b f k sec) ∧ Calm n w w' := by
 obtain ⟨m0, m1, v, hat, hset⟩ := h
 exact (lv_settle (S := tight w g m0 m1 v) K s0 hT ⟨m0, m1, v, hat, fun k e => .inr e⟩ (fun k e => .inl e) hb f k sec hsec).mono fun e w' he => ⟨he.1, tight_lv hset hn he.2.1, tight_calm hat hset hn he.2.2⟩
end Go.Proofs.YtcekammjpghjnaaDoor
/- One step of the two books: alike, small, tidy. -/
namespace Go.Proofs.YtcekammjpghjnaaDoor
set_option linter.unusedVariables false
set_option linter.unusedSimpArgs false
open Go.ChangeShapes Go.WideShapes Go.ChangeAt Go.RowKit Go.Maps

def stepR (K s0 : List Wd) (r : RB) (s : Stp) : RB :=
 if s.K = 0 then fundRB r s.side s.id s.n else if s.K = 1 then offRB r (s.offer K s0) else if s.K = 2 then settleRB K s0 r s.side s.no s.sec else if s.K = 3 then backRB r s.side s.no else r
theorem like_step {b : Bk} {r : RB} (h : Like b r) (ht : Tidy b) (K s0 : List Wd) (s : Stp) : Like (stepB K s0 b s) (stepR K s0 r s) := by
 unfold stepB stepR
 split
 · exact like_fund h _ _ _
 · split
   · exact like_offer h ht _
   · split
     · exact like_settle h ht K s0 _ _ _
     · split
       · exact like_back h ht _ _
       · exact h
theorem keys_pos {l : List Ent} (hn : Neat l) (k : List Nat) : (∃ p ∈ l, p.1 = k) ↔ 0 < numOf (look l k) := by
 constructor
 · rintro ⟨p, hp, rfl⟩
   obtain ⟨n, e, _⟩ := hn.nums p hp
   have h0 := hn.nz p hp
   have hl : look l p.1 = some p.2 := ent_look hn.nodup hp
   rw [hl, e, num_int]
   rcases Nat.eq_zero_or_pos n with e2 | e2
   · rw [e, e2] at h0; exact absurd rfl h0
   · exact e2
 · intro hp
   cases hl : look l k with
   | none => rw [hl] at hp; exact absurd hp (by decide)
   | some v => exact ⟨(k, v), look_mem hl, rfl⟩
theorem like_len {b : Bk} {r : RB} (h : Like b r) (ht : Tidy b) : r.has.length = b.l0.length + b.l1.length := by
 have hp : (b.l0.map (fun p => ((0 : Int), p.1)) ++ b.l1.map (fun p => ((1 : Int), p.1))).Perm (r.has.map HsT.key) := by
  refine (List.perm_ext_iff_of_nodup ?_ h.keys).2 fun q => ?_
  · rw [List.nodup_append]
    refine ⟨?_, ?_, fun a ha b hb e => ?_⟩
    · have := ht.n0.nodup
      rw [List.Nodup, List.pairwise_map] at this ⊢
      exact this.imp (fun {a b} hne e => hne (congrArg Prod.snd e))
    · have := ht.n1.nodup
      rw [List.Nodup, List.pairwise_map] at this ⊢
      exact this.imp (fun {a b} hne e => hne (congrArg Prod.snd e))
    · obtain ⟨x, _, rfl⟩ := List.mem_map.1 ha
      obtain ⟨y, _, rfl⟩ := List.mem_map.1 hb
      exact absurd (show (0 : Int) = 1 from congrArg Prod.fst e) (by decide)
  · obtain ⟨f, k⟩ := q
    rw [List.mem_append, List.mem_map, List.mem_map, ← getR_pos h.pos f k]
    constructor
    · rintro (⟨x, hx, e⟩ | ⟨x, hx, e⟩)
      · have e1 : (0 : Int) = f := congrArg Prod.fst e
        have e2 : x.1 = k := congrArg Prod.snd e
        subst e1 e2
        rw [h.get 0 (.inl rfl)]
        exact (keys_pos ht.n0 x.1).1 ⟨x, hx, rfl⟩
      · have e1 : (1 : Int) = f := congrArg Prod.fst e
        have e2 : x.1 = k := congrArg Prod.snd e
        subst e1 e2
        rw [h.get 1 (.inr rfl)]
        exact (keys_pos ht.n1 x.1).1 ⟨x, hx, rfl⟩
    · intro hpos
      have hs : isSide f := by
        obtain ⟨z, hz, e⟩ := List.mem_map.1 ((getR_pos h.pos f k).1 hpos)
        have := h.side z hz
        rw [show z.side = f from congrArg Prod.fst e] at this
        exact this
      rw [h.get f hs] at hpos
      rcases hs with rfl | rfl
      · obtain ⟨x, hx, e⟩ := (keys_pos ht.n0 k).2 hpos
        exact .inl ⟨x, hx, by rw [e]⟩
      · obtain ⟨x, hx, e⟩ := (keys_pos ht.n1 k).2 hpos
        exact .inr ⟨x, hx, by rw [e]⟩
 have := hp.length_eq
 rw [List.length_append, List.length_map, List.length_map, List.length_map] at this
 exact this.symm
theorem like_room {b : Bk} {r : RB} (h : Like b r) (ht : Tidy b) {m : Nat} (hs : Small b m) (hm : m ≤ 40000) : r.offers.length ≤ 200 ∧ r.has.length ≤ 99998 ∧ (∀ id, (listR r id).sum < 18446744073709551616) ∧ (∀ o ∈ r.offers, o.frm = 0 ∨ o.frm = 1) ∧ ∀ (f : Int), ∀ o ∈ r.offers, o.frm = f → getR r.has f o.id + o.am < 18446744073709551616 ∧ getR r.has (1 - f) o.id + o.am < 18446744073709551616 := by
 have h0 := hs 0
 have h1 := hs 1
 refine ⟨by rw [h.off]; have := ht.len; omega, by rw [like_len h ht]; have e0 : b.l0.length ≤ m := h0; have e1 : b.l1.length ≤ m := h1; omega, fun id => by rw [h.list]; exact ht.fit id, fun o ho => ht.sides o (by rw [← h.off]; exact ho), fun f o ho hf => ?_⟩
 rw [h.off] at ho
 have hsd := ht.sides o ho
 have r1 := ht.room (fun x => x) o ho
 have r2 := ht.room (fun x => 1 - x) o ho
 rw [hf] at hsd r1 r2
 have hsd2 : isSide (1 - f) := by
  rcases hsd with rfl | rfl
  · exact .inr rfl
  · exact .inl rfl
 rw [h.get f hsd, h.get (1 - f) hsd2]
 exact ⟨r1, r2⟩
end Go.Proofs.YtcekammjpghjnaaDoor
