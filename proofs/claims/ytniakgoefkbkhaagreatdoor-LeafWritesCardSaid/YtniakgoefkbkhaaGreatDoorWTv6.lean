/- The plain law of decoding: records, back and forth. -/
import Derived.Test.YtniakgoefkbkhaaGreatDoorWs
import Derived.Test.YtniakgoefkbkhaaGreatDoorWTv4
namespace Go.Proofs.YtniakgoefkbkhaaGreatDoor
set_option linter.unusedVariables false
set_option linter.unusedSimpArgs false

def lastT (acc : List Rec) : Nat := (acc[acc.length - 1]?.map (·.t)).getD 0
def decS (acc : List Rec) (b : List Nat) : Except Nat (List Rec × List Nat) :=
 match rdB b with
 | .error e => .error e
 | .ok p => if 0 < acc.length ∧ p.1 ≤ lastT acc then .error 22 else
  match rdB (b.drop p.2) with
  | .error e => .error e
  | .ok q => if 65536 < q.1 then .error 3 else if ((b.drop p.2).drop q.2).length < q.1 then .error 20 else if acc.length = 256 then .error 4
   else .ok (acc ++ [⟨p.1, ((b.drop p.2).drop q.2).take q.1⟩], ((b.drop p.2).drop q.2).drop q.1)
def decF : Nat → List Rec → List Nat → Except Nat (List Rec)
 | 0, _, _ => .error 0
 | f + 1, acc, b => if b = [] then .ok acc else match decS acc b with
  | .error e => .error e
  | .ok p => decF f p.1 p.2
def tdec (b : List Nat) : Except Nat (List Rec) := decF (b.length + 1) [] b
theorem recE_app {acc ys : List Rec} {k : Nat} {r : Rec} (hk : k ≤ acc.length) : recE (acc ++ ys) k r = recE acc k r := by
 unfold recE
 by_cases h : 0 < k
 · rw [List.getElem?_append_left (by omega)]
 · simp only [h, false_and, if_false]
theorem tvAt_app {acc ys : List Rec} : ∀ (k : Nat), k ≤ acc.length → tvAt (acc ++ ys) k = tvAt acc k
 | 0, _ => rfl
 | k + 1, hk => by
  have ih := tvAt_app (acc := acc) (ys := ys) k (by omega)
  cases c : tvAt acc k with
  | error e => rw [tvAt_up c, tvAt_up (ih.trans c)]
  | ok b =>
   have hr : acc[k]? = some acc[k] := List.getElem?_eq_getElem (by omega)
   have hr' : (acc ++ ys)[k]? = some acc[k] := by rw [List.getElem?_append_left (by omega)]; exact hr
   rw [tvAt_succ c hr, tvAt_succ (ih.trans c) hr', recE_app (by omega)]
theorem decS_ok {acc acc' : List Rec} {b b' : List Nat} (hb : ∀ y ∈ b, y < 256) (h : decS acc b = .ok (acc', b')) :
  ∃ r, acc' = acc ++ [r] ∧ b = recB r ++ b' ∧ r.t < 18446744073709551616 ∧ recE acc acc.length r = 0 ∧ ¬ acc.length = 256 := by
 unfold decS at h
 cases h1 : rdB b with
 | error e => rw [h1] at h; cases h
 | ok p =>
  rw [h1] at h
  dsimp only at h
  split at h
  · cases h
  · rename_i hord
    cases h2 : rdB (b.drop p.2) with
    | error e => rw [h2] at h; cases h
    | ok q =>
     rw [h2] at h
     dsimp only at h
     split at h
     · cases h
     · rename_i hlong
       split at h
       · cases h
       · rename_i hshort
         split at h
         · cases h
         · rename_i hmany
           have e := Except.ok.inj h
           injection e with e1 e2
           obtain ⟨a1, a2, a3⟩ := sz_rd hb (x := p.1) (n := p.2) h1
           obtain ⟨c1, c2, c3⟩ := sz_rd (fun y hy => hb y (List.mem_of_mem_drop hy)) (x := q.1) (n := q.2) h2
           have hlv : (((b.drop p.2).drop q.2).take q.1).length = q.1 := by rw [List.length_take]; omega
           refine ⟨_, e1.symm, ?_, a3, ?_, hmany⟩
           · unfold recB
             dsimp only
             rw [hlv, ← e2, List.append_assoc, List.append_assoc, List.take_append_drop, ← c2, ← a2]
           · unfold recE
             dsimp only
             rw [hlv, if_neg, if_neg hlong]
             intro hc
             exact hord ⟨hc.1, hc.2⟩
theorem decF_ok : ∀ (f : Nat) (acc rs : List Rec) (b pre : List Nat), (∀ y ∈ b, y < 256) → tvAt acc acc.length = .ok pre → acc.length ≤ 256 → (∀ r ∈ acc, r.t < 18446744073709551616) → decF f acc b = .ok rs →
  tvAt rs rs.length = .ok (pre ++ b) ∧ rs.length ≤ 256 ∧ ∀ r ∈ rs, r.t < 18446744073709551616
 | 0, acc, rs, b, pre, _, _, _, _, h => by cases h
 | f + 1, acc, rs, b, pre, hb, hp, hl, ht, h => by
  unfold decF at h
  by_cases h0 : b = []
  · rw [if_pos h0] at h
    cases h
    rw [h0, List.append_nil]
    exact ⟨hp, hl, ht⟩
  · rw [if_neg h0] at h
    cases hs : decS acc b with
    | error e => rw [hs] at h; cases h
    | ok p =>
     rw [hs] at h
     dsimp only at h
     obtain ⟨r, e1, e2, e3, e4, e5⟩ := decS_ok hb (acc' := p.1) (b' := p.2) hs
     have hat : tvAt p.1 p.1.length = .ok (pre ++ recB r) := by
      rw [e1, List.length_append]
      show tvAt (acc ++ [r]) (acc.length + 1) = _
      rw [tvAt_succ (b := pre) (r := r) ((tvAt_app acc.length (Nat.le_refl _)).trans hp) (by simp), recE_app (Nat.le_refl _), if_pos e4]
     have := decF_ok f p.1 rs p.2 (pre ++ recB r) (fun y hy => hb y (by rw [e2]; exact List.mem_append_right _ hy)) hat (by rw [e1, List.length_append]; show acc.length + 1 ≤ 256; omega) (fun x hx => by
      rw [e1] at hx
      rcases List.mem_append.1 hx with q | q
      · exact ht x q
      · rw [List.mem_singleton.1 q]; exact e3) h
     rw [List.append_assoc, ← e2] at this
     exact this
theorem enc_dec {b : List Nat} {rs : List Rec} (hb : ∀ y ∈ b, y < 256) (h : tdec b = .ok rs) : tvEnc rs = .ok b ∧ rs.length ≤ 256 ∧ ∀ r ∈ rs, r.t < 18446744073709551616 := by
 obtain ⟨h1, h2, h3⟩ := decF_ok (b.length + 1) [] rs b [] hb rfl (Nat.zero_le _) (fun r hr => by cases hr) h
 exact ⟨by unfold tvEnc; rw [if_neg (by omega)]; exact h1, h2, h3⟩
theorem tvAt_flat {rs : List Rec} : ∀ (k : Nat) b, k ≤ rs.length → tvAt rs k = .ok b → b = (rs.take k).flatMap recB ∧ ∀ (i : Nat) r, i < k → rs[i]? = some r → recE rs i r = 0
 | 0, b, _, h => by cases h; exact ⟨rfl, fun i r hi => absurd hi (Nat.not_lt_zero i)⟩
 | k + 1, b, hk, h => by
  cases c : tvAt rs k with
  | error e => rw [tvAt_up c] at h; cases h
  | ok b0 =>
   obtain ⟨p1, p2⟩ := tvAt_flat k b0 (by omega) c
   have hr : rs[k]? = some rs[k] := List.getElem?_eq_getElem (by omega)
   rw [tvAt_succ c hr] at h
   split at h
   · rename_i h0
     cases h
     refine ⟨by rw [List.take_add_one, hr, List.flatMap_append, ← p1]; simp, fun i r hi hir => ?_⟩
     rcases Nat.lt_succ_iff_lt_or_eq.1 hi with q | q
     · exact p2 i r q hir
     · subst q
       rw [hr] at hir
       cases hir
       exact h0
   · cases h
theorem decS_rec {acc : List Rec} {r : Rec} {tl : List Nat} (ht : r.t < 18446744073709551616) (h0 : recE acc acc.length r = 0) (hn : ¬ acc.length = 256) : decS acc (recB r ++ tl) = .ok (acc ++ [r], tl) := by
 have hv : r.v.length ≤ 65536 := recB_len h0
 have e1 : rdB (recB r ++ tl) = .ok (r.t, (szB r.t).length) := by
  unfold recB
  rw [List.append_assoc]
  exact rd_sz r.t ht _
 have d1 : (recB r ++ tl).drop (szB r.t).length = szB r.v.length ++ (r.v ++ tl) := by
  unfold recB
  rw [List.append_assoc, List.drop_left', List.append_assoc]; rfl
 have e2 : rdB (szB r.v.length ++ (r.v ++ tl)) = .ok (r.v.length, (szB r.v.length).length) := rd_sz _ (by omega) _
 have d2 : (szB r.v.length ++ (r.v ++ tl)).drop (szB r.v.length).length = r.v ++ tl := by rw [List.drop_left']; rfl
 unfold decS
 rw [e1]
 dsimp only
 rw [d1, e2]
 dsimp only
 rw [d2, if_neg, if_neg (by omega), if_neg (by rw [List.length_append]; omega), if_neg hn, List.take_left' rfl, List.drop_left' rfl]
 intro hc
 unfold recE at h0
 rw [if_pos ⟨hc.1, hc.2⟩] at h0
 cases h0
theorem decF_flat {rs : List Rec} (ht : ∀ r ∈ rs, r.t < 18446744073709551616) (he : ∀ (i : Nat) r, rs[i]? = some r → recE rs i r = 0) (hl : rs.length ≤ 256) : ∀ (f k : Nat), k ≤ rs.length → rs.length - k < f → decF f (rs.take k) ((rs.drop k).flatMap recB) = .ok rs
 | 0, k, _, h => absurd h (Nat.not_lt_zero _)
 | f + 1, k, hk, h => by
  by_cases hkn : k = rs.length
  · subst hkn
    rw [List.drop_length, List.take_length]
    rfl
  · have hr : rs[k]? = some rs[k] := List.getElem?_eq_getElem (by omega)
    have hd : rs.drop k = rs[k] :: rs.drop (k + 1) := List.drop_eq_getElem_cons (by omega)
    rw [hd, List.flatMap_cons]
    have htl : (rs.take k).length = k := by rw [List.length_take]; omega
    have h0 : recE (rs.take k) (rs.take k).length rs[k] = 0 := by
     have key : ∀ x : Rec, recE rs k x = recE (rs.take k) k x := fun x => by
      have := recE_app (acc := rs.take k) (ys := rs.drop k) (k := k) (r := x) (by rw [htl]; exact Nat.le_refl _)
      rwa [List.take_append_drop] at this
     rw [htl, ← key]
     exact he k _ hr
    have hs := decS_rec (acc := rs.take k) (r := rs[k]) (tl := (rs.drop (k + 1)).flatMap recB) (ht _ (List.getElem_mem _)) h0 (by rw [htl]; omega)
    have hne : ¬ recB rs[k] ++ (rs.drop (k + 1)).flatMap recB = [] := by
     intro e
     have := (szB_len rs[k].t).2
     have h2 := congrArg List.length e
     unfold recB at h2
     rw [List.length_append, List.length_append] at h2
     simp only [List.length_nil] at h2
     omega
    unfold decF
    rw [if_neg hne, hs]
    dsimp only
    have e3 : rs.take k ++ [rs[k]] = rs.take (k + 1) := by rw [List.take_add_one, hr]; rfl
    rw [e3]
    exact decF_flat ht he hl f (k + 1) (by omega) (by omega)
theorem recB_pos (x : Rec) : 0 < (recB x).length := by
 have := (szB_len x.t).2
 unfold recB
 rw [List.length_append]
 omega
theorem dec_enc {rs : List Rec} {b : List Nat} (ht : ∀ r ∈ rs, r.t < 18446744073709551616) (h : tvEnc rs = .ok b) : tdec b = .ok rs := by
 unfold tvEnc at h
 split at h
 · cases h
 · rename_i hl
   obtain ⟨p1, p2⟩ := tvAt_flat rs.length b (Nat.le_refl _) h
   rw [List.take_length] at p1
   have hlen : ∀ xs : List Rec, xs.length ≤ (xs.flatMap recB).length := by
    intro xs
    induction xs with
    | nil => exact Nat.le_refl _
    | cons x xs ih =>
     have := recB_pos x
     rw [List.flatMap_cons, List.length_append, List.length_cons]
     omega
   have := decF_flat ht (fun i r hi => p2 i r (List.getElem?_eq_some_iff.1 hi).1 hi) (by omega) (b.length + 1) 0 (Nat.zero_le _) (by rw [p1]; have := hlen rs; omega)
   rw [List.take_zero, List.drop_zero, ← p1] at this
   exact this
end Go.Proofs.YtniakgoefkbkhaaGreatDoor
/- The walk of tlv's Decode. -/
namespace Go.Proofs.YtniakgoefkbkhaaGreatDoor
set_option linter.unusedVariables false
set_option linter.unusedSimpArgs false
open Go.ChangeShapes Go.WideShapes Go.ChangeAt Go.RowKit Go.Maps

theorem decF_stop {f : Nat} {acc : List Rec} {b : List Nat} (h : b = []) : decF (f + 1) acc b = .ok acc := by
 unfold decF
 rw [if_pos h]
theorem decF_err {f e : Nat} {acc : List Rec} {b : List Nat} (h : b ≠ []) (hs : decS acc b = .error e) : decF (f + 1) acc b = .error e := by
 unfold decF
 rw [if_neg h, hs]
theorem decF_step {f : Nat} {acc : List Rec} {b : List Nat} {p : List Rec × List Nat} (h : b ≠ []) (hs : decS acc b = .ok p) : decF (f + 1) acc b = decF f p.1 p.2 := by
 conv => lhs; unfold decF
 rw [if_neg h, hs]
theorem bytes_from {w : World} {a : Option Addr} {n c k : Nat} {l : List Nat} (h : Bytes w w.heap.size (.slice a n c) l) (hk : k ≤ n) : ∃ a', (∀ v : World, (Instr.slice 54 (.slice a n c) (some (.int .i64 (k : Int))) none none).run Tryz.prog v = .ok (.slice a' (n - k) (c - k)) v) ∧ Bytes w w.heap.size (.slice a' (n - k) (c - k)) (l.drop k) := by
 obtain ⟨h1, h2, h3, h4⟩ := h.openT
 have hu : Tryz.prog.underlying 54 = some (.slice (Tryz.prog.elem 54)) := by kernel_rfl
 have he : Tryz.prog.elem 54 = 5 := by kernel_rfl
 have hz : ∀ w, (sizeOf 5).run Tryz.prog w = .ok 1 w := fun w => by kernel_rfl
 refine ⟨if c = k then a else a.map fun x => x.add (k * 1), fun v => ?_, ?_⟩
 · rw [run_slice_l v 54 a n c hu .i64 (k : Int) (by omega) (by omega), he, hz]
   simp only [Result.andThen, sliced, Int.toNat_natCast]
 · refine ⟨_, _, by rw [List.length_drop, ← h1], by rw [List.length_drop, ← h1]; omega, fun x hx => h3 x (List.mem_of_mem_drop hx), fun hpos => ?_⟩
   rw [List.length_drop, ← h1] at hpos
   obtain ⟨bg, bo, rfl, hbg, hc⟩ := h4 (by omega)
   refine ⟨bg, bo + k, by rw [if_neg (by omega)]; simp [Addr.add_mid], by omega, fun i hi => ?_⟩
   rw [List.length_drop, ← h1] at hi
   have := hc (k + i) (by omega)
   rw [Nat.add_assoc, this]
   simp [List.getD_eq_getElem?_getD, List.getElem?_drop]
theorem bytes_upto {w : World} {a : Option Addr} {n c k : Nat} {l : List Nat} (h : Bytes w w.heap.size (.slice a n c) l) (hk : k ≤ n) : ∃ a', (∀ v : World, (Instr.slice 54 (.slice a n c) none (some (.int .u64 (k : Int))) none).run Tryz.prog v = .ok (.slice a' k c) v) ∧ Bytes w w.heap.size (.slice a' k c) (l.take k) := by
 obtain ⟨h1, h2, h3, h4⟩ := h.openT
 have hu : Tryz.prog.underlying 54 = some (.slice (Tryz.prog.elem 54)) := by kernel_rfl
 have he : Tryz.prog.elem 54 = 5 := by kernel_rfl
 have hz : ∀ w, (sizeOf 5).run Tryz.prog w = .ok 1 w := fun w => by kernel_rfl
 have hlt : (l.take k).length = k := by rw [List.length_take]; omega
 refine ⟨if c - 0 = 0 then a else a.map fun x => x.add (0 * 1), fun v => ?_, ?_⟩
 · rw [run_slice_h v 54 a n c hu .u64 (k : Int) (by omega) (by omega), he, hz]
   simp only [Result.andThen, sliced, Int.toNat_natCast, Nat.sub_zero]
 · refine ⟨_, _, by rw [hlt], by rw [hlt]; omega, fun x hx => h3 x (List.mem_of_mem_take hx), fun hpos => ?_⟩
   rw [hlt] at hpos
   obtain ⟨bg, bo, rfl, hbg, hc⟩ := h4 (by omega)
   refine ⟨bg, bo, by rw [if_neg (by omega)]; simp [Addr.add_mid], by omega, fun i hi => ?_⟩
   rw [hlt] at hi
   rw [hc i (by omega)]
   simp [List.getD_eq_getElem?_getD, List.getElem?_take, hi]
end Go.Proofs.YtniakgoefkbkhaaGreatDoor
