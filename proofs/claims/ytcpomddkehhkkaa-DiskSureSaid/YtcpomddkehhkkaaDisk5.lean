/- The walk of settle. -/
import Derived.Test.YtcpomddkehhkkaaDisk4
namespace Go.Proofs.Ytcpomddkehhkkaa
open Go.ChangeShapes Go.WideShapes Go.ChangeAt Go.RowKit

/-- what the k-th write makes of the sectors. -/
def settle1 (keep torn k : Nat) (q : Nat × List Nat) (cs : List (List Nat)) : List (List Nat) :=
  if k < keep then cs.set q.1 q.2 else if k = keep then cs.set q.1 (q.2.take torn ++ (cs.getD q.1 []).drop torn) else cs
/-- what the first k writes make of the sectors. -/
def settleTo (keep torn : Nat) (qs : List (Nat × List Nat)) : Nat → List (List Nat) → List (List Nat)
  | 0, cs => cs
  | k + 1, cs => settle1 keep torn k (qs.getD k (0, [])) (settleTo keep torn qs k cs)

def tail2 (qs : List (Nat × Value × List Nat)) : List (Nat × List Nat) := qs.map fun q => (q.1, q.2.2)

/-- the loop of settle, k writes on. -/
def SettleRel (w : World) (B g : Nat) (sv qv : Value) (qs : List (Nat × Value × List Nat)) (fuse : Int) (down : Bool) (keep torn : Nat) (cs : List (List Nat)) (k : Nat) (wr : World) : Prop :=
  ∃ ss : List (Value × List Nat), ss.map (·.2) = settleTo keep torn (tail2 qs) k cs ∧ DObj wr g sv qv fuse down ∧ wr.ownsRow B 32 1 sv cs.length (ss.map (·.1)) ∧ wr.ownsRow B 52 2 qv qs.length (qcells qs) ∧
    (∀ s ∈ ss, Sector wr B s) ∧ (∀ q ∈ qs, q.1 < cs.length ∧ Sector wr B q.2) ∧ Below B w wr

theorem qcells_at (qs : List (Nat × Value × List Nat)) (k : Nat) (h : k < qs.length) : (qcells qs)[k * 2]? = some (.int .i64 (qs[k].1 : Int)) ∧ (qcells qs)[k * 2 + 1]? = some qs[k].2.1 := by
  induction qs generalizing k with
  | nil => simp at h
  | cons q qs ih =>
    cases k with
    | zero => simp [qcells]
    | succ k =>
      have := ih k (by simpa using h)
      have e1 : (k + 1) * 2 = k * 2 + 2 := by omega
      rw [e1]
      simpa [qcells] using this

theorem own_set {w : World} {base : Nat} {e : TypeId} {n cap : Nat} {g : Nat} {xs : List Value} (h : w.ownsRow base e 1 (.slice (some ⟨g, 0, none⟩) n cap) n xs) (j : Nat) (u : Value) :
    (w.setCell ⟨g, j, none⟩ u).ownsRow base e 1 (.slice (some ⟨g, 0, none⟩) n cap) n (xs.set j u) := (h.stored j u).1

theorem map_set {α β : Type} (f : α → β) (l : List α) (i : Nat) (x : α) : (l.set i x).map f = (l.map f).set i (f x) := by
  rw [List.map_set]

/-- one sector is put in another's place. -/
theorem settle_put {w wr w2 : World} {B g gs cap : Nat} {qv : Value} {qs : List (Nat × Value × List Nat)} {fuse : Int} {down : Bool} {keep torn : Nat} {cs : List (List Nat)} {k a : Nat} {v : Value} {bs : List Nat}
    (hr : SettleRel w B g (.slice (some ⟨gs, 0, none⟩) cs.length cap) qv qs fuse down keep torn cs k wr) (hb : Below wr.heap.size wr w2) (hBw : B ≤ w.heap.size)
    (hv : w2.ownsRow B 5 1 v 64 (bcells bs)) (hl : bs.length = 64) (ha : a < cs.length)
    (hstep : settleTo keep torn (tail2 qs) (k + 1) cs = (settleTo keep torn (tail2 qs) k cs).set a bs) :
    SettleRel w B g (.slice (some ⟨gs, 0, none⟩) cs.length cap) qv qs fuse down keep torn cs (k + 1) (w2.setCell ⟨gs, a, none⟩ v) := by
  obtain ⟨ss, hss, hd, hs, hq, hsec, hqs, hbel⟩ := hr
  have hk := Kept.of_below (S := fun _ => False) hb
  have hs2 := own_kept hs hk (fun _ _ h => h)
  have hset : Kept (· = gs) w2 (w2.setCell ⟨gs, a, none⟩ v) := (Kept.refl (· = gs) _).set (.inl rfl) _
  have hu8 : ∀ x : Value × List Nat, Sector w2 B x → Sector (w2.setCell ⟨gs, a, none⟩ v) B x := fun x hx =>
    ⟨own_kept hx.1 hset (fun k hk e => own_own_ne hx.1 hs2 (by decide) k hk (by rw [e]; rfl)), hx.2⟩
  have hd2 : DObj w2 g _ qv fuse down := Has.below hd hb hd.lt
  have hq2 := own_kept hq hk (fun _ _ h => h)
  have hset2 := own_set hs2 a v
  refine ⟨ss.set a (v, bs), ?_, ?_, ?_, ?_, ?_, ?_, ?_⟩
  · rw [map_set, hss, hstep]
  · exact Has.far hd2 (fun e => own_has_ne hs2 hd2 (by decide) gs rfl (by rw [e])) _
  · rw [map_set]; exact hset2
  · exact own_kept hq2 hset (fun k hk e => own_own_ne hq2 hs2 (by decide) k hk (by rw [e]; rfl))
  · intro x hx
    rcases List.mem_or_eq_of_mem_set hx with h | rfl
    · exact hu8 x ⟨own_kept (hsec x h).1 hk (fun _ _ h => h), (hsec x h).2⟩
    · exact hu8 _ ⟨hv, hl⟩
  · exact fun q hq0 => ⟨(hqs q hq0).1, hu8 _ ⟨own_kept (hqs q hq0).2.1 hk (fun _ _ h => h), (hqs q hq0).2.2⟩⟩
  · refine Below.setCell (hbel.trans (hb.mono (Nat.le_trans hBw (Nat.le_trans hbel.size (Nat.le_refl _))))) ?_ _
    rcases hs.2 with ⟨h, _⟩ | ⟨g', _, _, h, hg, _⟩
    · cases h
    · simp at h
      have : gs = g' := h.1
      subst this
      exact hg

/-- the k-th write is lost. -/
theorem settle_skip {w wr w2 : World} {B g : Nat} {sv qv : Value} {qs : List (Nat × Value × List Nat)} {fuse : Int} {down : Bool} {keep torn : Nat} {cs : List (List Nat)} {k : Nat}
    (hr : SettleRel w B g sv qv qs fuse down keep torn cs k wr) (hb : Below wr.heap.size wr w2) (hBw : B ≤ w.heap.size)
    (hstep : settleTo keep torn (tail2 qs) (k + 1) cs = settleTo keep torn (tail2 qs) k cs) :
    SettleRel w B g sv qv qs fuse down keep torn cs (k + 1) w2 := by
  obtain ⟨ss, hss, hd, hs, hq, hsec, hqs, hbel⟩ := hr
  have hk := Kept.of_below (S := fun _ => False) hb
  exact ⟨ss, by rw [hss, hstep], Has.below hd hb hd.lt, own_kept hs hk (fun _ _ h => h), own_kept hq hk (fun _ _ h => h), fun x h => ⟨own_kept (hsec x h).1 hk (fun _ _ h => h), (hsec x h).2⟩,
    fun q hq0 => ⟨(hqs q hq0).1, own_kept (hqs q hq0).2.1 hk (fun _ _ h => h), (hqs q hq0).2.2⟩, hbel.trans (hb.mono (Nat.le_trans hBw hbel.size))⟩

theorem SettleRel.below {w wr w2 : World} {B g : Nat} {sv qv : Value} {qs : List (Nat × Value × List Nat)} {fuse : Int} {down : Bool} {keep torn : Nat} {cs : List (List Nat)} {k : Nat}
    (hr : SettleRel w B g sv qv qs fuse down keep torn cs k wr) (hb : Below wr.heap.size wr w2) (hBw : B ≤ w.heap.size) : SettleRel w B g sv qv qs fuse down keep torn cs k w2 := by
  obtain ⟨ss, hss, hd, hs, hq, hsec, hqs, hbel⟩ := hr
  have hk := Kept.of_below (S := fun _ => False) hb
  exact ⟨ss, hss, Has.below hd hb hd.lt, own_kept hs hk (fun _ _ h => h), own_kept hq hk (fun _ _ h => h), fun x h => ⟨own_kept (hsec x h).1 hk (fun _ _ h => h), (hsec x h).2⟩,
    fun q hq0 => ⟨(hqs q hq0).1, own_kept (hqs q hq0).2.1 hk (fun _ _ h => h), (hqs q hq0).2.2⟩, hbel.trans (hb.mono (Nat.le_trans hBw hbel.size))⟩

theorem settleTo_length (keep torn : Nat) (qs : List (Nat × List Nat)) (k : Nat) (cs : List (List Nat)) : (settleTo keep torn qs k cs).length = cs.length := by
  induction k with
  | zero => rfl
  | succ k ih =>
    simp only [settleTo, settle1]
    split
    · simpa using ih
    · split
      · simpa using ih
      · exact ih

end Go.Proofs.Ytcpomddkehhkkaa
