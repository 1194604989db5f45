/- The disk's methods by their contracts. -/
import Derived.Test.YtcpomddkehhkkaaDisk7
namespace Go.Proofs.Ytcpomddkehhkkaa
open Go.ChangeShapes Go.WideShapes Go.ChangeAt Go.RowKit Go.Shelf

/-- a disk: its sectors' bytes, what waits, the fuse, is the power off. -/
def DiskIs (w : World) (B g : Nat) (cs : List (List Nat)) (qs : List (Nat × List Nat)) (fuse : Int) (down : Bool) : Prop :=
  ∃ (gs cap : Nat) (qv : Value) (ss : List (Value × List Nat)) (qss : List (Nat × Value × List Nat)), ss.map (·.2) = cs ∧ tail2 qss = qs ∧ DObj w g (.slice (some ⟨gs, 0, none⟩) cs.length cap) qv fuse down ∧ B ≤ g ∧
    w.ownsRow B 32 1 (.slice (some ⟨gs, 0, none⟩) cs.length cap) cs.length (ss.map (·.1)) ∧ w.ownsRow B 52 2 qv qss.length (qcells qss) ∧ (∀ s ∈ ss, Sector w B s) ∧ (∀ q ∈ qss, q.1 < cs.length ∧ Sector w B q.2) ∧ (qss = [] → qv = .slice none 0 0)

theorem Sector.kept {w w' : World} {B : Nat} {s : Value × List Nat} {S : Nat → Prop} (h : Sector w B s) (hk : Kept S w w') (hs : ∀ k, s.1.ownBlock = some k → ¬ S k) : Sector w' B s := ⟨own_kept h.1 hk hs, h.2⟩

theorem settle_zero (w : World) (g : Nat) (sv : Value) (aq : Option Addr) (capq : Nat) (fuse : Int) (down : Bool) (keep torn : Int) (h : DObj w g sv (.slice aq 0 capq) fuse down) :
    Calls Try.prog 20 #[.pointer (some ⟨g, 0, none⟩), .int .i64 keep, .int .i64 torn] w fun e w' => e = .returned (.tuple #[]) ∧ w' = w.setCell ⟨g, 1, none⟩ (.slice none 0 0) := by
  obtain ⟨c0, c1, c2, c3⟩ := h.facts
  have f1 := h.free 1
  clear h
  rcases (show keep ≤ 0 ∨ 0 < keep by omega) with hk | hk
  all_goals
    go_enter Try.func20, Try.ntmps20
    go_wp2_with fail
    refine wp_loop_rounds 1 ?_
    rw [rounds_succ]
    go_wp2
    go_end0
    exact ⟨rfl, rfl⟩

/-- whatever waits: it is settled. -/
theorem settle_is (w : World) (B g : Nat) (cs : List (List Nat)) (qs : List (Nat × List Nat)) (fuse : Int) (down : Bool) (keep torn : Int) (kn tn : Nat)
    (hk : (keep ≤ 0 ∧ kn = 0) ∨ (0 < keep ∧ keep = kn)) (ht : tn = min torn.toNat 64) (h : DiskIs w B g cs qs fuse down) (hm : qs.length ≤ 1000000) (hn : 0 < cs.length) (hn2 : cs.length ≤ 1000000) (hB : B ≤ w.heap.size)
    (hkeep : keep ≤ 9223372036854775807) (htorn : torn ≤ 9223372036854775807) :
    Calls Try.prog 20 #[.pointer (some ⟨g, 0, none⟩), .int .i64 keep, .int .i64 torn] w fun e w' => e = .returned (.tuple #[]) ∧ DiskIs w' B g (settleTo kn tn qs qs.length cs) [] fuse down ∧ Below B w w' := by
  subst ht
  obtain ⟨gs, cap, qv, ss, qss, hss, rfl, hd, hBg, hs, hq, hsec, hqs, hnil⟩ := h
  have hlq : (tail2 qss).length = qss.length := by simp [tail2]
  rw [hlq] at hm ⊢
  rcases Nat.eq_zero_or_pos qss.length with h0 | h0
  · obtain rfl : qss = [] := List.eq_nil_of_length_eq_zero h0
    obtain ⟨aq, capq, rfl⟩ : ∃ aq capq, qv = .slice aq 0 capq := by
      rcases hq.2 with ⟨h, _⟩ | ⟨g', c', _, h, _⟩
      · exact ⟨_, _, h⟩
      · exact ⟨_, _, h⟩
    refine (settle_zero w g _ aq capq fuse down keep torn hd).mono ?_
    rintro e w' ⟨rfl, rfl⟩
    have hset : ∀ (x : World) (v : Value), Kept (· = g) x (x.setCell ⟨g, 1, none⟩ v) := fun x v => (Kept.refl (· = g) _).set (.inl rfl) _
    exact ⟨rfl, ⟨gs, cap, _, ss, [], hss, rfl, Has.set hd 1 _, hBg, own_kept hs (hset _ _) (fun k hk => own_has_ne hs hd (by decide) k hk), World.ownsRow_nil _ _ _ _,
      fun s h => (hsec s h).kept (hset _ _) (fun k hk => own_has_ne (hsec s h).1 hd (by decide) k hk), (fun q h => by cases h), fun _ => rfl⟩, (Below.refl _ _).setCell hBg _⟩
  · obtain ⟨gq, capq, _, rfl, _⟩ := own_open hq h0
    refine (settle_any w B g gs cap gq capq qss fuse down keep torn kn cs (by omega) hm hn hn2 hB hBg hkeep htorn ⟨ss, hss, hd, hs, hq, hsec, hqs, Below.refl _ _⟩).mono ?_
    rintro e w' ⟨rfl, ss', hss', hd', hs', hsec', hb'⟩
    have hl := settleTo_length kn (min torn.toNat 64) (tail2 qss) qss.length cs
    exact ⟨rfl, ⟨gs, cap, _, ss', [], hss', rfl, by rw [hl]; exact hd', hBg, by rw [hl] at hs' ⊢; exact hs', World.ownsRow_nil _ _ _ _, hsec', (fun q h => by cases h), fun _ => rfl⟩, hb'⟩

theorem crash_is (w : World) (B g : Nat) (cs : List (List Nat)) (qs : List (Nat × List Nat)) (fuse : Int) (down : Bool) (keep torn : Int) (kn tn : Nat)
    (hk : (keep ≤ 0 ∧ kn = 0) ∨ (0 < keep ∧ keep = kn)) (ht : tn = min torn.toNat 64) (h : DiskIs w B g cs qs fuse down) (hm : qs.length ≤ 1000000) (hn : 0 < cs.length) (hn2 : cs.length ≤ 1000000) (hB : B ≤ w.heap.size)
    (hkeep : keep ≤ 9223372036854775807) (htorn : torn ≤ 9223372036854775807) :
    Calls Try.prog 12 #[.pointer (some ⟨g, 0, none⟩), .int .i64 keep, .int .i64 torn] w fun e w' => e = .returned (.tuple #[]) ∧ DiskIs w' B g (settleTo kn tn qs qs.length cs) [] 0 false ∧ Below B w w' := by
  have H := Lib.hid (settle_is w B g cs qs fuse down keep torn kn tn hk ht h hm hn hn2 hB hkeep htorn)
  clear h hk ht
  go_enter Try.func12, Try.ntmps12
  go_wp2_with fail
  refine H.out.mono ?_
  rintro e w1 ⟨rfl, ⟨gs, cap, qv, ss, qss, hss, hq0, hd, hBg, hs, hq, hsec, hqs, hnil⟩, hb⟩
  obtain ⟨c0, c1, c2, c3⟩ := hd.facts
  have f2 := hd.free 2
  have f3 := hd.free 3
  have hset : ∀ (x : World) (i : Nat) (v : Value), Kept (· = g) x (x.setCell ⟨g, i, none⟩ v) := fun x i v => (Kept.refl (· = g) _).set (.inl rfl) _
  have hk2 : Kept (· = g) w1 ((w1.setCell ⟨g, 3, none⟩ (.bool false)).setCell ⟨g, 2, none⟩ (.int .i64 0)) := (hset _ _ _).trans (hset _ _ _)
  have hfin : Hid (DiskIs ((w1.setCell ⟨g, 3, none⟩ (.bool false)).setCell ⟨g, 2, none⟩ (.int .i64 0)) B g (settleTo kn tn qs qs.length cs) [] 0 false ∧ Below B w ((w1.setCell ⟨g, 3, none⟩ (.bool false)).setCell ⟨g, 2, none⟩ (.int .i64 0))) :=
    ⟨⟨gs, cap, qv, ss, qss, hss, hq0, Has.set (Has.set hd 3 _) 2 _, hBg, own_kept hs hk2 (fun k hk => own_has_ne hs hd (by decide) k hk), own_kept hq hk2 (fun k hk => own_has_ne hq hd (by decide) k hk),
      fun s h => (hsec s h).kept hk2 (fun k hk => own_has_ne (hsec s h).1 hd (by decide) k hk), fun q h => ⟨(hqs q h).1, (hqs q h).2.kept hk2 (fun k hk => own_has_ne (hqs q h).2.1 hd (by decide) k hk)⟩, hnil⟩, (hb.setCell hBg _).setCell hBg _⟩
  clear hd hs hq hsec hqs hss hq0 hb hset hk2
  go_wp2
  go_end0
  exact ⟨rfl, hfin.out⟩
end Go.Proofs.Ytcpomddkehhkkaa
