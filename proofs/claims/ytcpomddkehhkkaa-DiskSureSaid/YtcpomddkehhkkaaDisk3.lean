/- The disk as a whole; the walk of Write. -/
import Derived.Test.YtcpomddkehhkkaaDisk2
namespace Go.Proofs.Ytcpomddkehhkkaa
open Go.ChangeShapes Go.WideShapes Go.ChangeAt Go.RowKit

theorem info_bytes : (Try.prog.info? 32).map (fun i => (i.zero, i.size, i.bytes)) = some (some (.slice none 0 0), 1, 24) := by kernel_rfl
theorem info_write : (Try.prog.info? 52).map (fun i => (i.zero, i.size, i.bytes)) = some (some (.agg #[.int .i64 0, .slice none 0 0]), 2, 32) := by kernel_rfl

/-- a sector's bytes, owned -/
def Sector (w : World) (B : Nat) (s : Value × List Nat) : Prop := w.ownsRow B 5 1 s.1 64 (bcells s.2) ∧ s.2.length = 64

def qcells (qs : List (Nat × Value × List Nat)) : List Value := qs.flatMap fun q => [.int .i64 (q.1 : Int), q.2.1]

/-- a disk, all of it -/
def DiskAt (w : World) (B g : Nat) (ss : List (Value × List Nat)) (qs : List (Nat × Value × List Nat)) (fuse : Int) (down : Bool) : Prop :=
  ∃ sv qv, DObj w g sv qv fuse down ∧ B ≤ g ∧ w.ownsRow B 32 1 sv ss.length (ss.map (·.1)) ∧ w.ownsRow B 52 2 qv qs.length (qcells qs) ∧
    (∀ s ∈ ss, Sector w B s) ∧ (∀ q ∈ qs, q.1 < ss.length ∧ Sector w B q.2)

theorem qcells_snoc (qs : List (Nat × Value × List Nat)) (q : Nat × Value × List Nat) : qcells (qs ++ [q]) = qcells qs ++ [.int .i64 (q.1 : Int), q.2.1] := by simp [qcells]

theorem add_block (a : Addr) (n : Nat) : (a.add n).block = a.block := by unfold Addr.add; split <;> rfl

theorem clone64 (w : World) (g c : Nat) (bs : List Nat) (hl : bs.length = 64) (hc : ∀ j u, (bcells bs)[j]? = some u → w.cell? ((⟨g, 0, none⟩ : Addr).add j) = some u) :
    Calls Try.prog 19 #[.slice (some ⟨g, 0, none⟩) 64 c] w fun e w' => ∃ g2 cap, e = .returned (.slice (some ⟨g2, 0, none⟩) 64 cap) ∧ w'.ownsRow w.heap.size 5 1 (.slice (some ⟨g2, 0, none⟩) 64 cap) 64 (bcells bs) ∧ Below w.heap.size w w' ∧ w.heap.size ≤ g2 ∧ g2 < w'.heap.size := by
  refine (clone_some w g 0 64 c bs hl (by decide) hc).mono fun e w' h => ?_
  have h2 := h.at (by omega)
  unfold ClonedAt at h2
  rw [hl] at h2
  exact h2

/-- what Write leaves. -/
def Written (w : World) (B g : Nat) (sv qv : Value) (m : Nat) (qcs : List Value) (fuse : Int) (at_ : Int) (bs : List Nat) (e : Ending) (w' : World) : Prop :=
  e = .returned (.int .i64 (if blown fuse then 40 else 0)) ∧ ∃ v2 qv2, DObj w' g sv qv2 (burnt fuse) (blown fuse) ∧ w'.ownsRow B 52 2 qv2 (m + 1) (qcs ++ [.int .i64 at_, v2]) ∧
    w'.ownsRow w.heap.size 5 1 v2 64 (bcells bs) ∧ Kept (fun k => k = g ∨ qv.ownBlock = some k) w w'

theorem write_close {w w1 w2 w4 : World} {B g : Nat} {sv qv : Value} {m : Nat} {qcs : List Value} {fuse : Int} {at_ : Int} {bs : List Nat} {g2 cap2 g4 cap4 : Nat} {o : Obj}
    (hd : DObj w1 g sv qv (burnt fuse) (blown fuse)) (hk : Kept (· = g) w w1) (hq : w1.ownsRow B 52 2 qv m qcs) (hb2 : Below w1.heap.size w1 w2)
    (hown2 : w2.ownsRow w1.heap.size 5 1 (.slice (some ⟨g2, 0, none⟩) 64 cap2) 64 (bcells bs))
    (hown4 : w4.ownsRow B 52 2 (.slice (some ⟨g4, 0, none⟩) (m + 1) cap4) (m + 1) (qcs ++ [.int .i64 at_, .slice (some ⟨g2, 0, none⟩) 64 cap2]))
    (hgrow : (w2.alloc o).grownBy w4 qv.ownBlock) (r : Int) (hr : r = if blown fuse then 40 else 0) :
    Written w B g sv qv m qcs fuse at_ bs (.returned (.int .i64 r)) (w4.setCell ⟨g, 1, none⟩ (.slice (some ⟨g4, 0, none⟩) (m + 1) cap4)) := by
  have hd2 : DObj w2 g sv qv (burnt fuse) (blown fuse) := Has.below hd hb2 hd.lt
  have hq2 : w2.ownsRow B 52 2 qv m qcs := own_kept hq (Kept.of_below hb2) (fun k _ h => h)
  have hd4 : Has w4 g _ _ := Has.grown (Has.alloc hd2 o) hgrow (fun e => own_has_ne hq2 hd2 (by decide) g e.symm rfl)
  have hset : ∀ (x : World) (v : Value), Kept (· = g) x (x.setCell ⟨g, 1, none⟩ v) := fun x v => (Kept.refl (· = g) _).set (.inl rfl) _
  have ho2 : w4.ownsRow w1.heap.size 5 1 (.slice (some ⟨g2, 0, none⟩) 64 cap2) 64 (bcells bs) :=
    (hown2.alloc o).kept hgrow (.inr (fun e => own_own_ne hown2 hq2 (by decide) g2 rfl (by rw [← e]; rfl)))
  refine ⟨by rw [hr], _, _, Has.set hd4 1 _, own_kept hown4 (hset _ _) (fun k hk => own_has_ne hown4 hd4 (by decide) k hk), own_base (own_kept ho2 (hset _ _) (fun k hk => own_has_ne ho2 hd4 (by decide) k hk)) hk.size, ?_⟩
  refine (((hk.mono (fun _ _ h => .inl h)).step (Kept.of_below (S := fun _ => False) hb2) (fun k h => h.elim)).alloc o |>.grown hgrow (fun k h => .inl (.inr h))).set (.inl (.inl rfl)) _

set_option maxHeartbeats 1000000 in
theorem write_up (w : World) (B g : Nat) (sv qv : Value) (n m : Nat) (fuse : Int) (svs qcs : List Value) (at_ : Int) (gb c : Nat) (bs : List Nat)
    (h : DObj w g sv qv fuse false) (hm : fuse ≤ 9223372036854775807) (hB : B ≤ g) (hs : w.ownsRow B 32 1 sv n svs) (hq : w.ownsRow B 52 2 qv m qcs) (hm2 : m ≤ 1000000)
    (hat0 : 0 ≤ at_) (hat1 : at_ < n) (hn : 0 < n) (hn2 : n ≤ 1000000) (hl : bs.length = 64) (hne : gb ≠ g) (hb : ∀ j u, (bcells bs)[j]? = some u → w.cell? ((⟨gb, 0, none⟩ : Addr).add j) = some u) :
    Calls Try.prog 10 #[.pointer (some ⟨g, 0, none⟩), .int .i64 at_, .slice (some ⟨gb, 0, none⟩) 64 c] w (Written w B g sv qv m qcs fuse at_ bs) := by
  obtain ⟨gs, cap, cur, rfl, _, hsg, _⟩ := own_open hs hn
  obtain ⟨i0, hi, hz0, hz1, hz2⟩ := info_parts info_write
  obtain ⟨c0, c1, c2, c3⟩ := h.facts
  have HH := Lib.hid h
  have HS := Lib.hid hs
  have HQ := Lib.hid hq
  have HB := Lib.hid hb
  have HL := Lib.hid hl
  clear h hs hq hb hl
  go_enter Try.func10, Try.ntmps10
  go_wp2_with fail
  refine (step_up w g _ qv fuse HH.out hm).mono ?_
  rintro e w1 ⟨rfl, hd1, hk1⟩
  obtain ⟨c0, c1, c2, c3⟩ := hd1.facts
  have hb1 : ∀ j u, (bcells bs)[j]? = some u → w1.cell? ((⟨gb, 0, none⟩ : Addr).add j) = some u := fun j u hu => by
    have h1 := HB.out j u hu
    rw [World.cell?_of_block (w := w) (hk1.block _ (World.block_lt_of_cell? w _ h1) (fun e => hne (by rw [add_block] at e; exact e)))]; exact h1
  have hq1 := own_kept HQ.out hk1 (fun k hk => own_has_ne HQ.out HH.out (by decide) k hk)
  have HD := Lib.hid hd1
  have HK := Lib.hid hk1
  have HQ1 : Hid (w1.drew.ownsRow B 52 2 qv m qcs) := Lib.hid hq1
  have HB1 := Lib.hid hb1
  have hgw := Has.lt hd1
  have hqg : ∀ k, qv.ownBlock = some k → k ≠ g := fun k hk => own_has_ne hq1 hd1 (by decide) k hk
  have HQG := Lib.hid hqg
  clear hd1 hk1 hq1 hb1 hqg
  go_wp2_with fail
  go_region_law (first
      | (go_simp; go_at_call 19; refine (clone64 w1.drew gb c bs HL.out HB1.out).mono ?_; rintro e w2 ⟨g2, cap2, rfl, hown2, hb2, hg21, hg22⟩; have hH2 := Lib.hid (Has.below (w := w1.drew) HD.out hb2 hgw); have hg2 : w2.cell? ⟨g, 1, none⟩ = some qv := Has.cell_is hH2.out rfl; have hg2a : ∀ o, (w2.alloc o).cell? ⟨g, 1, none⟩ = some qv := fun o => Has.cell_is (Has.alloc hH2.out o) rfl)
      | (refine step_append_lies _ (by rfl) _ _ 47 (by rfl) B 52 i0 (.agg #[.int .i64 0, .slice none 0 0]) 2 32 Try.underlying47 hi hz0 hz1 hz2 rfl (by decide) qv m qcs (by rfl) ((own_kept HQ1.out (Kept.of_below (w := w1.drew) hb2) (fun k _ h => h)).alloc _) ⟨w2.heap.size, 0, none⟩ 1 1 [.int .i64 at_, .slice (some ⟨g2, 0, none⟩) 64 cap2] (by rfl) (by rfl) (World.news_of_block (cs := #[.int .i64 at_, .slice (some ⟨g2, 0, none⟩) 64 cap2]) (t := 52) (fr := (0, 0)) (heap_alloc_new w2 _)) (by simp [Value.oneCell']) (by decide) (by unfold maxLen; omega) (by omega) (by have := hb2.size; have := Has.lt HD.out; simp at *; omega) (w2.heap.size + 1) (by simp) ?_; intro g4 cap4 w4 hown4 hgrow4 hat4 hlt4; have hH4 := Lib.hid (Has.grown (Has.alloc hH2.out _) hgrow4 (fun e => HQG.out g e.symm rfl)); have hg4 : w4.cell? ⟨g, 1, none⟩ = some qv := Has.cell_is hH4.out rfl; have hf4 : w4.frozen? ⟨g, 1, none⟩ = false := Has.free hH4.out 1))
  all_goals
    have hcl := Lib.hid (fun r hr => write_close HD.out HK.out HQ1.out (below_undrew hb2) hown2 hown4 hgrow4 r hr)
    have hc3 : (w4.setCell ⟨g, 1, none⟩ (.slice (some ⟨g4, 0, none⟩) (m + 1) cap4)).cell? ⟨g, 3, none⟩ = some (.bool (blown fuse)) := Has.cell_is (Has.set hH4.out 1 _) rfl
    clear hown2 hown4 hgrow4 hb2
    by_cases hbl : blown fuse = true
    · go_wp2
      go_ret
      exact hcl.out 40 (by rw [hbl]; rfl)
    · go_wp2
      go_ret
      exact hcl.out 0 (by rw [if_neg hbl])
end Go.Proofs.Ytcpomddkehhkkaa
