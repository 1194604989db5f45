/- The walk of settle. -/
import Derived.Test.YtcpomddkehhkkaaDisk5
namespace Go.Proofs.Ytcpomddkehhkkaa
open Go.ChangeShapes Go.WideShapes Go.ChangeAt Go.RowKit

/-- what one round of settle needs to know. -/
theorem settle_facts {w wr : World} {B g gs cap gq capq : Nat} {qs : List (Nat × Value × List Nat)} {fuse : Int} {down : Bool} {keep torn : Nat} {cs : List (List Nat)} {k : Nat}
    (hr : SettleRel w B g (.slice (some ⟨gs, 0, none⟩) cs.length cap) (.slice (some ⟨gq, 0, none⟩) qs.length capq) qs fuse down keep torn cs k wr) (hlt : k < qs.length) :
    ∃ a gk ck bs gx cx bx, a < cs.length ∧ bs.length = 64 ∧ bx.length = 64 ∧ (tail2 qs).getD k (0, []) = (a, bs) ∧ (settleTo keep torn (tail2 qs) k cs).getD a [] = bx ∧
      wr.cell? ⟨g, 0, none⟩ = some (.slice (some ⟨gs, 0, none⟩) cs.length cap) ∧ wr.cell? ⟨gq, k * 2, none⟩ = some (.int .i64 (a : Int)) ∧ wr.cell? ⟨gq, k * 2 + 1, none⟩ = some (.slice (some ⟨gk, 0, none⟩) 64 ck) ∧
      wr.cell? ⟨gs, a, none⟩ = some (.slice (some ⟨gx, 0, none⟩) 64 cx) ∧ wr.frozen? ⟨gs, a, none⟩ = false ∧ 64 ≤ ck ∧ g < wr.heap.size ∧ gs < wr.heap.size ∧ gk < wr.heap.size ∧ gx < wr.heap.size ∧
      wr.ownsRow B 5 1 (.slice (some ⟨gk, 0, none⟩) 64 ck) 64 (bcells bs) ∧ wr.ownsRow B 5 1 (.slice (some ⟨gx, 0, none⟩) 64 cx) 64 (bcells bx) := by
  obtain ⟨ss, hss, hd, hs, hq, hsec, hqs, hbel⟩ := hr
  have hlen : ss.length = cs.length := by have := congrArg List.length hss; rw [List.length_map, settleTo_length] at this; exact this
  obtain ⟨c0, c1, c2, c3⟩ := hd.facts
  have hqc := qcells_at qs k hlt
  have q0 := hq.cellAt (k * 2) (by omega)
  have q1 := hq.cellAt (k * 2 + 1) (by omega)
  rw [hqc.1] at q0
  rw [hqc.2] at q1
  obtain ⟨ha, hsk⟩ := hqs qs[k] (List.getElem_mem hlt)
  obtain ⟨gk, ck, curk, hvk, _, hgk, hck, _⟩ := own_open hsk.1 (by decide)
  have hlt2 : qs[k].1 < ss.length := by omega
  have hsx := hsec ss[qs[k].1] (List.getElem_mem hlt2)
  obtain ⟨gx, cx, curx, hvx, _, hgx, _⟩ := own_open hsx.1 (by decide)
  have s0 := hs.cellAt qs[k].1 (by omega)
  rw [List.getElem?_map, List.getElem?_eq_getElem hlt2, Option.map_some, hvx] at s0
  refine ⟨qs[k].1, gk, ck, qs[k].2.2, gx, cx, ss[qs[k].1].2, ha, hsk.2, hsx.2, ?_, ?_, c0, q0, by rw [q1, hvk], s0, hs.frozenAt _, hck, hd.lt, ?_, hgk.lt, hgx.lt, hvk ▸ hsk.1, hvx ▸ hsx.1⟩
  · simp [tail2, hlt]
  · rw [← hss]; simp [hlt2]
  · exact (hs.lt gs rfl).2

theorem size_u8 : (Try.prog.info? 5).map (·.size) = some 1 := by kernel_rfl

/-- what a copy of some bytes over others leaves. -/
theorem splice_own {w3 : World} {B g2 cap2 tn : Nat} {cur2 : Array Value} {bs bx : List Nat} (hcur : cur2.size = cap2 * 1) (hfirst : ∀ j, j < 64 * 1 → cur2[j]? = (bcells bx)[j]?) (hcap : 64 ≤ cap2) (hm : cap2 ≤ maxLen)
    (hbs : bs.length = 64) (hbx : bx.length = 64) (ht : tn ≤ 64) (hB : B ≤ g2) (h : w3.heap[g2]? = some (.cells (splice cur2.toList 0 ((bcells bs).take tn)).toArray 5 (0, 0))) :
    w3.ownsRow B 5 1 (.slice (some ⟨g2, 0, none⟩) 64 cap2) 64 (bcells (bs.take tn ++ bx.drop tn)) := by
  have hl : ((bcells bs).take tn).length = tn := by rw [List.length_take, bcells_length]; omega
  refine ⟨by (rw [bcells_length, List.length_append, List.length_take, List.length_drop]; omega), .inr ⟨g2, cap2, _, rfl, hB, h, hcap, hm, ?_, ?_⟩⟩
  · rw [List.size_toArray, length_splice _ _ _ (by rw [hl, Array.length_toList]; omega)]; simpa using hcur
  · apply List.ext_getElem?
    intro i
    simp only [splice, List.take_zero, List.nil_append, Nat.zero_add, hl, List.getElem?_take]
    by_cases hi : i < 64 * 1
    · rw [if_pos hi]
      simp only [bcells, List.map_append, List.map_take, List.map_drop]
      by_cases hi2 : i < tn
      · rw [List.getElem?_append_left (by rw [← bcells, hl]; exact hi2), List.getElem?_append_left (by rw [← bcells, hl]; exact hi2)]
      · rw [List.getElem?_append_right (by rw [← bcells, hl]; omega), List.getElem?_append_right (by rw [← bcells, hl]; omega)]
        rw [← bcells, hl, List.getElem?_drop, List.getElem?_drop, ← bcells]
        have := hfirst (tn + (i - tn)) (by omega)
        simpa using this
    · rw [if_neg hi, List.getElem?_eq_none]
      rw [bcells_length]; simp; omega

theorem take_len {bs : List Nat} {t : Nat} (hl : bs.length = 64) (ht : t ≤ 64) : ((bcells bs).take t).length = Nat.min t 64 := by
  rw [List.length_take, bcells_length, hl]
theorem take_fit {bs : List Nat} {t cap2 : Nat} {cur2 : Array Value} (ht : t ≤ 64) (hcs : cur2.size = cap2 * 1) (hcp : 64 ≤ cap2) : 0 + ((bcells bs).take t).length ≤ cur2.toList.length := by
  rw [List.length_take]; simp; omega
theorem take_src {w2 : World} {bs : List Nat} {t gk : Nat} (h : ∀ j u, (bcells bs)[j]? = some u → w2.cell? ((⟨gk, 0, none⟩ : Addr).add j) = some u) (g2 : Nat) :
    0 < ((bcells bs).take t).length → some (⟨g2, 0, none⟩ : Addr) = some ⟨g2, 0, none⟩ ∧ ∃ ad, some (⟨gk, 0, none⟩ : Addr) = some ad ∧ ∀ j v, ((bcells bs).take t)[j]? = some v → w2.cell? (ad.add j) = some v := by
  refine fun _ => ⟨rfl, _, rfl, fun j v hv => h j v ?_⟩
  rw [List.getElem?_take] at hv
  split at hv
  · exact hv
  · cases hv

/-- behind the clone all that was read is as it was. -/
theorem settle_after {wr w2 : World} {g gs a gk ck : Nat} {v0 v2 : Value} {t : TypeId}
    (hb2 : Below (wr.alloc (.cells #[.int .i64 (a : Int), .slice (some ⟨gk, 0, none⟩) 64 ck] t)).drew.heap.size (wr.alloc (.cells #[.int .i64 (a : Int), .slice (some ⟨gk, 0, none⟩) 64 ck] t)).drew w2)
    (h0 : wr.cell? ⟨g, 0, none⟩ = some v0) (h2 : wr.cell? ⟨gs, a, none⟩ = some v2) (hf : wr.frozen? ⟨gs, a, none⟩ = false) :
    w2.cell? ⟨g, 0, none⟩ = some v0 ∧ w2.cell? ⟨wr.heap.size, 0, none⟩ = some (.int .i64 (a : Int)) ∧ w2.cell? ⟨wr.heap.size, 1, none⟩ = some (.slice (some ⟨gk, 0, none⟩) 64 ck) ∧ w2.cell? ⟨gs, a, none⟩ = some v2 ∧
      w2.frozen? ⟨gs, a, none⟩ = false := by
  have l0 := World.block_lt_of_cell? wr _ h0
  have l2 := World.block_lt_of_cell? wr _ h2
  have hs : (wr.alloc (.cells #[.int .i64 (a : Int), .slice (some ⟨gk, 0, none⟩) 64 ck] t)).drew.heap.size = wr.heap.size + 1 := by simp
  have hb3 := below_undrew hb2
  simp only at l0 l2
  refine ⟨?_, ?_, ?_, ?_, ?_⟩
  · rw [hb3.cell (by rw [hs]; show g < _; omega), World.cell?_alloc_lt _ _ _ l0]; exact h0
  · rw [hb3.cell (by rw [hs]; show wr.heap.size < _; omega)]; exact World.cell?_alloc_new _ _ _ _
  · rw [hb3.cell (by rw [hs]; show wr.heap.size < _; omega)]; exact World.cell?_alloc_new _ _ _ _
  · rw [hb3.cell (by rw [hs]; show gs < _; omega), World.cell?_alloc_lt _ _ _ l2]; exact h2
  · rw [hb3.frozen (by rw [hs]; show gs < _; omega), World.frozen?_of_block (w := wr) (Below.heap_alloc wr _ gs l2)]; exact hf

theorem copied {wr w2 w3 : World} {g gs a : Nat} {v0 v1 v2 : Value} (hb : Below (wr.heap.size + 1) w2 w3) (lg : g < wr.heap.size) (lgs : gs < wr.heap.size)
    (h0 : w2.cell? ⟨g, 0, none⟩ = some v0) (h1 : w2.cell? ⟨wr.heap.size, 0, none⟩ = some v1) (h2 : w2.cell? ⟨gs, a, none⟩ = some v2) (hf : w2.frozen? ⟨gs, a, none⟩ = false) :
    w3.cell? ⟨g, 0, none⟩ = some v0 ∧ w3.cell? ⟨wr.heap.size, 0, none⟩ = some v1 ∧ w3.cell? ⟨gs, a, none⟩ = some v2 ∧ w3.frozen? ⟨gs, a, none⟩ = false := by
  refine ⟨?_, ?_, ?_, ?_⟩
  · rw [hb.cell (by show g < _; omega)]; exact h0
  · rw [hb.cell (by show wr.heap.size < _; omega)]; exact h1
  · rw [hb.cell (by show gs < _; omega)]; exact h2
  · rw [hb.frozen (by show gs < _; omega)]; exact hf

theorem below_two {wr w2 w3 : World} {o : Obj} (h : Below (wr.alloc o).drew.heap.size (wr.alloc o).drew w2) (h3 : Below (wr.heap.size + 1) w2 w3) : Below wr.heap.size (wr.alloc o) w3 :=
  ((below_undrew h).mono (by simp)).trans (h3.mono (by omega))

theorem SettleRel.size {w wr : World} {B g : Nat} {sv qv : Value} {qs : List (Nat × Value × List Nat)} {fuse : Int} {down : Bool} {keep torn : Nat} {cs : List (List Nat)} {k : Nat}
    (hr : SettleRel w B g sv qv qs fuse down keep torn cs k wr) (hB : B ≤ w.heap.size) : B ≤ wr.heap.size := by
  obtain ⟨_, _, _, _, _, _, _, hbel⟩ := hr
  exact Nat.le_trans hB hbel.size

/-- all has been settled: the sectors hold these bytes, nothing waits. -/
def Settled (w : World) (B g : Nat) (sv : Value) (cs : List (List Nat)) (fuse : Int) (down : Bool) (w' : World) : Prop :=
  ∃ ss : List (Value × List Nat), ss.map (·.2) = cs ∧ DObj w' g sv (.slice none 0 0) fuse down ∧ w'.ownsRow B 32 1 sv cs.length (ss.map (·.1)) ∧ (∀ s ∈ ss, Sector w' B s) ∧ Below B w w'

theorem settled_close {w wr : World} {B g : Nat} {sv qv : Value} {fuse : Int} {down : Bool} {cs ds : List (List Nat)} {ss : List (Value × List Nat)} {n : Nat}
    (hss : ss.map (·.2) = ds) (hd : DObj wr g sv qv fuse down) (hs : wr.ownsRow B 32 1 sv cs.length (ss.map (·.1))) (hsec : ∀ s ∈ ss, Sector wr B s) (hb : Below B w wr) (_ : n ≤ n) (hBg : B ≤ g) (hl : ds.length = cs.length) :
    Settled w B g sv ds fuse down (wr.setCell ⟨g, 1, none⟩ (.slice none 0 0)) := by
  have hset : ∀ (x : World) (v : Value), Kept (· = g) x (x.setCell ⟨g, 1, none⟩ v) := fun x v => (Kept.refl (· = g) _).set (.inl rfl) _
  exact ⟨ss, hss, Has.set hd 1 _, by rw [hl]; exact own_kept hs (hset _ _) (fun k hk => own_has_ne hs hd (by decide) k hk), fun s h => ⟨own_kept (hsec s h).1 (hset _ _) (fun k hk => own_has_ne (hsec s h).1 hd (by decide) k hk), (hsec s h).2⟩, hb.setCell hBg _⟩

set_option maxHeartbeats 1000000 in
theorem settle_any (w : World) (B g gs cap gq capq : Nat) (qs : List (Nat × Value × List Nat)) (fuse : Int) (down : Bool) (keep torn : Int) (kn : Nat) (cs : List (List Nat))
    (hk : (keep ≤ 0 ∧ kn ≤ 0) ∨ (0 < keep ∧ keep ≤ kn ∧ kn ≤ keep)) (hm : qs.length ≤ 1000000) (hn : 0 < cs.length) (hn2 : cs.length ≤ 1000000) (hB : B ≤ w.heap.size) (hBg : B ≤ g) (hkeep : keep ≤ 9223372036854775807) (htorn : torn ≤ 9223372036854775807)
    (hr : SettleRel w B g (.slice (some ⟨gs, 0, none⟩) cs.length cap) (.slice (some ⟨gq, 0, none⟩) qs.length capq) qs fuse down kn (min torn.toNat 64) cs 0 w) :
    Calls Try.prog 20 #[.pointer (some ⟨g, 0, none⟩), .int .i64 keep, .int .i64 torn] w fun e w' => e = .returned (.tuple #[]) ∧ Settled w B g (.slice (some ⟨gs, 0, none⟩) cs.length cap) (settleTo kn (min torn.toNat 64) (tail2 qs) qs.length cs) fuse down w' := by
  obtain ⟨ss0, h0, hd0, _⟩ := id hr
  obtain ⟨c0, c1, c2, c3⟩ := hd0.facts
  clear hd0 h0
  have HR := Lib.hid hr
  clear hr
  rcases hk with ⟨hk0, hkn⟩ | ⟨hk0, hkn1, hkn2⟩
  all_goals
    go_enter Try.func20, Try.ntmps20
    go_wp2_with fail
    clear c0 c1 c2 c3
    go_loopw [16, 6, 8] (fun i _ _ wr => ∃ k : Nat, k ≤ qs.length ∧ i = .int .i64 k ∧ SettleRel w B g (.slice (some ⟨gs, 0, none⟩) cs.length cap) (.slice (some ⟨gq, 0, none⟩) qs.length capq) qs fuse down kn (min torn.toNat 64) cs k wr) (fun i _ _ _ => qs.length - (intOf i).toNat)
    case atStart => exact ⟨0, by omega, rfl, HR.out⟩
    case round =>
      obtain ⟨k, hk, rfl, hrel⟩ := hrel
      by_cases hlt : k < qs.length
      · have HR2 := Lib.hid hrel
        obtain ⟨a, gk, ck, bs, gx, cx, bx, ha, hbs, hbx, hq1, hx1, c0, q0, q1, s0, sf, hck, lg, lgs, lgk, lgx, ok, ox⟩ := settle_facts hrel hlt
        have hc0 : ∀ o, (wr.alloc o).cell? ⟨g, 0, none⟩ = some (.slice (some ⟨gs, 0, none⟩) cs.length cap) := fun o => by rw [World.cell?_alloc_lt wr o _ lg]; exact c0
        have hs0 : ∀ o, (wr.alloc o).cell? ⟨gs, a, none⟩ = some (.slice (some ⟨gx, 0, none⟩) 64 cx) := fun o => by rw [World.cell?_alloc_lt wr o _ lgs]; exact s0
        have hsf : ∀ o, (wr.alloc o).frozen? ⟨gs, a, none⟩ = false := fun o => by rw [World.frozen?_of_block (w := wr) (Below.heap_alloc wr o gs lgs)]; exact sf
        have HBS := Lib.hid hbs
        have HBX := Lib.hid hbx
        have HQ1 := Lib.hid hq1
        have HX1 := Lib.hid hx1
        have HOK := Lib.hid ok
        have HOX := Lib.hid ox
        clear hrel hbs hbx hq1 hx1 ok ox
        rcases Nat.lt_trichotomy k kn with hc | hc | hc
        · first
            | (exfalso; omega)
            | (have hst := Lib.hid (fun o => (settle_put (k := k) HR2.out (v := .slice (some ⟨gk, 0, none⟩) 64 ck) (w2 := wr) (Below.refl _ _) hB HOK.out HBS.out ha (by show settle1 _ _ _ _ _ = _; rw [HQ1.out]; unfold settle1; rw [if_pos hc])).below (Below.drew ((Below.refl _ _).alloc (Nat.le_refl _) o)) hB)
               go_wp2_with fail
               go_region
               go_wp2
               go_roundw
               case rel => exact ⟨k + 1, by omega, by go_num, hst.out _⟩
               case measure => simp [intOf]; omega)
        · have hc1 : k ≤ kn := by omega
          have hc2 : kn ≤ k := by omega
          clear hc
          have hcl : ∀ o j u, (bcells bx)[j]? = some u → (wr.alloc o).cell? ((⟨gx, 0, none⟩ : Addr).add j) = some u := fun o => (HOX.out.alloc o).cells (g := gx) rfl
          have HCL := Lib.hid hcl
          clear hcl
          go_wp2_with fail
          go_region_held3 (fun w' => w'.cell? ⟨g, 0, none⟩ = some (.slice (some ⟨gs, 0, none⟩) cs.length cap) ∧ w'.cell? ⟨wr.heap.size, 0, none⟩ = some (.int .i64 (a : Int)) ∧ w'.cell? ⟨gs, a, none⟩ = some (.slice (some ⟨gx, 0, none⟩) 64 cx)) (first | exact ⟨hc0 _, World.cell?_alloc_new _ _ _ _, hs0 _⟩ | exact ⟨x0, x1, x2⟩) (first | (go_at_call 19; refine (clone64 (wr.alloc (.cells #[.int .i64 (a : Int), .slice (some ⟨gk, 0, none⟩) 64 ck] 52)).drew gx cx bx HBX.out (HCL.out _)).mono ?_; rintro e w2 ⟨g2, cap2, rfl, hown2, hb2, hg21, hg22⟩; obtain ⟨x0, x1, x1b, x2, xf⟩ := settle_after hb2 c0 s0 sf))
          obtain ⟨g2', cap2', cur2, hv2, _, hh2, hcp2, hcm2, hcs2, hf2⟩ := own_open hown2 (by decide)
          obtain ⟨rfl, rfl⟩ : g2 = g2' ∧ cap2 = cap2' := by simpa using hv2
          have HH2 := Lib.hid hh2
          have HF2 := Lib.hid hf2
          have HCS := Lib.hid hcs2
          have HO2 := Lib.hid hown2
          have HB2 := Lib.hid hb2
          clear hown2 hv2 hh2 hf2 hcs2 hb2
          have hg2 : wr.heap.size + 1 ≤ g2 := by simpa using hg21
          rcases (show torn ≤ 0 ∨ (0 < torn ∧ torn ≤ 64) ∨ 64 < torn by omega) with ht | ⟨ht, ht2⟩ | ht
          · have ho2k := HOK.out
            have hsrc := Lib.hid (((own_kept (((HOK.out).alloc (.cells #[.int .i64 (a : Int), .slice (some ⟨gk, 0, none⟩) 64 ck] 52)).drew) (Kept.of_below (S := fun _ => False) HB2.out) (fun _ _ h => h)).cells (g := gk) rfl))
            clear ho2k
            go_wp2_with (refine wpList_copy_splice rfl (.tmp 47) (.tmp 56) 32 32 rfl 5 Try.underlying32 size_u8 (some ⟨g2, 0, none⟩) (some ⟨gk, 0, none⟩) 64 cap2 0 ck rfl rfl g2 0 cur2.toList 5 HH2.out ((bcells bs).take 0) (take_len HBS.out (by omega)) (take_src hsrc.out g2) (take_fit (by omega) HCS.out hcp2) (fun v hv => bcells_one bs v (List.mem_of_mem_take hv)) (wr.heap.size + 1) w2 (Below.refl _ _) hg2 ?_)
            intro w3 hg3 hb3
            obtain ⟨y0, y1, y2, y3⟩ := copied hb3 lg lgs x0 x1 x2 xf
            have hst := Lib.hid (settle_put (k := k) HR2.out (w2 := w3.drew) (v := .slice (some ⟨g2, 0, none⟩) 64 cap2) (Below.drew ((Below.alloc (Below.refl _ _) (Nat.le_refl _) _).trans (below_two HB2.out hb3))) hB (Go.World.ownsRow.drew (splice_own HCS.out HF2.out hcp2 hcm2 HBS.out HBX.out (tn := 0) (by omega) (by have := HR2.out.size hB; omega) hg3.out)) (by rw [List.length_append, List.length_take, List.length_drop, HBS.out, HBX.out]; omega) ha (by show settle1 _ _ _ _ _ = _; rw [HQ1.out]; unfold settle1; rw [if_neg (by omega), if_pos (by omega), HX1.out, show min torn.toNat 64 = 0 by omega]))
            go_wp2_with fail
            go_region
            all_goals
              go_wp2
              go_roundw
              case rel => exact ⟨k + 1, by omega, by go_num, hst.out⟩
              case measure => simp [intOf]; omega
          · have ho2k := HOK.out
            have hsrc := Lib.hid (((own_kept (((HOK.out).alloc (.cells #[.int .i64 (a : Int), .slice (some ⟨gk, 0, none⟩) 64 ck] 52)).drew) (Kept.of_below (S := fun _ => False) HB2.out) (fun _ _ h => h)).cells (g := gk) rfl))
            clear ho2k
            go_wp2_with (refine wpList_copy_splice rfl (.tmp 47) (.tmp 56) 32 32 rfl 5 Try.underlying32 size_u8 (some ⟨g2, 0, none⟩) (some ⟨gk, 0, none⟩) 64 cap2 torn.toNat ck rfl rfl g2 0 cur2.toList 5 HH2.out ((bcells bs).take torn.toNat) (take_len HBS.out (by omega)) (take_src hsrc.out g2) (take_fit (by omega) HCS.out hcp2) (fun v hv => bcells_one bs v (List.mem_of_mem_take hv)) (wr.heap.size + 1) w2 (Below.refl _ _) hg2 ?_)
            intro w3 hg3 hb3
            obtain ⟨y0, y1, y2, y3⟩ := copied hb3 lg lgs x0 x1 x2 xf
            have hst := Lib.hid (settle_put (k := k) HR2.out (w2 := w3.drew) (v := .slice (some ⟨g2, 0, none⟩) 64 cap2) (Below.drew ((Below.alloc (Below.refl _ _) (Nat.le_refl _) _).trans (below_two HB2.out hb3))) hB (Go.World.ownsRow.drew (splice_own HCS.out HF2.out hcp2 hcm2 HBS.out HBX.out (tn := torn.toNat) (by omega) (by have := HR2.out.size hB; omega) hg3.out)) (by rw [List.length_append, List.length_take, List.length_drop, HBS.out, HBX.out]; omega) ha (by show settle1 _ _ _ _ _ = _; rw [HQ1.out]; unfold settle1; rw [if_neg (by omega), if_pos (by omega), HX1.out, show min torn.toNat 64 = torn.toNat by omega]))
            go_wp2_with fail
            go_region
            all_goals
              go_wp2
              go_roundw
              case rel => exact ⟨k + 1, by omega, by go_num, hst.out⟩
              case measure => simp [intOf]; omega
          · have ho2k := HOK.out
            have hsrc := Lib.hid (((own_kept (((HOK.out).alloc (.cells #[.int .i64 (a : Int), .slice (some ⟨gk, 0, none⟩) 64 ck] 52)).drew) (Kept.of_below (S := fun _ => False) HB2.out) (fun _ _ h => h)).cells (g := gk) rfl))
            clear ho2k
            go_wp2_with (refine wpList_copy_splice rfl (.tmp 47) (.tmp 56) 32 32 rfl 5 Try.underlying32 size_u8 (some ⟨g2, 0, none⟩) (some ⟨gk, 0, none⟩) 64 cap2 64 ck rfl rfl g2 0 cur2.toList 5 HH2.out ((bcells bs).take 64) (take_len HBS.out (by omega)) (take_src hsrc.out g2) (take_fit (by omega) HCS.out hcp2) (fun v hv => bcells_one bs v (List.mem_of_mem_take hv)) (wr.heap.size + 1) w2 (Below.refl _ _) hg2 ?_)
            intro w3 hg3 hb3
            obtain ⟨y0, y1, y2, y3⟩ := copied hb3 lg lgs x0 x1 x2 xf
            have hst := Lib.hid (settle_put (k := k) HR2.out (w2 := w3.drew) (v := .slice (some ⟨g2, 0, none⟩) 64 cap2) (Below.drew ((Below.alloc (Below.refl _ _) (Nat.le_refl _) _).trans (below_two HB2.out hb3))) hB (Go.World.ownsRow.drew (splice_own HCS.out HF2.out hcp2 hcm2 HBS.out HBX.out (tn := 64) (by omega) (by have := HR2.out.size hB; omega) hg3.out)) (by rw [List.length_append, List.length_take, List.length_drop, HBS.out, HBX.out]; omega) ha (by show settle1 _ _ _ _ _ = _; rw [HQ1.out]; unfold settle1; rw [if_neg (by omega), if_pos (by omega), HX1.out, show min torn.toNat 64 = 64 by omega]))
            go_wp2_with fail
            go_region
            all_goals
              go_wp2
              go_roundw
              case rel => exact ⟨k + 1, by omega, by go_num, hst.out⟩
              case measure => simp [intOf]; omega
        · have hst := Lib.hid (fun b => settle_skip (k := k) HR2.out (w2 := wr.alloc b) ((Below.refl _ _).alloc (Nat.le_refl _) _) hB (by show settle1 _ _ _ _ _ = _; unfold settle1; rw [if_neg (by omega), if_neg (by omega)]))
          go_wp2
          go_roundw
          case rel => exact ⟨k + 1, by omega, by go_num, hst.out _⟩
          case measure => simp [intOf]; omega
      · obtain rfl : k = qs.length := by omega
        obtain ⟨ss, hss, hd, hs, hq, hsec, hqs, hbel⟩ := hrel
        have c1 := hd.facts.2.1
        have f1 := hd.free 1
        have hfin := Lib.hid (settled_close hss hd hs hsec hbel (Nat.le_refl 0) hBg (settleTo_length _ _ _ _ _))
        clear hss hd hs hq hsec hqs hbel
        go_wp2
        go_end0
        exact ⟨rfl, hfin.out⟩
end Go.Proofs.Ytcpomddkehhkkaa
