/- The disk's other methods; Same. -/
import Derived.Laws.BytesArg
import Derived.Test.YtcpomddkehhkkaaDisk8
namespace Go.Proofs.Ytcpomddkehhkkaa
open Go.ChangeShapes Go.WideShapes Go.ChangeAt Go.RowKit Go.Shelf

theorem new_is (w : World) (n : Nat) (hn : n < 4096) (hn0 : 0 < n) :
    Calls Try.prog 9 #[.int .i64 n] w fun e w' => e = .returned (.pointer (some ⟨w.heap.size, 0, none⟩)) ∧ DiskIs w' w.heap.size w.heap.size (List.replicate n (sector 0)) [] 0 false ∧ Below w.heap.size w w' := by
  refine (new_any w n hn hn0).mono ?_
  rintro e w' ⟨rfl, sv, vs, hd, hs, hv, hb⟩
  obtain ⟨gs, cap, _, rfl, _⟩ := own_open hs hn0
  have hl : vs.length = n := by have := hs.1; omega
  have e1 : (zeroSecs vs).map (·.1) = vs := by
    simp only [zeroSecs, List.map_map, Function.comp_def]
    exact List.map_id' vs
  have e2 : (zeroSecs vs).map (·.2) = List.replicate n (sector 0) := by
    simp only [zeroSecs, List.map_map, Function.comp_def]
    rw [List.map_const', hl]
  refine ⟨rfl, ⟨gs, cap, _, zeroSecs vs, [], e2, rfl, by simpa using hd, Nat.le_refl _, by rw [e1]; simpa using hs, World.ownsRow_nil _ _ _ _, ?_, (fun q h => by cases h), fun _ => rfl⟩, hb⟩
  intro s h
  obtain ⟨v, hv0, rfl⟩ := List.mem_map.1 h
  exact ⟨hv v hv0, sector_length 0⟩

theorem step_is (w : World) (B g : Nat) (cs : List (List Nat)) (qs : List (Nat × List Nat)) (fuse : Int) (h : DiskIs w B g cs qs fuse false) (hm : fuse ≤ 9223372036854775807) :
    Calls Try.prog 18 #[.pointer (some ⟨g, 0, none⟩)] w fun e w' => e = .returned (.int .i64 0) ∧ DiskIs w' B g cs qs (burnt fuse) (blown fuse) ∧ Below B w w' := by
  obtain ⟨gs, cap, qv, ss, qss, hss, rfl, hd, hBg, hs, hq, hsec, hqs, hnil⟩ := h
  refine (step_up w g _ qv fuse hd hm).mono ?_
  rintro e w' ⟨rfl, hd', hk⟩
  exact ⟨rfl, ⟨gs, cap, qv, ss, qss, hss, rfl, hd', hBg, own_kept hs hk (fun k hk => own_has_ne hs hd (by decide) k hk), own_kept hq hk (fun k hk => own_has_ne hq hd (by decide) k hk),
    fun s h => (hsec s h).kept hk (fun k hk => own_has_ne (hsec s h).1 hd (by decide) k hk), fun q h => ⟨(hqs q h).1, (hqs q h).2.kept hk (fun k hk => own_has_ne (hqs q h).2.1 hd (by decide) k hk)⟩, hnil⟩,
    ⟨hk.os, hk.tape, hk.output, hk.size, fun k hk2 => hk.block k (by have := hd.lt; omega) (by omega)⟩⟩

theorem DiskIs.down_cell {w : World} {B g : Nat} {cs : List (List Nat)} {qs : List (Nat × List Nat)} {fuse : Int} {down : Bool} (h : DiskIs w B g cs qs fuse down) : w.cell? ⟨g, 3, none⟩ = some (.bool down) := by
  obtain ⟨gs, cap, qv, ss, qss, hss, rfl, hd, _⟩ := h
  exact hd.facts.2.2.2

theorem sync_down (w : World) (B g : Nat) (cs : List (List Nat)) (qs : List (Nat × List Nat)) (fuse : Int) (h : DiskIs w B g cs qs fuse true) :
    Calls Try.prog 15 #[.pointer (some ⟨g, 0, none⟩)] w fun e w' => e = .returned (.int .i64 40) ∧ w' = w := by
  obtain ⟨gs, cap, qv, ss, qss, hss, rfl, hd, _⟩ := h
  have hst : Calls Try.prog 18 #[.pointer (some ⟨g, 0, none⟩)] w fun e w' => e = .returned (.int .i64 40) ∧ w = w' := by
    obtain ⟨c0, c1, c2, c3⟩ := hd.facts
    clear hd
    go_enter Try.func18, Try.ntmps18
    go_wp2
    go_ret
    exact ⟨rfl, rfl⟩
  have HST := Lib.hid hst
  clear hst hd
  go_enter Try.func15, Try.ntmps15
  go_wp2_with fail
  refine HST.out.mono ?_
  rintro e w1 ⟨rfl, rfl⟩
  go_wp2
  go_ret
  exact ⟨rfl, rfl⟩

/-- what a sync makes sure -/
def synced (cs : List (List Nat)) (qs : List (Nat × List Nat)) (fuse : Int) : List (List Nat) := if blown fuse then cs else settleTo qs.length 0 qs qs.length cs
def waits (qs : List (Nat × List Nat)) (fuse : Int) : List (Nat × List Nat) := if blown fuse then qs else []

theorem sync_up (w : World) (B g : Nat) (cs : List (List Nat)) (qs : List (Nat × List Nat)) (fuse : Int) (h : DiskIs w B g cs qs fuse false) (hf : fuse ≤ 9223372036854775807) (hm : qs.length ≤ 1000000) (hn : 0 < cs.length) (hn2 : cs.length ≤ 1000000) (hB : B ≤ w.heap.size) :
    Calls Try.prog 15 #[.pointer (some ⟨g, 0, none⟩)] w fun e w' => e = .returned (.int .i64 (if blown fuse then 40 else 0)) ∧ DiskIs w' B g (synced cs qs fuse) (waits qs fuse) (burnt fuse) (blown fuse) ∧ Below B w w' := by
  have H := Lib.hid (step_is w B g cs qs fuse h hf)
  clear h
  cases hbl : blown fuse
  · rw [hbl] at H
    have e1 : synced cs qs fuse = settleTo qs.length 0 qs qs.length cs := by unfold synced; rw [hbl]; rfl
    have e2 : waits qs fuse = [] := by unfold waits; rw [hbl]; rfl
    rw [e1, e2]
    clear hbl e1 e2
    go_enter Try.func15, Try.ntmps15
    go_wp2_with fail
    refine H.out.mono ?_
    rintro e w1 ⟨rfl, hd, hb⟩
    have hB1 : B ≤ w1.heap.size := Nat.le_trans hB hb.size
    have hst := Lib.hid (settle_is w1 B g cs qs (burnt fuse) false qs.length 0 qs.length 0 (by omega) rfl hd hm hn hn2 hB1 (by omega) (by omega))
    obtain ⟨gs, cap, qv, ss, qss, hss, hq0, hd0, _, _, hq, _⟩ := hd
    obtain ⟨c0, c1, c2, c3⟩ := hd0.facts
    obtain ⟨aq, capq, rfl⟩ : ∃ aq capq, qv = .slice aq qs.length capq := by
      have hl : qs.length = qss.length := by rw [← hq0]; simp [tail2]
      rcases hq.2 with ⟨h, h2⟩ | ⟨g', c', _, h, _⟩
      · exact ⟨_, _, by rw [hl, h2]; exact h⟩
      · exact ⟨_, _, by rw [hl]; exact h⟩
    have HB := Lib.hid hb
    clear hss hq0 hd0 hq hb
    go_wp2_with fail
    refine hst.out.mono ?_
    rintro e w2 ⟨rfl, hd2, hb2⟩
    have HD := Lib.hid hd2
    have HB2 := Lib.hid hb2
    clear hd2 hb2
    go_wp2
    go_ret
    exact ⟨rfl, HD.out, HB.out.trans HB2.out⟩
  · rw [hbl] at H
    have e1 : synced cs qs fuse = cs := by unfold synced; rw [hbl]; rfl
    have e2 : waits qs fuse = qs := by unfold waits; rw [hbl]; rfl
    rw [e1, e2]
    clear hbl e1 e2
    go_enter Try.func15, Try.ntmps15
    go_wp2_with fail
    refine H.out.mono ?_
    rintro e w1 ⟨rfl, hd, hb⟩
    have c3 := hd.down_cell
    have HD := Lib.hid hd
    have HB := Lib.hid hb
    clear hd hb
    go_wp2
    go_ret
    exact ⟨rfl, HD.out, HB.out⟩

theorem fuse_down (w : World) (B g : Nat) (cs : List (List Nat)) (qs : List (Nat × List Nat)) (fuse n : Int) (h : DiskIs w B g cs qs fuse true) :
    Calls Try.prog 16 #[.pointer (some ⟨g, 0, none⟩), .int .i64 n] w fun e w' => e = .returned (.tuple #[]) ∧ w' = w := by
  have c3 := h.down_cell
  clear h
  go_enter Try.func16, Try.ntmps16
  go_wp2
  go_end0
  exact ⟨rfl, rfl⟩

theorem fuse_up (w : World) (B g : Nat) (cs : List (List Nat)) (qs : List (Nat × List Nat)) (fuse n : Int) (h : DiskIs w B g cs qs fuse false) :
    Calls Try.prog 16 #[.pointer (some ⟨g, 0, none⟩), .int .i64 n] w fun e w' => e = .returned (.tuple #[]) ∧ (∃ f, (f = 0 ∨ f = n) ∧ DiskIs w' B g cs qs f false) ∧ Below B w w' := by
  obtain ⟨gs, cap, qv, ss, qss, hss, rfl, hd, hBg, hs, hq, hsec, hqs, hnil⟩ := h
  obtain ⟨c0, c1, c2, c3⟩ := hd.facts
  have f2 := hd.free 2
  have hset : ∀ (x : World) (v : Value), Kept (· = g) x (x.setCell ⟨g, 2, none⟩ v) := fun x v => (Kept.refl (· = g) _).set (.inl rfl) _
  have hfin : ∀ f, Hid (DiskIs (w.setCell ⟨g, 2, none⟩ (.int .i64 f)) B g cs (tail2 qss) f false ∧ Below B w (w.setCell ⟨g, 2, none⟩ (.int .i64 f))) := fun f =>
    ⟨⟨gs, cap, qv, ss, qss, hss, rfl, Has.set hd 2 _, hBg, own_kept hs (hset _ _) (fun k hk => own_has_ne hs hd (by decide) k hk), own_kept hq (hset _ _) (fun k hk => own_has_ne hq hd (by decide) k hk),
      fun s h => (hsec s h).kept (hset _ _) (fun k hk => own_has_ne (hsec s h).1 hd (by decide) k hk), fun q h => ⟨(hqs q h).1, (hqs q h).2.kept (hset _ _) (fun k hk => own_has_ne (hqs q h).2.1 hd (by decide) k hk)⟩, hnil⟩, (Below.refl _ _).setCell hBg _⟩
  clear hd hs hq hsec hqs hss hset
  rcases (show n ≤ 0 ∨ 0 < n by omega) with hn | hn
  · go_enter Try.func16, Try.ntmps16
    go_wp2
    go_end0
    exact ⟨rfl, ⟨0, .inl rfl, (hfin 0).out.1⟩, (hfin 0).out.2⟩
  · go_enter Try.func16, Try.ntmps16
    go_wp2
    go_end0
    exact ⟨rfl, ⟨n, .inr rfl, (hfin n).out.1⟩, (hfin n).out.2⟩

theorem len_is (w : World) (B g : Nat) (cs : List (List Nat)) (qs : List (Nat × List Nat)) (fuse : Int) (down : Bool) (h : DiskIs w B g cs qs fuse down) :
    Calls Try.prog 17 #[.pointer (some ⟨g, 0, none⟩)] w fun e w' => e = .returned (.int .i64 cs.length) ∧ w = w' := by
  obtain ⟨gs, cap, qv, ss, qss, hss, rfl, hd, _⟩ := h
  obtain ⟨c0, c1, c2, c3⟩ := hd.facts
  clear hd
  go_enter Try.func17, Try.ntmps17
  go_wp2
  go_ret
  exact ⟨rfl, rfl⟩

theorem write_is (w : World) (B g : Nat) (cs : List (List Nat)) (qs : List (Nat × List Nat)) (fuse : Int) (at_ gb c Bb : Nat) (bs : List Nat) (h : DiskIs w B g cs qs fuse false) (hf : fuse ≤ 9223372036854775807) (hm : qs.length ≤ 1000000) (hat : at_ < cs.length)
    (hn2 : cs.length ≤ 1000000) (hB : B ≤ w.heap.size) (hb : w.ownsRow Bb 5 1 (.slice (some ⟨gb, 0, none⟩) 64 c) 64 (bcells bs)) (hl : bs.length = 64) :
    Calls Try.prog 10 #[.pointer (some ⟨g, 0, none⟩), .int .i64 at_, .slice (some ⟨gb, 0, none⟩) 64 c] w fun e w' =>
      e = .returned (.int .i64 (if blown fuse then 40 else 0)) ∧ DiskIs w' B g cs (qs ++ [(at_, bs)]) (burnt fuse) (blown fuse) ∧ Below B w w' := by
  obtain ⟨gs, cap, qv, ss, qss, hss, rfl, hd, hBg, hs, hq, hsec, hqs, hnil⟩ := h
  have hlq : (tail2 qss).length = qss.length := by simp [tail2]
  rw [hlq] at hm
  have hbg : gb ≠ g := own_has_ne hb hd (by decide) gb rfl
  refine (write_up w B g _ qv cs.length qss.length fuse _ _ at_ gb c bs hd hf hBg hs hq hm (by omega) (by omega) (by omega) hn2 hl hbg (hb.cells (g := gb) rfl)).mono ?_
  rintro e w' ⟨rfl, v2, qv2, hd', hq', hv', hk⟩
  have hK : ∀ {e : TypeId} {n size : Nat} {v : Value} {xs : List Value}, w.ownsRow B e size v n xs → e ≠ 49 → e ≠ 52 → w'.ownsRow B e size v n xs := fun ho h1 h2 =>
    own_kept ho hk (fun k hk1 h3 => h3.elim (fun h4 => own_has_ne ho hd h1 k hk1 h4) (fun h4 => own_own_ne ho hq h2 k hk1 h4))
  refine ⟨rfl, ⟨gs, cap, qv2, ss, qss ++ [(at_, v2, bs)], hss, by simp [tail2], hd', hBg, hK hs (by decide) (by decide), by rw [qcells_snoc]; simpa using hq', fun s h => ⟨hK (hsec s h).1 (by decide) (by decide), (hsec s h).2⟩, ?_, fun h => by simp at h⟩, ?_⟩
  · intro q h
    rcases List.mem_append.1 h with h | h
    · exact ⟨(hqs q h).1, hK (hqs q h).2.1 (by decide) (by decide), (hqs q h).2.2⟩
    · rw [List.mem_singleton.1 h]
      exact ⟨hat, own_base hv' hB, hl⟩
  · exact hk.below hB (fun k h => h.elim (fun h => by omega) (fun h => (hq.lt k h).1))

theorem write_down (w : World) (B g : Nat) (cs : List (List Nat)) (qs : List (Nat × List Nat)) (fuse at_ : Int) (v : Value) (h : DiskIs w B g cs qs fuse true) :
    Calls Try.prog 10 #[.pointer (some ⟨g, 0, none⟩), .int .i64 at_, v] w fun e w' => e = .returned (.int .i64 40) ∧ w' = w := by
  obtain ⟨gs, cap, qv, ss, qss, hss, rfl, hd, _⟩ := h
  have hst : Calls Try.prog 18 #[.pointer (some ⟨g, 0, none⟩)] w fun e w' => e = .returned (.int .i64 40) ∧ w = w' := by
    obtain ⟨c0, c1, c2, c3⟩ := hd.facts
    clear hd
    go_enter Try.func18, Try.ntmps18
    go_wp2
    go_ret
    exact ⟨rfl, rfl⟩
  have c3 := hd.facts.2.2.2
  have HST := Lib.hid hst
  clear hst hd
  go_enter Try.func10, Try.ntmps10
  go_wp2_with fail
  refine HST.out.mono ?_
  rintro e w1 ⟨rfl, rfl⟩
  go_wp2
  go_ret
  exact ⟨rfl, rfl⟩

theorem read_is (w : World) (B g : Nat) (cs : List (List Nat)) (fuse : Int) (at_ : Nat) (h : DiskIs w B g cs [] fuse false) (hat : at_ < cs.length) :
    Calls Try.prog 13 #[.pointer (some ⟨g, 0, none⟩), .int .i64 at_] w fun e w' => ∃ g2 cap2, e = .returned (.tuple #[.slice (some ⟨g2, 0, none⟩) 64 cap2, .int .i64 0]) ∧
      (w'.ownsRow w.heap.size 5 1 (.slice (some ⟨g2, 0, none⟩) 64 cap2) 64 (bcells (cs.getD at_ [])) ∧ (cs.getD at_ []).length = 64) ∧ Below w.heap.size w w' := by
  obtain ⟨gs, cap, qv, ss, qss, hss, hq0, hd, hBg, hs, hq, hsec, hqs, hnil⟩ := h
  obtain rfl : qss = [] := by
    have := congrArg List.length hq0
    simpa [tail2] using this
  have hlen : ss.length = cs.length := by rw [← hss]; simp
  have hlt2 : at_ < ss.length := by omega
  have hsx := hsec ss[at_] (List.getElem_mem hlt2)
  obtain ⟨gx, cx, curx, hvx, _, hgx, _⟩ := own_open hsx.1 (by decide)
  have s0 := hs.cellAt at_ (by omega)
  rw [List.getElem?_map, List.getElem?_eq_getElem hlt2, Option.map_some, hvx] at s0
  have hbx : cs.getD at_ [] = ss[at_].2 := by rw [← hss]; simp [hlt2]
  rw [hbx]
  have hox : w.ownsRow B 5 1 (.slice (some ⟨gx, 0, none⟩) 64 cx) 64 (bcells ss[at_].2) := hvx ▸ hsx.1
  obtain rfl := hnil rfl
  · refine (callsIn_wide.1 (read_nil w g gs cap cs.length gx cx fuse at_ ss[at_].2 hd (by omega) (by omega) (by simpa using s0) hsx.2 (hox.cells (g := gx) rfl))).mono ?_
    rintro e w' ⟨g2, cap2, rfl, ho, hb⟩
    exact ⟨g2, cap2, rfl, ⟨ho, hsx.2⟩, hb⟩

theorem full_is (w : World) (b : Int) (h0 : 0 ≤ b) :
    Calls Try.prog 11 #[.int .u8 b] w fun e w' => ∃ g cap, e = .returned (.slice (some ⟨g, 0, none⟩) 64 cap) ∧ w'.ownsRow w.heap.size 5 1 (.slice (some ⟨g, 0, none⟩) 64 cap) 64 (bcells (sector b.toNat)) ∧ Below w.heap.size w w' := by
  obtain ⟨n, rfl⟩ := Int.eq_ofNat_of_zero_le h0
  refine (full_nat w n).mono ?_
  intro e w' h
  obtain ⟨g, cap, rfl, ho, hb, _⟩ := h.at (by rw [sector_length]; decide)
  rw [sector_length] at ho ⊢
  exact ⟨g, cap, rfl, ho, hb⟩

theorem DiskIs.below {w w' : World} {B g : Nat} {cs : List (List Nat)} {qs : List (Nat × List Nat)} {fuse : Int} {down : Bool} (h : DiskIs w B g cs qs fuse down) (hb : Below w.heap.size w w') : DiskIs w' B g cs qs fuse down := by
  obtain ⟨gs, cap, qv, ss, qss, hss, rfl, hd, hBg, hs, hq, hsec, hqs, hnil⟩ := h
  have hk := Kept.of_below (S := fun _ => False) hb
  exact ⟨gs, cap, qv, ss, qss, hss, rfl, Has.below hd hb hd.lt, hBg, own_kept hs hk (fun _ _ h => h), own_kept hq hk (fun _ _ h => h), fun s h => (hsec s h).kept hk (fun _ _ h => h), fun q h => ⟨(hqs q h).1, (hqs q h).2.kept hk (fun _ _ h => h)⟩, hnil⟩

theorem write_int (w : World) (B g : Nat) (cs : List (List Nat)) (qs : List (Nat × List Nat)) (fuse at_ : Int) (gb c Bb : Nat) (bs : List Nat) (h : DiskIs w B g cs qs fuse false) (hf : fuse ≤ 9223372036854775807) (hm : qs.length ≤ 1000000) (h0 : 0 ≤ at_) (hat : at_ < cs.length)
    (hn2 : cs.length ≤ 1000000) (hB : B ≤ w.heap.size) (hb : w.ownsRow Bb 5 1 (.slice (some ⟨gb, 0, none⟩) 64 c) 64 (bcells bs)) (hl : bs.length = 64) :
    Calls Try.prog 10 #[.pointer (some ⟨g, 0, none⟩), .int .i64 at_, .slice (some ⟨gb, 0, none⟩) 64 c] w fun e w' =>
      e = .returned (.int .i64 (if blown fuse then 40 else 0)) ∧ DiskIs w' B g cs (qs ++ [(at_.toNat, bs)]) (burnt fuse) (blown fuse) ∧ Below B w w' := by
  obtain ⟨n, rfl⟩ := Int.eq_ofNat_of_zero_le h0
  exact write_is w B g cs qs fuse n gb c Bb bs h hf hm (by omega) hn2 hB hb hl

theorem read_int (w : World) (B g : Nat) (cs : List (List Nat)) (fuse at_ : Int) (h : DiskIs w B g cs [] fuse false) (h0 : 0 ≤ at_) (hat : at_ < cs.length) :
    Calls Try.prog 13 #[.pointer (some ⟨g, 0, none⟩), .int .i64 at_] w fun e w' => ∃ g2 cap2, e = .returned (.tuple #[.slice (some ⟨g2, 0, none⟩) 64 cap2, .int .i64 0]) ∧
      (w'.ownsRow w.heap.size 5 1 (.slice (some ⟨g2, 0, none⟩) 64 cap2) 64 (bcells (cs.getD at_.toNat [])) ∧ (cs.getD at_.toNat []).length = 64) ∧ Below w.heap.size w w' := by
  obtain ⟨n, rfl⟩ := Int.eq_ofNat_of_zero_le h0
  exact read_is w B g cs fuse n h (by omega)

/-- a string of bytes -/
def bstr (bs : List Nat) : ByteArray := strOfNums (bs.map fun (n : Nat) => (n : Int))

theorem same_is (w : World) (B1 B2 g1 g2 c1 c2 n : Nat) (bs : List Nat) (h1 : w.ownsRow B1 5 1 (.slice (some ⟨g1, 0, none⟩) n c1) n (bcells bs)) (h2 : w.ownsRow B2 5 1 (.slice (some ⟨g2, 0, none⟩) n c2) n (bcells bs)) :
    Calls Try.prog 14 #[.slice (some ⟨g1, 0, none⟩) n c1, .slice (some ⟨g2, 0, none⟩) n c2] w fun e w' => e = .returned (.bool true) ∧ w = w' := by
  have hl : bs.length = n := by have := h1.1; rw [bcells_length] at this; omega
  have conv : ∀ (B g c : Nat), w.ownsRow B 5 1 (.slice (some ⟨g, 0, none⟩) n c) n (bcells bs) → (convert 32 9 (.slice (some ⟨g, 0, none⟩) n c)).run Try.prog w = .ok (.string (bstr bs)) w := fun B g c h =>
    run_convert_bytes_arg w 32 5 Try.underlying32 Try.underlying5 g 0 n c (bs.map fun (n : Nat) => (n : Int)) (by rw [List.length_map, hl]) (fun i hi => by
      have := h.cellAt i (by omega)
      rw [bcells_get bs i (by omega)] at this
      simpa [List.getD_eq_getElem?_getD, hl, hi] using this) 9 Try.underlying9
  have k1 := conv B1 g1 c1 h1
  have k2 := conv B2 g2 c2 h2
  have he : ((bstr bs).toList == (bstr bs).toList) = true := by simp
  clear h1 h2 conv hl
  go_enter Try.func14, Try.ntmps14
  go_wp2
  go_ret
  exact ⟨rfl, rfl⟩
end Go.Proofs.Ytcpomddkehhkkaa
