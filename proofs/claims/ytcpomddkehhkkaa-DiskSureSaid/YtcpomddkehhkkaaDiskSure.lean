/- DiskSure: what was synced is there, whatever is written behind it elsewhere and however the power fails: for every input the law returns true. No condition. -/
import Derived.Test.YtcpomddkehhkkaaDiskHead
import Derived.Test.YtcpomddkehhkkaaRead
namespace Go.Proofs.Ytcpomddkehhkkaa.diskSure
open Go.ChangeShapes Go.WideShapes Go.ChangeAt Go.RowKit Go.Shelf
set_option linter.unusedVariables false

theorem and_mask (n : Int) (m : Int) (k : Nat) (hk : k < 63) (hm : m = ((2 ^ k - 1 : Nat) : Int)) : bits BinOp.and .i64 n m = n % ((2 ^ k : Nat) : Int) := by
  have hp : 0 < 2 ^ k := Nat.two_pow_pos k
  have hp2 : 2 ^ k < 2 ^ 63 := Nat.pow_lt_pow_right (by decide) hk
  unfold bits
  have e : (BitVec.ofInt IntKind.i64.bits n &&& BitVec.ofInt IntKind.i64.bits m).toNat = (n % ((2 ^ k : Nat) : Int)).toNat := by
    show (BitVec.ofInt 64 n &&& BitVec.ofInt 64 m).toNat = _
    rw [BitVec.toNat_and, BitVec.toNat_ofInt, BitVec.toNat_ofInt]
    have h31 : (m % ((2 ^ 64 : Nat) : Int)).toNat = 2 ^ k - 1 := by
      rw [hm, ← Int.natCast_emod, Int.toNat_natCast, Nat.mod_eq_of_lt]
      exact Nat.lt_of_lt_of_le (Nat.sub_lt hp (by decide)) (Nat.le_trans (Nat.le_of_lt hp2) (by decide))
    rw [h31, Nat.and_two_pow_sub_one_eq_mod]
    have hd : ((2 ^ k : Nat) : Int) ∣ ((2 ^ 64 : Nat) : Int) := Int.natCast_dvd_natCast.2 (Nat.pow_dvd_pow 2 (by omega))
    have h1 := Int.emod_emod_of_dvd n hd
    have h2 : 0 ≤ n % ((2 ^ 64 : Nat) : Int) := Int.emod_nonneg _ (by decide)
    have h3 : 0 ≤ n % ((2 ^ k : Nat) : Int) := Int.emod_nonneg _ (by omega)
    apply Int.ofNat.inj
    show (((n % ((2 ^ 64 : Nat) : Int)).toNat % 2 ^ k : Nat) : Int) = ((n % ((2 ^ k : Nat) : Int)).toNat : Int)
    rw [Int.natCast_emod, Int.toNat_of_nonneg h2, Int.toNat_of_nonneg h3, h1]
  simp only [e]
  have h3 : 0 ≤ n % ((2 ^ k : Nat) : Int) := Int.emod_nonneg _ (by omega)
  have h4 : n % ((2 ^ k : Nat) : Int) < ((2 ^ k : Nat) : Int) := Int.emod_lt_of_pos _ (by omega)
  rw [Int.toNat_of_nonneg h3, IntKind.wrap_i64]
  have : ((2 ^ k : Nat) : Int) < 9223372036854775808 := by
    have := Int.ofNat_lt.2 hp2
    exact this
  omega

theorem and7 (n : Int) : bits BinOp.and .i64 n 7 = n % 8 := and_mask n 7 3 (by decide) rfl

/-- one step of a script, as it lies. -/
def OpAt (w : World) (b o : Nat) : Prop := ∃ (K At Bb Torn : Int) (A : Option Addr) (n c : Nat), w.cell? ⟨b, o, none⟩ = some (.int .i64 K) ∧ w.cell? ⟨b, o + 1, none⟩ = some (.int .i64 At) ∧ w.cell? ⟨b, o + 2, none⟩ = some (.int .u8 Bb) ∧
  w.cell? ⟨b, o + 3, none⟩ = some (.int .i64 Torn) ∧ w.cell? ⟨b, o + 4, none⟩ = some (.slice A n c) ∧ (-9223372036854775808 ≤ At ∧ At ≤ 9223372036854775807) ∧ (0 ≤ Bb ∧ Bb ≤ 255) ∧ (-9223372036854775808 ≤ Torn ∧ Torn ≤ 9223372036854775807)
/-- a script among the arguments -/
def Script (w : World) (A : Option Addr) (n : Nat) : Prop := n ≤ maxLen ∧ ∃ b off, (0 < n → A = some ⟨b, off, none⟩ ∧ b < w.heap.size) ∧ ∀ i, i < n → OpAt w b (off + i * 5)

theorem open_script {H : Type} {enc : TypeId × Value → H} {w : World} {base : Nat} {spare : Nat → Bool} {held : Bool} {A : Option Addr} {n c : Nat} {d : DataW H} {p : List MemPlace}
    (h : DataW.Trod enc Try.prog w base spare held 39 (.slice A n c) d p) : Script w A n := by
  obtain ⟨hm, b, off, hA, hall⟩ := open_rows Try.underlying39 (k := 5) (by kernel_rfl) (by decide) h
  have ho : ∀ i, i < n → OpAt w b (off + i * 5) := by
    intro i hi
    obtain ⟨cs, m, x, hl, hc, htr⟩ := hall i hi
    obtain ⟨xs, m2, _, _, _, hn, hf⟩ := DataW.trod_struct Try.underlying42 htr
    have hn5 : xs.length = 5 := hn
    have hsome : ∀ j, j < 5 → (xs[j]?).isSome = true := fun j hj => by rw [List.getElem?_eq_getElem (by omega)]; rfl
    obtain ⟨K, k1, k2⟩ := int_field (i := 0) Try.underlying3 (by kernel_rfl) (by omega) (hf 0 _ rfl) (hsome 0 (by decide))
    obtain ⟨At, a1, a2⟩ := int_field (i := 1) Try.underlying3 (by kernel_rfl) (by omega) (hf 1 _ rfl) (hsome 1 (by decide))
    obtain ⟨Bb, b1, b2⟩ := int_field (i := 2) Try.underlying5 (by kernel_rfl) (by omega) (hf 2 _ rfl) (hsome 2 (by decide))
    obtain ⟨To, t1, t2⟩ := int_field (i := 3) Try.underlying3 (by kernel_rfl) (by omega) (hf 3 _ rfl) (hsome 3 (by decide))
    obtain ⟨RA, rn, rc, r1, _⟩ := slice_field (i := 4) Try.underlying32 (by kernel_rfl) (by omega) (hf 4 _ rfl) (hsome 4 (by decide))
    exact ⟨K, At, Bb, To, RA, rn, rc, (hc 0 (by decide)).trans k1, (hc 1 (by decide)).trans a1, (hc 2 (by decide)).trans b1, (hc 3 (by decide)).trans t1, (hc 4 (by decide)).trans r1, bounds_i64 a2, bounds_u8 b2, bounds_i64 t2⟩
  refine ⟨hm, b, off, fun hn => ⟨hA hn, ?_⟩, ho⟩
  obtain ⟨K, At, Bb, To, RA, rn, rc, c0, _⟩ := ho 0 hn
  exact World.block_lt_of_cell? w _ c0

/-- the sector of which the law speaks stays what it was. -/
theorem settle_keeps (kn tn a : Nat) (qs : List (Nat × List Nat)) (cs : List (List Nat)) (h : ∀ q ∈ qs, q.1 ≠ a) : ∀ m, m ≤ qs.length → (settleTo kn tn qs m cs).getD a [] = cs.getD a [] := by
  intro m
  induction m with
  | zero => intro _; rfl
  | succ m ih =>
    intro hm
    have ih := ih (by omega)
    simp only [settleTo, settle1]
    have hq : (qs.getD m (0, [])).1 ≠ a := by
      rw [List.getD_eq_getElem?_getD, List.getElem?_eq_getElem (by omega)]
      exact h _ (List.getElem_mem _)
    generalize settleTo kn tn qs m cs = ds at ih
    generalize qs.getD m (0, []) = q at hq
    have hset : ∀ x : List Nat, (ds.set q.1 x).getD a [] = ds.getD a [] := fun x => by simp [List.getElem?_set, hq]
    split
    · rw [hset, ih]
    · split
      · rw [hset, ih]
      · exact ih

/-- what holds of the disk between two steps -/
def Sure (w w0 : World) (a b k : Nat) (wr : World) : Prop :=
  ∃ cs qs fuse down, DiskIs wr w0.heap.size w0.heap.size cs qs fuse down ∧ cs.length = 8 ∧ cs.getD a [] = sector b ∧ (∀ q ∈ qs, q.1 ≠ a) ∧ qs.length ≤ k ∧ fuse ≤ 9223372036854775807 ∧ Below w.heap.size w wr ∧ w0.heap.size ≤ wr.heap.size

theorem Sure.more {w w0 wr : World} {a b k k' : Nat} (h : Sure w w0 a b k wr) (hk : k ≤ k') : Sure w w0 a b k' wr := by
  obtain ⟨cs, qs, fuse, down, h1, h2, h3, h4, h5, h6⟩ := h
  exact ⟨cs, qs, fuse, down, h1, h2, h3, h4, by omega, h6⟩
theorem Sure.grow {w w0 wr w2 : World} {a b k : Nat} (h : Sure w w0 a b k wr) (hb : Below wr.heap.size wr w2) : Sure w w0 a b k w2 := by
  obtain ⟨cs, qs, fuse, down, h1, h2, h3, h4, h5, h6, h7, h8⟩ := h
  exact ⟨cs, qs, fuse, down, h1.below hb, h2, h3, h4, h5, h6, h7.trans (hb.mono h7.size), Nat.le_trans h8 hb.size⟩

/-- a method that leaves the sector alone -/
def Leaves (w w0 : World) (a b k : Nat) (e : Ending) (w' : World) : Prop := ∃ v : Int, e = .returned (.int .i64 v) ∧ Sure w w0 a b k w'
def LeavesT (w w0 : World) (a b k : Nat) (e : Ending) (w' : World) : Prop := e = .returned (.tuple #[]) ∧ Sure w w0 a b k w'

theorem burnt_le {fuse : Int} (h : fuse ≤ 9223372036854775807) : burnt fuse ≤ 9223372036854775807 := by unfold burnt; split <;> omega

theorem sure_write {w w0 wr : World} {a b k : Nat} (hw0 : w.heap.size ≤ w0.heap.size) (hk : k ≤ 1000) (h : Sure w w0 a b k wr) (at_ : Int) (gb c Bb : Nat) (bs : List Nat) (h0 : 0 ≤ at_) (h1 : at_ < 8) (hne : at_ ≠ a)
    (hb : wr.ownsRow Bb 5 1 (.slice (some ⟨gb, 0, none⟩) 64 c) 64 (bcells bs)) (hl : bs.length = 64) :
    Calls Try.prog 10 #[.pointer (some ⟨w0.heap.size, 0, none⟩), .int .i64 at_, .slice (some ⟨gb, 0, none⟩) 64 c] wr (Leaves w w0 a b (k + 1)) := by
  obtain ⟨cs, qs, fuse, down, hd, hcl, ha, hq, hql, hf, hbw, hsz⟩ := h
  cases down with
  | true =>
    refine (write_down wr w0.heap.size w0.heap.size cs qs fuse at_ _ hd).mono ?_
    rintro e w' ⟨rfl, rfl⟩
    exact ⟨40, rfl, cs, qs, fuse, true, hd, hcl, ha, hq, by omega, hf, hbw, hsz⟩
  | false =>
    refine (write_int wr w0.heap.size w0.heap.size cs qs fuse at_ gb c Bb bs hd hf (by omega) h0 (by omega) (by omega) hsz hb hl).mono ?_
    rintro e w' ⟨rfl, hd', hb'⟩
    refine ⟨_, rfl, cs, _, _, _, hd', hcl, ha, ?_, by simp; omega, burnt_le hf, hbw.trans (hb'.mono hw0), Nat.le_trans hsz hb'.size⟩
    intro q hq'
    rcases List.mem_append.1 hq' with h | h
    · exact hq q h
    · rw [List.mem_singleton.1 h]; show at_.toNat ≠ a; omega

theorem sure_sync {w w0 wr : World} {a b k : Nat} (hw0 : w.heap.size ≤ w0.heap.size) (hk : k ≤ 1000) (h : Sure w w0 a b k wr) :
    Calls Try.prog 15 #[.pointer (some ⟨w0.heap.size, 0, none⟩)] wr (Leaves w w0 a b k) := by
  obtain ⟨cs, qs, fuse, down, hd, hcl, ha, hq, hql, hf, hbw, hsz⟩ := h
  cases down with
  | true =>
    refine (sync_down wr w0.heap.size w0.heap.size cs qs fuse hd).mono ?_
    rintro e w' ⟨rfl, rfl⟩
    exact ⟨40, rfl, cs, qs, fuse, true, hd, hcl, ha, hq, hql, hf, hbw, hsz⟩
  | false =>
    refine (sync_up wr w0.heap.size w0.heap.size cs qs fuse hd hf (by omega) (by omega) (by omega) hsz).mono ?_
    rintro e w' ⟨rfl, hd', hb'⟩
    refine ⟨_, rfl, _, _, _, _, hd', ?_, ?_, ?_, ?_, burnt_le hf, hbw.trans (hb'.mono hw0), Nat.le_trans hsz hb'.size⟩
    · unfold synced; split
      · exact hcl
      · rw [settleTo_length]; exact hcl
    · unfold synced; split
      · exact ha
      · rw [settle_keeps _ _ _ _ _ hq _ (Nat.le_refl _)]; exact ha
    · unfold waits; split
      · exact hq
      · intro q h; cases h
    · unfold waits; split
      · exact hql
      · simp

theorem sure_fuse {w w0 wr : World} {a b k : Nat} (hw0 : w.heap.size ≤ w0.heap.size) (h : Sure w w0 a b k wr) (n : Int) (hn : n ≤ 9223372036854775807) :
    Calls Try.prog 16 #[.pointer (some ⟨w0.heap.size, 0, none⟩), .int .i64 n] wr (LeavesT w w0 a b k) := by
  obtain ⟨cs, qs, fuse, down, hd, hcl, ha, hq, hql, hf, hbw, hsz⟩ := h
  cases down with
  | true =>
    refine (fuse_down wr w0.heap.size w0.heap.size cs qs fuse n hd).mono ?_
    rintro e w' ⟨rfl, rfl⟩
    exact ⟨rfl, cs, qs, fuse, true, hd, hcl, ha, hq, hql, hf, hbw, hsz⟩
  | false =>
    refine (fuse_up wr w0.heap.size w0.heap.size cs qs fuse n hd).mono ?_
    rintro e w' ⟨rfl, ⟨f, hf', hd'⟩, hb'⟩
    exact ⟨rfl, cs, qs, f, false, hd', hcl, ha, hq, hql, by omega, hbw.trans (hb'.mono hw0), Nat.le_trans hsz hb'.size⟩

/-- behind a crash nothing waits -/
def Crashed (w w0 : World) (a b : Nat) (e : Ending) (w' : World) : Prop :=
  e = .returned (.tuple #[]) ∧ (∃ cs, DiskIs w' w0.heap.size w0.heap.size cs [] 0 false ∧ cs.length = 8 ∧ cs.getD a [] = sector b) ∧ Below w.heap.size w w' ∧ w0.heap.size ≤ w'.heap.size

theorem sure_crash {w w0 wr : World} {a b k : Nat} (hw0 : w.heap.size ≤ w0.heap.size) (hk : k ≤ 1000) (h : Sure w w0 a b k wr) (keep torn : Int) (h1 : keep ≤ 9223372036854775807) (h2 : torn ≤ 9223372036854775807) :
    Calls Try.prog 12 #[.pointer (some ⟨w0.heap.size, 0, none⟩), .int .i64 keep, .int .i64 torn] wr (Crashed w w0 a b) := by
  obtain ⟨cs, qs, fuse, down, hd, hcl, ha, hq, hql, hf, hbw, hsz⟩ := h
  refine (crash_is wr w0.heap.size w0.heap.size cs qs fuse down keep torn keep.toNat _ (by omega) rfl hd (by omega) (by omega) (by omega) hsz h1 h2).mono ?_
  rintro e w' ⟨rfl, hd', hb'⟩
  exact ⟨rfl, ⟨_, hd', (by rw [settleTo_length]; exact hcl), (by rw [settle_keeps _ _ _ _ _ hq _ (Nat.le_refl _)]; exact ha)⟩, hbw.trans (hb'.mono hw0), Nat.le_trans hsz hb'.size⟩
theorem Crashed.leaves {w w0 w' : World} {a b k : Nat} {e : Ending} (h : Crashed w w0 a b e w') : LeavesT w w0 a b k e w' := by
  obtain ⟨he, ⟨cs, hd, hl, ha⟩, hb, hs⟩ := h
  exact ⟨he, cs, [], 0, false, hd, hl, ha, (fun q h => by cases h), Nat.zero_le _, by decide, hb, hs⟩

set_option maxHeartbeats 2000000 in
theorem walk (at_ b : Int) (A : Option Addr) (n c : Nat) (w : World) (hat : (Lit.int .i64 at_).wf = true) (hb : (Lit.int .u8 b).wf = true) (hs : Script w A n) :
    Calls Try.prog 5 #[.int .i64 at_, .int .u8 b, .slice A n c] w fun e w' => e = .returned (.bool true) ∧ Below w.heap.size w w' := by
  have hb1 := bounds_i64 hat
  have hb2 := bounds_u8 hb
  clear hat hb
  have ha := and7 at_
  obtain ⟨a, hN⟩ : ∃ N : Nat, at_ % 8 = N := ⟨(at_ % 8).toNat, by omega⟩
  have hN8 : a < 8 := by omega
  rw [hN] at ha
  clear hN
  have hmn := hs.1
  unfold maxLen at hmn
  have HSc := Lib.hid hs
  clear hs
  go_enter Try.func5, Try.ntmps5
  go_wp2_with fail
  refine (head_is _).mono ?_
  rintro e w0 ⟨rfl, hb0⟩
  have HB0 := Lib.hid hb0
  clear hb0
  go_wp2_with fail
  refine (new_is _ 8 (by decide) (by decide)).mono ?_
  rintro e w1 ⟨rfl, hd1, hb1⟩
  have HD1 := Lib.hid hd1
  have HB1 := Lib.hid (HB0.out.trans (hb1.mono HB0.out.size))
  have HG := Lib.hid (HB0.out.size)
  have HW1 := Lib.hid hb1.size
  clear hd1 hb1
  go_wp2_with fail
  refine (full_is _ b (by omega)).mono ?_
  rintro e w2 ⟨g2, c2, rfl, ho2, hb2⟩
  have HD2 := Lib.hid (HD1.out.below hb2)
  have HB2 := Lib.hid (HB1.out.trans (hb2.mono HB1.out.size))
  have HS2 := Lib.hid (Nat.le_trans HW1.out hb2.size)
  have HO2 := Lib.hid ho2
  clear ho2 hb2
  go_wp2_with fail
  refine (write_int w2 w0.heap.size w0.heap.size _ [] 0 a g2 c2 _ _ HD2.out (by decide) (by decide) (by omega) (by simp; omega) (by simp) HS2.out HO2.out (sector_length _)).mono ?_
  rintro e w3 ⟨rfl, hd3, hb3⟩
  have HD3 := Lib.hid hd3
  have HB3 := Lib.hid (HB2.out.trans (hb3.mono HG.out))
  have HS3 := Lib.hid (Nat.le_trans HS2.out hb3.size)
  clear hd3 hb3
  go_wp2_with fail
  refine (sync_up w3 w0.heap.size w0.heap.size _ _ 0 HD3.out (by decide) (by simp) (by simp) (by simp) HS3.out).mono ?_
  rintro e w4 ⟨rfl, hd4, hb4⟩
  have HR : Hid (Sure w w0 a b.toNat 0 w4) := by
    refine ⟨_, _, _, _, hd4, ?_, ?_, ?_, ?_, by decide, HB3.out.trans (hb4.mono HG.out), Nat.le_trans HS3.out hb4.size⟩
    · show (settleTo _ 0 _ _ _).length = 8
      rw [settleTo_length]; simp
    · show (settleTo 1 0 [((a : Int).toNat, sector b.toNat)] 1 (List.replicate 8 (sector 0))).getD a [] = sector b.toNat
      simp [settleTo, settle1, hN8]
    · intro q h; cases h
    · exact Nat.le_refl 0
  clear hd4 hb4
  go_wp2_with fail
  go_loopw [8] (fun i wr => ∃ k : Nat, k ≤ n ∧ k ≤ 60 ∧ i = .int .i64 k ∧ Sure w w0 a b.toNat k wr) (fun i _ => 60 - (intOf i).toNat)
  case atStart => exact ⟨0, by omega, by omega, rfl, HR.out⟩
  case round =>
    obtain ⟨k, hk, hk60, rfl, hrel⟩ := hrel
    have HS := Lib.hid hrel
    clear hrel
    by_cases hlt : k < n ∧ k < 60
    · obtain ⟨hlt1, hlt2⟩ := hlt
      obtain ⟨_, bb, off, hA, hall⟩ := HSc.out
      obtain ⟨hAe, hlb⟩ := hA (by omega)
      obtain ⟨K, At, Bb, To, RA, rn, rc, c0, c1, c2, c3, c4, hAt, hBb, hTo⟩ := hall k hlt1
      have hbel : Below w.heap.size w wr := by
        obtain ⟨_, _, _, _, _, _, _, _, _, _, h, _⟩ := HS.out
        exact h
      have d0 := (hbel.cell (p := ⟨bb, off + k * 5, none⟩) hlb).trans c0
      have d1 := (hbel.cell (p := ⟨bb, off + k * 5 + 1, none⟩) hlb).trans c1
      have d2 := (hbel.cell (p := ⟨bb, off + k * 5 + 2, none⟩) hlb).trans c2
      have d3 := (hbel.cell (p := ⟨bb, off + k * 5 + 3, none⟩) hlb).trans c3
      have d4 := (hbel.cell (p := ⟨bb, off + k * 5 + 4, none⟩) hlb).trans c4
      clear c0 c1 c2 c3 c4 hall hA hbel
      subst hAe
      have ha7 := and7 At
      obtain ⟨t, ht⟩ : ∃ t : Int, At % 8 = t := ⟨_, rfl⟩
      have ht0 : 0 ≤ t := by omega
      have ht8 : t < 8 := by omega
      rw [ht] at ha7
      clear ht
      have HSA := fun o => Lib.hid (HS.out.grow ((Below.refl _ wr).alloc (Nat.le_refl _) o))
      go_wp2_with fail
      · have hne : t ≠ (a : Int) := by
          have : (t != (a : Int)) = true := by assumption
          simpa using this
        have b1 : ∀ o1 o2 o3 o4 o5, (wr.alloc (.cells #[o1, o2, o3, o4, o5] 42)).cell? ⟨wr.heap.size, 1, none⟩ = some o2 := fun o1 o2 o3 o4 o5 => World.cell?_alloc_new _ _ _ _
        have b2 : ∀ o1 o2 o3 o4 o5, (wr.alloc (.cells #[o1, o2, o3, o4, o5] 42)).cell? ⟨wr.heap.size, 2, none⟩ = some o3 := fun o1 o2 o3 o4 o5 => World.cell?_alloc_new _ _ _ _
        go_region_law
          (first
            | (go_simp; go_at_call 11; refine (full_is (wr.alloc (.cells #[.int .i64 K, .int .i64 At, .int .u8 Bb, .int .i64 To, .slice RA rn rc] 42)).drew Bb hBb.1).mono ?_; rintro e w5 ⟨g5, c5, rfl, ho5, hb5⟩; have HS5 := Lib.hid ((HSA _).out.grow (below_undrew hb5)); have x1 := (hb5.cell (p := ⟨wr.heap.size, 1, none⟩) (by simp)).trans (b1 _ _ _ _ _); have x2 := (hb5.cell (p := ⟨wr.heap.size, 2, none⟩) (by simp)).trans (b2 _ _ _ _ _))
            | (go_simp; go_at_call 10; refine (sure_write HG.out (by omega) HS5.out t g5 c5 _ _ ht0 ht8 hne ho5 (sector_length _)).mono ?_; rintro e w6 ⟨v6, rfl, hs6⟩))
        all_goals
          have HS6 := Lib.hid hs6
          clear hs6
          go_wp2
          go_roundw
          case rel => exact ⟨k + 1, by omega, by omega, by go_num, HS6.out⟩
          case measure => simp [intOf]; omega
      · go_roundw
        case rel => exact ⟨k + 1, by omega, by omega, by go_num, (HSA _).out.more (by omega)⟩
        case measure => simp [intOf]; omega
      · refine (sure_sync HG.out (by omega) (HSA _).out).mono ?_
        rintro e w5 ⟨v5, rfl, hs5⟩
        have HS5 := Lib.hid hs5
        clear hs5
        go_wp2
        go_roundw
        case rel => exact ⟨k + 1, by omega, by omega, by go_num, HS5.out.more (by omega)⟩
        case measure => simp [intOf]; omega
      · refine (sure_fuse HG.out (HSA _).out At hAt.2).mono ?_
        rintro e w5 ⟨rfl, hs5⟩
        have HS5 := Lib.hid hs5
        clear hs5
        go_wp2
        go_roundw
        case rel => exact ⟨k + 1, by omega, by omega, by go_num, HS5.out.more (by omega)⟩
        case measure => simp [intOf]; omega
      · refine (sure_crash HG.out (by omega) (HSA _).out At To hAt.2 hTo.2).mono ?_
        intro e w5 hs5
        have hl5 := hs5.leaves (k := k)
        obtain ⟨rfl, hs6⟩ := hl5
        have HS5 := Lib.hid hs6
        clear hs5 hs6
        go_wp2
        go_roundw
        case rel => exact ⟨k + 1, by omega, by omega, by go_num, HS5.out.more (by omega)⟩
        case measure => simp [intOf]; omega
      · go_roundw
        case rel => exact ⟨k + 1, by omega, by omega, by go_num, (HSA _).out.more (by omega)⟩
        case measure => simp [intOf]; omega
    · by_cases hlt2 : k < n
      all_goals
        go_wp2_with fail
        refine (sure_crash HG.out (by omega) HS.out 0 0 (by decide) (by decide)).mono ?_
        rintro e w5 ⟨rfl, ⟨cs5, hd5, hl5, ha5⟩, hb5, hs5⟩
        have HD5 := Lib.hid hd5
        have HB5 := Lib.hid hb5
        have HA5 := Lib.hid ha5
        have HL5 := Lib.hid hl5
        clear hd5 hb5 ha5 hl5
        go_wp2_with fail
        refine (read_int w5 w0.heap.size w0.heap.size cs5 0 a HD5.out (by omega) (by rw [HL5.out]; omega)).mono ?_
        rintro e w6 ⟨g6, c6, rfl, ⟨ho6, _⟩, hb6⟩
        have HB6 := Lib.hid (HB5.out.trans (hb6.mono HB5.out.size))
        have HO6 := Lib.hid ho6
        clear ho6 hb6
        go_wp2_with fail
        refine (full_is _ b (by omega)).mono ?_
        rintro e w7 ⟨g7, c7, rfl, ho7, hb7⟩
        have HB7 := Lib.hid (HB6.out.trans (hb7.mono HB6.out.size))
        have HO6b : Hid (w7.ownsRow w5.heap.size 5 1 (.slice (some ⟨g6, 0, none⟩) 64 c6) 64 (bcells (sector b.toNat))) := by
          have := own_kept HO6.out (Kept.of_below (S := fun _ => False) hb7) (fun _ _ h => h)
          rw [Int.toNat_natCast, HA5.out] at this
          exact this
        have HO7 := Lib.hid ho7
        clear ho7 hb7
        go_wp2_with fail
        refine (same_is w7 _ _ g6 g7 c6 c7 64 (sector b.toNat) HO6b.out HO7.out).mono ?_
        rintro e w8 ⟨rfl, rfl⟩
        go_wp2
        go_ret
        exact ⟨rfl, HB7.out⟩


theorem own : ownKnob Try.prog.godebug = none := by kernel_rfl
theorem laidOut : laidOutB Try.prog = true := by kernel_rfl

set_option maxRecDepth 100000 in
theorem lifted (os : Os) (started : os.Started) (H : Type) (enc : TypeId × Value → H) :
    ReturnsInHanded {} Try.checked os 5 .any (Rows.diskSureSpec.pre6 enc Try.prog Try.f5 Rows.diskSureRow.domain false) (Rows.diskSureSpec.post enc Try.prog Try.f5 false true false false) := by
  refine returnsInHanded_of_change (C := Try.checked) own started (by kernel_rfl) Try.func5
    (ChangeSpec.witness6 (enc := enc) (C := Try.checked) false ⟨#[], #[.int .i64 0, .int .u8 0, .slice none 0 0], []⟩ 8 (by kernel_rfl) (by kernel_rfl) (by kernel_rfl) (by kernel_rfl)) ?_
  intro W base args ds gs before hval0 hW hcnd _
  have hval : ∀ (j : Nat) t v, Try.f5.params[j]? = some t → args[j]? = some v → Value.okWide Try.prog W .any base t v := hval0
  have hW' := hW
  obtain ⟨p, q, hA0, hV, rfl, hfz, hnd⟩ := hW
  have hA : DataW.TrodAll enc Try.prog W 0 (fun _ => true) true Try.f5.params.toList args.toList ds p := hA0
  rw [Try.params5] at hA hval
  obtain ⟨v0, vs0, d0, ds0, p0, q0, hargs, rfl, rfl, h0, r0⟩ := trodAll_cons hA
  obtain ⟨v1, vs1, d1, ds1, p1, q1, rfl, rfl, rfl, h1, r1⟩ := trodAll_cons r0
  obtain ⟨v2, vs2, d2, ds2, p2, q2, rfl, rfl, rfl, h2, r2⟩ := trodAll_cons r1
  obtain ⟨rfl, rfl, rfl⟩ := trodAll_nil r2
  obtain rfl : args = #[v0, v1, v2] := by cases args; simp_all
  obtain ⟨rfl, rfl⟩ := trodVars_none hV
  have k0 := h0
  have lt0 : ∀ x ∈ p0, x.block < W.heap.size := by obtain ⟨m, hm⟩ := k0; exact DataW.trod_lt m _ _ _ hm
  obtain ⟨a0, rfl, rfl, rfl, w0⟩ := open_int Try.underlying3 (hval 0 3 v0 rfl rfl) h0
  have k1 := h1
  have lt1 : ∀ x ∈ p1, x.block < W.heap.size := by obtain ⟨m, hm⟩ := k1; exact DataW.trod_lt m _ _ _ hm
  obtain ⟨a1, rfl, rfl, rfl, w1⟩ := open_int Try.underlying5 (hval 1 5 v1 rfl rfl) h1
  have k2 := h2
  have lt2 : ∀ x ∈ p2, x.block < W.heap.size := by obtain ⟨m, hm⟩ := k2; exact DataW.trod_lt m _ _ _ hm
  obtain ⟨A2, n2, c2, rfl⟩ := okWide_slice Try.underlying39 (hval 2 39 v2 rfl rfl)
  have w2 := open_script h2
  clear hA0 hval0
  refine (walk a0 a1 A2 n2 c2 W w0 w1 w2).mono fun e W' ⟨he, bel⟩ => ?_
  subst he
  exact ⟨_, rfl, _, _, _, [], _, [], hW', trodAll_mk1 (shut_bool Try.underlying4 _), (trodAll_cons_mk (Below.trod laidOut (by kernel_rfl) (of_decide_eq_true (by kernel_rfl)) k0 bel lt0) (trodAll_cons_mk (Below.trod laidOut (by kernel_rfl) (of_decide_eq_true (by kernel_rfl)) k1 bel lt1) (trodAll_cons_mk (Below.trod laidOut (by kernel_rfl) (of_decide_eq_true (by kernel_rfl)) k2 bel lt2) trodAll_mk0))), rfl, bel.frame _, fun h => by cases h⟩

theorem over : Rows.diskSureRow.holds Try.pinned (OpenSpec.ofChange Rows.diskSureSpec) :=
  OpenClaim.holds_of_wide 5 Try.f5 rfl rfl rfl rfl rfl rfl rfl ⟨rfl, rfl, rfl, rfl, rfl⟩ rfl rfl rfl rfl rfl (by kernel_rfl) Try.func5 (by kernel_rfl)
    (of_decide_eq_true (by kernel_rfl)) (by unfold Func.isWrapper; first | (rw [if_pos (by decide +kernel)]; kernel_rfl) | (rw [if_neg (by decide +kernel)]; exact ⟨rfl, rfl⟩))
    (fun os started H enc _ => lifted os started H enc)

theorem proved : Rows.DiskSureSaid := over
end Go.Proofs.Ytcpomddkehhkkaa.diskSure
