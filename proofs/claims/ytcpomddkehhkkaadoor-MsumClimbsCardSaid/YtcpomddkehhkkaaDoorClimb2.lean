/- What stands beside the way from a key to the root: the walk of Beside. -/
import Derived.Test.YtcpomddkehhkkaaDoorClimb0
import Derived.Test.YtcpomddkehhkkaaDoorSome4
import Derived.Test.YtcpomddkehhkkaaDoorSwap0
import Derived.Test.YtcpomddkehhkkaaDoorNdEq
namespace Go.Proofs.YtcpomddkehhkkaaDoor
set_option linter.unusedVariables false
set_option linter.unusedSimpArgs false
open Go.ChangeShapes Go.WideShapes Go.ChangeAt Go.RowKit Go.Maps

theorem enters_beside : ∀ args w, (callFunc 51 args).run Tryd.prog w = .ok (.enter 51 args) w := enters_of Tryd.func51 (by kernel_rfl) rfl
theorem info_node : (Tryd.prog.info? 29).map (fun i => (i.zero, i.size, i.bytes)) = some (some (.agg (List.replicate 32 (Value.int .u8 0) ++ [Value.int .u64 0]).toArray), 33, 40) := by kernel_rfl
theorem made_nodes : ∃ Z : Array Value, (∀ w, (Instr.makeSlice 66 (.int .i64 256) (.int .i64 256)).run Tryd.prog w = .ok (.slice (some ⟨w.heap.size, 0, none⟩) 256 256) (w.alloc (.cells Z 29))) ∧ Z.size = 8448 := by
  obtain ⟨i, h, h0, h1, h2⟩ := info_parts info_node
  refine ⟨madeCells (Value.agg (List.replicate 32 (Value.int .u8 0) ++ [Value.int .u64 0]).toArray).cells 8448, fun w => ?_, size_madeCells _ _⟩
  have := run_make (P := Tryd.prog) w 66 29 i _ Tryd.underlying66 h h0 .i64 .i64 256 256 (by decide) (by decide) (by rw [h2]; decide) (by decide)
  rw [h1] at this
  exact this
theorem at_node (b n c k : Nat) (hk : k < n) (w : World) : (Instr.indexAt 66 (.slice (some ⟨b, 0, none⟩) n c) (.int .i64 (k : Int))).run Tryd.prog w = .ok (.pointer (some ⟨b, k * 33, none⟩)) w := by
  have hu : Tryd.prog.underlying 66 = some (.slice (Tryd.prog.elem 66)) := by kernel_rfl
  have he : Tryd.prog.elem 66 = 29 := by kernel_rfl
  have hz : ∀ w, (sizeOf 29).run Tryd.prog w = .ok 33 w := fun w => by kernel_rfl
  rw [run_indexAt_slice w 66 ⟨b, 0, none⟩ n c .i64 (k : Int) hu, if_pos ⟨by omega, by omega⟩, he, hz]
  simp only [Result.andThen, Int.toNat_natCast, Addr.add_mid, Nat.zero_add]
theorem node_put {w : World} {g : Nat} {t : TypeId} {cs : Array Value} (h : Has w g t cs) (o : Nat) (n : Nd) (hn : IsHash n.h) (ho : o + 33 ≤ cs.size) :
    ∃ cs', Has (w.setCells g o (ndV n)) g t cs' ∧ cs'.size = cs.size ∧ (∀ i, i < o ∨ o + 33 ≤ i → cs'[i]? = cs[i]?) ∧ NodeAt cs' o n ∧ Kept (· = g) w (w.setCells g o (ndV n)) := by
  obtain ⟨cur, h1, h2, h3, h4⟩ := Has.setCells (ndV n) o w cs h
  have hl := ndV_len hn
  refine ⟨cur, h1, h2, fun i hi => ?_, fun j v hv => ?_, h4⟩
  · by_cases hlt : i < cs.size
    · rw [h3 i hlt, if_neg (by rw [hl]; omega)]
    · rw [Array.getElem?_eq_none (by omega), Array.getElem?_eq_none (by omega)]
  · have hj := (List.getElem?_eq_some_iff.1 hv).1
    change j < (ndV n).length at hj
    rw [hl] at hj
    rw [h3 _ (by omega), if_pos (by rw [hl]; omega), Nat.add_sub_cancel_left]
    exact hv
/-- nodes in a row, from a height on. -/
def OutAt (w : World) (B k : Nat) (f : Nat → Nd) : Prop := ∃ cs, Has w B 29 cs ∧ cs.size = 8448 ∧ ∀ h, k ≤ h → h < 256 → NodeAt cs (h * 33) (f h)
section
variable {w w' : World} {B k : Nat} {f : Nat → Nd}
theorem OutAt.kept {S : Nat → Prop} (h : OutAt w B k f) (hk : Kept S w w') (hs : ¬ S B) : OutAt w' B k f := by
  obtain ⟨cs, h1, h2, h3⟩ := h
  exact ⟨cs, h1.kept hk hs, h2, h3⟩
theorem OutAt.there (h : OutAt w B k f) (i : Nat) (hi : i < 256) : w.there B (i * 33) 33 := by
  obtain ⟨cs, h1, h2, h3⟩ := h
  exact h1.there _ _ (by omega)
theorem OutAt.range (h : OutAt w B k f) (i : Nat) (h1 : k ≤ i) (h2 : i < 256) : w.rangeAt B (i * 33) (ndV (f i)) := by
  obtain ⟨cs, h3, h4, h5⟩ := h
  exact nodeAt_range h3 (h5 i h1 h2)
theorem OutAt.put (h : OutAt w B (k + 1) f) (hk : k < 256) (hf : ∀ i, IsHash (f i).h) : OutAt (w.setCells B (k * 33) (ndV (f k))) B k f ∧ Kept (· = B) w (w.setCells B (k * 33) (ndV (f k))) := by
  obtain ⟨cs, h1, h2, h3⟩ := h
  obtain ⟨cs', p1, p2, p3, p4, p5⟩ := node_put h1 (k * 33) (f k) (hf k) (by omega)
  refine ⟨⟨cs', p1, by rw [p2, h2], fun i hi1 hi2 => ?_⟩, p5⟩
  rcases Nat.lt_or_ge k i with e | e
  · intro j v hv
    have hj : j < 33 := by
      have h1 := (List.getElem?_eq_some_iff.1 hv).1
      change j < (ndV (f i)).length at h1
      rwa [ndV_len (hf i)] at h1
    rw [p3 _ (.inr (by omega))]
    exact h3 i (by omega) hi2 j v hv
  · have e' : i = k := by omega
    rw [e']; exact p4
end
/-- the number in the box that a value points at. -/
def cellI (w : World) : Value → Int
  | .pointer (some a) => match w.cell? a with
    | some (.int _ i) => i
    | _ => 0
  | _ => 0
theorem cellI_is {w : World} {a : Addr} {k : IntKind} {i : Int} (h : w.cell? a = some (.int k i)) : cellI w (.pointer (some a)) = i := by
  simp only [cellI, h]
/-- the walk's world: the keys that are left, the height in its box, the nodes that are done. -/
structure BesW (K s0 : List Wd) (S : Nat → Prop) (g m : Nat) (es : List Ent) (T : List Lf) (key : List Nat) (ks : List (List Nat)) (w1 : World) (B : Nat) (hI : Int) (a : Option Addr) (n c Bh : Nat) (wr : World) : Prop where
  keys : KeysAt w1 a n (ownK ks key (255 - hI).toNat)
  cap : n ≤ c
  n256 : n ≤ 256
  fg : FarK a g
  fB : FarK a B
  top : w1.heap.size ≤ Bh
  box : Has wr Bh 3 #[.int .i64 hI]
  out : OutAt wr B (hI + 1).toNat (fun h => partNd K s0 h (besideT T key h))
  tree : TreeAt K s0 S wr g m es T
  kept : Kept (fun j => j = g ∨ j = B) w1 wr
section
variable {w : World} {a : Option Addr} {n : Nat} {ks : List (List Nat)}
theorem KeysAt.lo2 (h : KeysAt w a n ks) (c p : Nat) (hc : n ≤ c) (hp : p ≤ n) (g B : Nat) (hg : FarK a g) (hB : FarK a B) :
    ∃ a1 c1, (∀ w', (Instr.slice 78 (.slice a n c) none (some (.int .i64 (p : Int))) none).run Tryd.prog w' = .ok (.slice a1 p c1) w') ∧ KeysAt w a1 p (ks.take p) ∧ p ≤ c1 ∧ FarK a1 g ∧ FarK a1 B := by
  obtain ⟨a1, c1, r1, k1, h1, f1⟩ := h.lo c p hc hp g hg
  obtain ⟨a2, c2, r2, _, _, f2⟩ := h.lo c p hc hp B hB
  have e := (r1 w).symm.trans (r2 w)
  injection e with e
  injection e with e
  exact ⟨a1, c1, r1, k1, h1, f1, by rw [e]; exact f2⟩
theorem KeysAt.hi2 (h : KeysAt w a n ks) (c p : Nat) (hc : n ≤ c) (hp : p ≤ n) (g B : Nat) (hg : FarK a g) (hB : FarK a B) :
    ∃ a1 c1, (∀ w', (Instr.slice 78 (.slice a n c) (some (.int .i64 (p : Int))) none none).run Tryd.prog w' = .ok (.slice a1 (n - p) c1) w') ∧ KeysAt w a1 (n - p) (ks.drop p) ∧ n - p ≤ c1 ∧ FarK a1 g ∧ FarK a1 B := by
  obtain ⟨a1, c1, r1, k1, h1, f1⟩ := h.hi c p hc hp g hg
  obtain ⟨a2, c2, r2, _, _, f2⟩ := h.hi c p hc hp B hB
  have e := (r1 w).symm.trans (r2 w)
  injection e with e
  injection e with e
  exact ⟨a1, c1, r1, k1, h1, f1, by rw [e]; exact f2⟩
end
section
variable (K s0 : List Wd) (S : Nat → Prop) (g m : Nat) (es : List Ent) (T : List Lf) (hlow : 2 + 1 ≤ g)
include hlow
set_option maxRecDepth 100000 in
set_option maxHeartbeats 8000000 in
theorem beside_is (w : World) (hT : Tabs K s0 w) (htr : TreeAt K s0 S w g m es T) (key : List Nat) (hkey : IsHash key) :
    Calls Tryd.prog 30 #[.pointer (some ⟨g, 0, none⟩), arr key] w fun e w' => ∃ B, e = .returned (.slice (some ⟨B, 0, none⟩) 256 256) ∧ w.heap.size ≤ B ∧ OutAt w' B 0 (fun h => partNd K s0 h (besideT T key h)) ∧ TreeAt K s0 S w' g m es T ∧ Kept (· = g) w w' := by
  obtain ⟨Z, hmk, hZs⟩ := made_nodes
  unfold arr
  obtain ⟨CK, hCK⟩ : ∃ C, C = (bcells key).toArray := ⟨_, rfl⟩
  rw [← hCK]
  have hcks : CK.size = 32 := by rw [hCK, List.size_toArray, bcells_length, hkey.1]
  have b3 := (Has.new w 27 CK).alloc (.cells Z 29)
  have b5 := Has.new (w.alloc (.cells CK 27)) 29 Z
  have s1 : ∀ (x : World) o, (x.alloc o).heap.size = x.heap.size + 1 := fun x o => by simp
  rw [s1] at b5
  have hk0 : Kept (fun _ => False) w ((w.alloc (.cells CK 27)).alloc (.cells Z 29)) := ((Kept.refl _ _).alloc _).alloc _
  have hsz0 : ((w.alloc (.cells CK 27)).alloc (.cells Z 29)).heap.size = w.heap.size + 2 := by rw [s1, s1]
  have hmk0 := hmk (w.alloc (.cells CK 27))
  rw [s1] at hmk0
  have hglt : g < w.heap.size := by obtain ⟨cs, hf⟩ := htr.frame; exact hf.obj.lt
  have HT := Lib.hid hT
  have HTR := Lib.hid htr
  have HKEY := Lib.hid hkey
  have HB3 := Lib.hid b3
  have HB5 := Lib.hid b5
  have HK0 := Lib.hid hk0
  have HSZ0 := Lib.hid hsz0
  have HGL := Lib.hid hglt
  have HZS := Lib.hid hZs
  have ECK := Lib.hid hCK
  have SZC := Lib.hid (show (Tryd.prog.info? 27).map (·.size) = some CK.size by rw [hcks]; kernel_rfl)
  have HLOW := Lib.hid hlow
  clear hT htr hkey b3 b5 hk0 hsz0 hglt hZs hCK hcks s1 hmk hlow
  go_enter Tryd.func30, Tryd.ntmps30
  go_upto_region 4 with (fail)
  clear hmk0
  generalize (w.alloc (.cells CK 27)).alloc (.cells Z 29) = W0 at HB3 HB5 HK0 HSZ0 ⊢
  obtain ⟨B, hB⟩ : ∃ B, B = w.heap.size + 1 := ⟨_, rfl⟩
  rw [← hB] at HB5 ⊢
  obtain ⟨Bk, hBk⟩ : ∃ B, B = w.heap.size := ⟨_, rfl⟩
  rw [← hBk] at HB3 ⊢
  have EB := Lib.hid (And.intro hB hBk)
  have htr0 : TreeAt K s0 S W0 g m es T := HTR.out.kept HK0.out (fun _ _ _ h => h)
  have hkeys := keysT_is K s0 S W0 htr0
  have HKEYS := Lib.hid hkeys
  have HTR0 := Lib.hid htr0
  clear hB hBk htr0 hkeys
  go_wp2_with fail
  refine HKEYS.out.mono ?_
  rintro _ w1 ⟨a, n, c, ks, rfl, hkt, hka, hnc, hn, hA, hb1⟩
  have hglt := HGL.out
  have hw0 := HSZ0.out
  have heb := EB.out
  have hw1 := hb1.size
  have hk1 : Kept (fun _ => False) W0 w1 := Kept.of_below hb1
  have hsorted := hkt.sorted
  have hbes : BesW K s0 S g m es T key ks w1 B 255 a n c w1.heap.size (w1.alloc (.cells #[.int .i64 255] 3)) := by
    have hk2 : Kept (fun _ => False) w1 (w1.alloc (.cells #[.int .i64 255] 3)) := (Kept.refl _ _).alloc _
    refine ⟨hka, hnc, hn, fun A hA' e => by have h1 := hA A hA'; omega, fun A hA' e => by have h1 := hA A hA'; omega, Nat.le_refl _, Has.new _ _ _, ?_, (HTR0.out.kept hk1 (fun _ _ _ h => h)).kept hk2 (fun _ _ _ h => h), hk2.mono (fun _ _ h => h.elim)⟩
    exact ⟨Z, (HB5.out.kept hk1 (fun h => h)).kept hk2 (fun h => h), HZS.out, fun h h1 h2 => by have h1' : (256 : Nat) ≤ h := h1; omega⟩
  have HBES := Lib.hid hbes
  have HKT := Lib.hid hkt
  have HK1 := Lib.hid (show Kept (· = g) w w1 from (HK0.out.trans hk1).mono (fun _ _ h => h.elim))
  have HBX := Lib.hid (show Has w1 Bk 27 CK from HB3.out.kept hk1 (fun h => h))
  have HW1 := Lib.hid (show B < w1.heap.size ∧ g < B ∧ Bk < B ∧ g < Bk by omega)
  have HSO := Lib.hid hsorted
  have HT1 := Lib.hid (show Tabs K s0 w1 from (HT.out.kept HK0.out (fun _ h => h.elim)).kept hk1 (fun _ h => h.elim))
  clear hkt hka hnc hn hA hb1 hglt hw0 heb hw1 hk1 hsorted hbes HKEYS
  have hmf : ∀ (fn : Fn) (first cap : Array Value) (w : World), (Instr.makeFunc fn first cap).run Tryd.prog w = .ok (.func fn first cap) w := fun _ _ _ _ => rfl
  go_wp2_with fail
  go_loopw [6, 7] (fun kv bv wr => ∃ (hI : Int) (a : Option Addr) (n c Bh : Nat), kv = .slice a n c ∧ bv = .pointer (some ⟨Bh, 0, none⟩) ∧ -1 ≤ hI ∧ hI ≤ 255 ∧ BesW K s0 S g m es T key ks w1 B hI a n c Bh wr) (fun _ bv wr => (cellI wr bv + 1).toNat)
  case atStart => exact ⟨255, a, n, c, w1.heap.size, rfl, rfl, by omega, by omega, HBES.out⟩
  case round =>
    clear HBES
    obtain ⟨hI, a, n, c, Bh, rfl, rfl, hi1, hi2, hbw⟩ := hrel
    have HBW := Lib.hid hbw
    have hbx : wr.cell? ⟨Bh, 0, none⟩ = some (.int .i64 hI) := hbw.box.cell_is rfl
    clear hbw
    by_cases hi0 : 0 ≤ hI
    · obtain ⟨h, rfl⟩ : ∃ h : Nat, hI = (h : Int) := ⟨hI.toNat, by omega⟩
      have hh : h < 256 := by omega
      have ed : (255 - (h : Int)).toNat = 255 - h := by omega
      have hka := HBW.out.keys
      rw [ed] at hka
      have hmem : ∀ k ∈ ownK ks key (255 - h), k ∈ ks := ownK_mem _
      have hso : Sorted (ownK ks key (255 - h)) := ownK_sorted HSO.out _
      have hco : Coh (ownK ks key (255 - h)) (h + 1) := by
        have := ownK_coh (ks := ks) (key := key) (255 - h) (by omega)
        rwa [show 256 - (255 - h) = h + 1 by omega] at this
      have hkr : KeysAt wr a n (ownK ks key (255 - h)) := hka.kept HBW.out.kept (fun b o e e' => e'.elim (HBW.out.fg _ e) (HBW.out.fB _ e))
      have hbs := bsearch_is 51 (.pointer (some ⟨Bh, 0, none⟩)) wr h a n c (ownK ks key (255 - h)) (by have := HBW.out.n256; omega) hkr enters_beside
        (fun W k hW hk => turn_beside W k hk Bh h hh (cell_held (Kept.of_below (S := fun _ => False) hW) (HBW.out.box.cell_is rfl) (fun h => h)))
        (fun i j x y hi hj hij => sorted_mono hso hka.hash hh hco hi hj hij)
      have HBS := Lib.hid hbs
      have HKA := Lib.hid hka
      have HSO2 := Lib.hid hso
      have HCO := Lib.hid hco
      clear hka hmem hso hco hkr hbs ed hi0 hi1 hi2
      go_wp2_with fail
      refine HBS.out.mono ?_
      rintro _ w2 ⟨p, pb, rfl, hpn, hp0, hp1, hb2⟩
      obtain ⟨e0, e1⟩ := split_at hp0 hp1
      obtain ⟨a1, c1, hcut1, hka1, hc1, hfa1, hfb1⟩ := HKA.out.lo2 c p HBW.out.cap hpn g B HBW.out.fg HBW.out.fB
      obtain ⟨a2, c2, hcut2, hka2, hc2, hfa2, hfb2⟩ := HKA.out.hi2 c p HBW.out.cap hpn g B HBW.out.fg HBW.out.fB
      have HE := Lib.hid (And.intro e0 e1)
      have HP := Lib.hid hpn
      have HKA1 := Lib.hid (And.intro hka1 (And.intro hc1 (And.intro hfa1 hfb1)))
      have HKA2 := Lib.hid (And.intro hka2 (And.intro hc2 (And.intro hfa2 hfb2)))
      have HB2 := Lib.hid hb2
      clear hpn hp0 hp1 hb2 e0 e1 hka1 hc1 hfa1 hfb1 hka2 hc2 hfa2 hfb2 HBS hbx
      go_upto_region 9 with (fail)
      go_region
      have hb2 : Below wr.heap.size wr w2.drew := HB2.out.drew
      clear hcut1 hcut2 HB2
      generalize w2.drew = V at hb2 ⊢
      have hbx : V.cell? ⟨Bh, 0, none⟩ = some (.int .i64 (h : Int)) := (HBW.out.box.below hb2 HBW.out.box.lt).cell_is rfl
      have hkw : Kept (fun j => j = g ∨ j = B) w1 V := HBW.out.kept.trans ((Kept.of_below (S := fun _ => False) hb2).mono (fun _ _ h => h.elim))
      have hck : Has V Bk 27 CK := HBX.out.kept hkw (by have := HW1.out; omega)
      have hbit := bit_in key (h : Int) V HKEY.out.1 (by omega) (by omega)
      unfold arr at hbit
      rw [← ECK.out, Int.toNat_natCast] at hbit
      obtain ⟨bt, hbt⟩ : ∃ b : Nat, b = bitAt key h := ⟨_, rfl⟩
      rw [← hbt] at hbit
      have hb2' : bt < 2 := by rw [hbt]; exact bitAt_lt key h
      have HBT := Lib.hid hbt
      have HBIT := Lib.hid hbit
      have HCK := Lib.hid hck
      have HVB := Lib.hid hb2
      clear hbit hck hkw hbt hb2
      go_wp2_with (refine wpList_load_row rfl 27 (.tmp 3) rfl Bk rfl 27 CK (0, 0) _ HCK.out Tryd.underlying27 rfl SZC.out ?_)
      refine HBIT.out.mono ?_
      rintro _ W3 ⟨rfl, e3⟩
      have hb3 : Below wr.heap.size wr W3 := by rw [e3]; exact HVB.out.alloc HVB.out.size _
      have HB3W := Lib.hid hb3
      clear e3 hb3 hbx HVB HCK HBIT
      rcases (by omega : bt = 0 ∨ bt = 1) with h0 | h0
      · subst h0
        have hown : ownK ks key (256 - h) = (ownK ks key (255 - h)).take p := by
          rw [show 256 - h = (255 - h) + 1 by omega]
          show (ownK ks key (255 - h)).filter _ = _
          rw [show 255 - (255 - h) = h by omega, ← HBT.out]
          exact HE.out.1
        have hbes : besK ks key h = (ownK ks key (255 - h)).drop p := by
          unfold besK
          rw [← HBT.out]
          exact HE.out.2
        have hvw : Kept (fun j => j = g ∨ j = B) w1 W3.drew := (HBW.out.kept.trans ((Kept.of_below (S := fun _ => False) HB3W.out).mono (fun _ _ h => h.elim))).drew
        have hvr : Kept (fun _ => False) wr W3.drew := (Kept.of_below (S := fun _ => False) HB3W.out).drew
        have htr3 : TreeAt K s0 S W3.drew g m es T := HBW.out.tree.kept hvr (fun _ _ _ h => h)
        have hout3 := HBW.out.out.kept hvr (fun h => h)
        rw [show ((h : Int) + 1).toNat = h + 1 by omega] at hout3
        have hbox3 : Has W3.drew Bh 3 #[.int .i64 (h : Int)] := HBW.out.box.kept hvr (fun h => h)
        have hT3 : Tabs K s0 W3.drew := HT1.out.kept hvw (fun k e => by have h1 := HW1.out; have h2 := HLOW.out; have h3 := HT1.out.low; omega)
        have hkw3 : KeysAt W3.drew a2 (n - p) (besK ks key h) := by
          rw [hbes]
          exact HKA2.out.1.kept hvw (fun b o e e' => e'.elim (HKA2.out.2.2.1 _ e) (HKA2.out.2.2.2 _ e))
        have hpt := part_is K s0 S g m es T HLOW.out (leafAt T) (leafAt_some T) h (by omega) W3.drew hT3 htr3 a2 (n - p) c2 (besK ks key h) hkw3 HKA2.out.2.1 (by have := HBW.out.n256; have := HP.out; omega) HKA2.out.2.2.1 (by rw [hbes]; first | exact HSO2.out.take p | exact HSO2.out.drop p) (HCO.out.less (fun k hk => (List.mem_filter.1 hk).1) (b := 1 - bitAt key h) (fun k hk => of_decide_eq_true (List.mem_filter.1 hk).2)) (fun k hk => HKT.out.find k (ownK_mem _ k (List.mem_filter.1 hk).1))
        rw [bes_part htr3.keyed HKT.out K s0 h hh] at hpt
        obtain ⟨LN, hLN⟩ : ∃ L, L = ndV (partNd K s0 h (besideT T key h)) := ⟨_, rfl⟩
        have hln : LN.length = 33 := by rw [hLN]; exact ndV_len (part_hash K s0 HT1.out.len _ _)
        have hpt2 : Calls Tryd.prog 48 #[.pointer (some ⟨g, 0, none⟩), .slice a2 (n - p) c2, .int .i64 (h : Int)] W3.drew fun e v1 => e = .returned (.agg LN.toArray) ∧ Has v1 Bh 3 #[.int .i64 (h : Int)] ∧ OutAt v1 B (h + 1) (fun h => partNd K s0 h (besideT T key h)) ∧ BesW K s0 S g m es T key ks w1 B ((h : Int) - 1) a1 p c1 (v1.setCells B (h * 33) LN).heap.size ((v1.setCells B (h * 33) LN).alloc (.cells #[.int .i64 ((h : Int) - 1)] 3)) ∧ (v1.setCells B (h * 33) LN).cell? ⟨Bh, 0, none⟩ = some (.int .i64 (h : Int)) ∧ (v1.setCells B (h * 33) LN).there B (h * 33) 33 := by
          refine hpt.mono fun e v1 q => ?_
          have hg1 := HW1.out
          have htop := HBW.out.top
          have o1 := hout3.kept q.2.2 (by show ¬ B = g; omega)
          have b1 : Has v1 Bh 3 #[.int .i64 (h : Int)] := hbox3.kept q.2.2 (by show ¬ Bh = g; omega)
          obtain ⟨o2, k2⟩ := o1.put hh (fun _ => part_hash K s0 HT1.out.len _ _)
          obtain ⟨f0, hf0⟩ : ∃ f : Nat → Nd, f = fun h => partNd K s0 h (besideT T key h) := ⟨_, rfl⟩
          have e0 : ndV ((fun h => partNd K s0 h (besideT T key h)) h) = LN := hLN.symm
          rw [e0] at o2 k2
          have t2 : TreeAt K s0 S (v1.setCells B (h * 33) LN) g m es T := by
            obtain ⟨cs, hf⟩ := q.2.1.frame
            exact HTR.out.framed ((HK1.out.step (hvw.trans (q.2.2.mono (fun _ _ e => .inl e))) (fun k e => by have := EB.out; omega)).step k2 (fun k e => by have e' : k = B := e; have := EB.out; omega)) (cs := cs) ⟨hf.obj.kept k2 (by omega), hf.size, hf.lock, hf.lv, hf.sm, hf.once⟩
          have k3 : Kept (fun _ => False) (v1.setCells B (h * 33) LN) ((v1.setCells B (h * 33) LN).alloc (.cells #[.int .i64 ((h : Int) - 1)] 3)) := (Kept.refl _ _).alloc _
          have kw : Kept (fun j => j = g ∨ j = B) w1 (v1.setCells B (h * 33) LN) := (hvw.trans (q.2.2.mono (fun _ _ e => .inl e))).trans (k2.mono (fun _ _ e => .inr e))
          refine ⟨by rw [q.1, hLN], b1, o1, ⟨?_, HKA1.out.2.1, by have := HBW.out.n256; have := HP.out; omega, HKA1.out.2.2.1, HKA1.out.2.2.2, kw.size, Has.new _ _ _, ?_, t2.kept k3 (fun _ _ _ h => h), kw.trans (k3.mono (fun _ _ h => h.elim))⟩, (b1.kept k2 (by show ¬ Bh = B; omega)).cell_is rfl, o2.there h hh⟩
          · rw [show (255 - ((h : Int) - 1)).toNat = 256 - h by omega, hown]
            exact HKA1.out.1
          · rw [show ((h : Int) - 1 + 1).toNat = h by omega]
            exact o2.kept k3 (fun h => h)
        have hS0 : W3.cell? ⟨Bh, 0, none⟩ = some (.int .i64 (h : Int)) ∧ W3.there B (h * 33) 33 := ⟨hbox3.cell_is rfl, hout3.there h hh⟩
        have SZN := Lib.hid (show (Tryd.prog.info? 29).map (·.size) = some LN.toArray.size by rw [List.size_toArray, hln]; kernel_rfl)
        have ONEN := Lib.hid (show LN.toArray.all (·.oneCell') = true by rw [hLN]; exact ndV_one _)
        have SNN := Lib.hid (show LN.toArray.size = 33 by rw [List.size_toArray, hln])
        have HPT := Lib.hid hpt2
        have hat := at_node B 256 256 h hh
        have hq1 : wrap64 ((h : Int) - 1) = (h : Int) - 1 := by unfold wrap64; omega
        clear hvw hvr htr3 hout3 hbox3 hT3 hkw3 hpt hpt2 hln hLN hown hbes
        go_upto_region 12 with (fail)
        refine wp_region_noPanic ?_
        refine wp_region_held_drew (S := (fun v => v.cell? ⟨Bh, 0, none⟩ = some (.int .i64 (h : Int)) ∧ v.there B (h * 33) 33)) (by kernel_rfl) hS0 (fun hH0 => ?_)
        refine wpAnyH_take (i := 0) (v := ((.slice (some ⟨B, 0, none⟩) 256 256))) rfl (by kernel_rfl) (by kernel_rfl) (by kernel_rfl) (fun _ _ _ h => h) (Or.inl ⟨by kernel_rfl, by intro w' hS; obtain ⟨e0, e1⟩ := hS; go_simp⟩) hH0 ?_
        simp only [Act.put, List.getElem_toArray, List.getElem_cons_zero, List.getElem_cons_succ, List.setIfInBounds_toArray, List.set_cons_zero, List.set_cons_succ]
        refine wpAnyH_take (i := 1) (v := (.int .i64 (h : Int))) rfl (by kernel_rfl) (by kernel_rfl) (by kernel_rfl) (fun _ _ _ h => h) (Or.inl ⟨by kernel_rfl, by intro w' hS; obtain ⟨e0, e1⟩ := hS; go_simp⟩) hH0 ?_
        simp only [Act.put, List.getElem_toArray, List.getElem_cons_zero, List.getElem_cons_succ, List.setIfInBounds_toArray, List.set_cons_zero, List.set_cons_succ]
        refine wpAnyH_take (i := 2) (v := ((.pointer (some ⟨g, 0, none⟩)))) rfl (by kernel_rfl) (by kernel_rfl) (by kernel_rfl) (fun _ _ _ h => h) (Or.inl ⟨by kernel_rfl, by intro w' hS; obtain ⟨e0, e1⟩ := hS; go_simp⟩) hH0 ?_
        simp only [Act.put, List.getElem_toArray, List.getElem_cons_zero, List.getElem_cons_succ, List.setIfInBounds_toArray, List.set_cons_zero, List.set_cons_succ]
        refine wpAnyH_take (i := 3) (v := ((.slice a2 (n - p) c2))) rfl (by kernel_rfl) (by kernel_rfl) (by kernel_rfl) (fun _ _ _ h => h) (Or.inl ⟨by kernel_rfl, by intro w' hS; obtain ⟨e0, e1⟩ := hS; go_simp⟩) hH0 ?_
        simp only [Act.put, List.getElem_toArray, List.getElem_cons_zero, List.getElem_cons_succ, List.setIfInBounds_toArray, List.set_cons_zero, List.set_cons_succ]
        refine wpAnyH_take (i := 4) (v := (.int .i64 (h : Int))) rfl (by kernel_rfl) (by kernel_rfl) (by kernel_rfl) (fun _ _ _ h => h) (Or.inl ⟨by kernel_rfl, by intro w' hS; obtain ⟨e0, e1⟩ := hS; go_simp⟩) hH0 ?_
        simp only [Act.put, List.getElem_toArray, List.getElem_cons_zero, List.getElem_cons_succ, List.setIfInBounds_toArray, List.set_cons_zero, List.set_cons_succ]
        refine wpAnyH_take (i := 6) (v := ((.slice a1 p c1))) rfl (by kernel_rfl) (by kernel_rfl) (by kernel_rfl) (fun _ _ _ h => h) (Or.inl ⟨by kernel_rfl, by intro w' hS; obtain ⟨e0, e1⟩ := hS; go_simp⟩) hH0 ?_
        simp only [Act.put, List.getElem_toArray, List.getElem_cons_zero, List.getElem_cons_succ, List.setIfInBounds_toArray, List.set_cons_zero, List.set_cons_succ]
        refine wpAnyH_ready (rs := [5]) (by kernel_rfl) (by simp) ?_
        refine AllReadyH.cons rfl (fun K hK => ?_) AllReadyH.nil
        go_simp
        refine HPT.out.mono ?_
        rintro _ v1 ⟨rfl, hv1, ho1, hbe1, hs2a, hs2b⟩
        have hs1 : v1.cell? ⟨Bh, 0, none⟩ = some (.int .i64 (h : Int)) ∧ v1.there B (h * 33) 33 := ⟨hv1.cell_is rfl, ho1.there h hh⟩
        have HTH := Lib.hid hs1.2
        have HBE1 := Lib.hid hbe1
        have HS2 := Lib.hid (And.intro hs2a hs2b)
        clear hv1 ho1 hbe1 hs2a hs2b
        refine Shut.out hK _ _ hs1 (fun hH1 => ?_)
        clear hK K
        try simp only [Act.put, List.getElem_toArray, List.getElem_cons_zero, List.getElem_cons_succ, List.setIfInBounds_toArray, List.set_cons_zero, List.set_cons_succ]
        refine wpAnyH_take (i := 7) (v := ((.pointer (some ⟨B, h * 33, none⟩)))) rfl (by kernel_rfl) (by kernel_rfl) (by kernel_rfl) (fun _ _ _ h => h) (Or.inl ⟨by kernel_rfl, by intro w' hS; obtain ⟨e0, e1⟩ := hS; go_simp⟩) hH1 ?_
        simp only [Act.put, List.getElem_toArray, List.getElem_cons_zero, List.getElem_cons_succ, List.setIfInBounds_toArray, List.set_cons_zero, List.set_cons_succ]
        refine wpAnyH_ready (rs := [8]) (by kernel_rfl) (by simp) ?_
        refine AllReadyH.cons rfl (fun K hK => ?_) AllReadyH.nil
        refine step_store_mid rfl 29 (.tmp 46) (.tmp 44) rfl B (h * 33) LN.toArray rfl rfl (by rw [SNN.out]; exact HTH.out) SZN.out ONEN.out ?_
        refine Shut.out hK _ _ HS2.out (fun hH2 => ?_)
        clear hK K
        try simp only [Act.put, List.getElem_toArray, List.getElem_cons_zero, List.getElem_cons_succ, List.setIfInBounds_toArray, List.set_cons_zero, List.set_cons_succ]
        refine wpAnyH_take (i := 9) (v := ((.slice a1 p c1))) rfl (by kernel_rfl) (by kernel_rfl) (by kernel_rfl) (fun _ _ _ h => h) (Or.inl ⟨by kernel_rfl, by intro w' hS; obtain ⟨e0, e1⟩ := hS; go_simp⟩) hH2 ?_
        simp only [Act.put, List.getElem_toArray, List.getElem_cons_zero, List.getElem_cons_succ, List.setIfInBounds_toArray, List.set_cons_zero, List.set_cons_succ]
        refine wpAnyH_done (by kernel_rfl) ?_ _
        refine NoPanic.normal ?_
        have hbx : (v1.setCells B (h * 33) LN).cell? ⟨Bh, 0, none⟩ = some (.int .i64 (h : Int)) := HS2.out.1
        have hbe1 := HBE1.out
        clear HBE1 HS2 hH0 hH1 hH2 hs1 hS0 HTH HB3W
        generalize v1.setCells B (h * 33) LN = WB at hbx hbe1 ⊢
        have HBE1 := Lib.hid hbe1
        clear hbe1
        go_wp2
        go_roundw
        case rel => exact ⟨(h : Int) - 1, _, _, _, WB.heap.size, rfl, rfl, by omega, by omega, HBE1.out⟩
        case measure =>
          rw [cellI_is (HBE1.out.box.cell_is rfl), cellI_is (HBW.out.box.cell_is rfl)]
          omega
      · subst h0
        have hown : ownK ks key (256 - h) = (ownK ks key (255 - h)).drop p := by
          rw [show 256 - h = (255 - h) + 1 by omega]
          show (ownK ks key (255 - h)).filter _ = _
          rw [show 255 - (255 - h) = h by omega, ← HBT.out]
          exact HE.out.2
        have hbes : besK ks key h = (ownK ks key (255 - h)).take p := by
          unfold besK
          rw [← HBT.out]
          exact HE.out.1
        have hvw : Kept (fun j => j = g ∨ j = B) w1 W3.drew := (HBW.out.kept.trans ((Kept.of_below (S := fun _ => False) HB3W.out).mono (fun _ _ h => h.elim))).drew
        have hvr : Kept (fun _ => False) wr W3.drew := (Kept.of_below (S := fun _ => False) HB3W.out).drew
        have htr3 : TreeAt K s0 S W3.drew g m es T := HBW.out.tree.kept hvr (fun _ _ _ h => h)
        have hout3 := HBW.out.out.kept hvr (fun h => h)
        rw [show ((h : Int) + 1).toNat = h + 1 by omega] at hout3
        have hbox3 : Has W3.drew Bh 3 #[.int .i64 (h : Int)] := HBW.out.box.kept hvr (fun h => h)
        have hT3 : Tabs K s0 W3.drew := HT1.out.kept hvw (fun k e => by have h1 := HW1.out; have h2 := HLOW.out; have h3 := HT1.out.low; omega)
        have hkw3 : KeysAt W3.drew a1 p (besK ks key h) := by
          rw [hbes]
          exact HKA1.out.1.kept hvw (fun b o e e' => e'.elim (HKA1.out.2.2.1 _ e) (HKA1.out.2.2.2 _ e))
        have hpt := part_is K s0 S g m es T HLOW.out (leafAt T) (leafAt_some T) h (by omega) W3.drew hT3 htr3 a1 p c1 (besK ks key h) hkw3 HKA1.out.2.1 (by have := HBW.out.n256; have := HP.out; omega) HKA1.out.2.2.1 (by rw [hbes]; first | exact HSO2.out.take p | exact HSO2.out.drop p) (HCO.out.less (fun k hk => (List.mem_filter.1 hk).1) (b := 1 - bitAt key h) (fun k hk => of_decide_eq_true (List.mem_filter.1 hk).2)) (fun k hk => HKT.out.find k (ownK_mem _ k (List.mem_filter.1 hk).1))
        rw [bes_part htr3.keyed HKT.out K s0 h hh] at hpt
        obtain ⟨LN, hLN⟩ : ∃ L, L = ndV (partNd K s0 h (besideT T key h)) := ⟨_, rfl⟩
        have hln : LN.length = 33 := by rw [hLN]; exact ndV_len (part_hash K s0 HT1.out.len _ _)
        have hpt2 : Calls Tryd.prog 48 #[.pointer (some ⟨g, 0, none⟩), .slice a1 p c1, .int .i64 (h : Int)] W3.drew fun e v1 => e = .returned (.agg LN.toArray) ∧ Has v1 Bh 3 #[.int .i64 (h : Int)] ∧ OutAt v1 B (h + 1) (fun h => partNd K s0 h (besideT T key h)) ∧ BesW K s0 S g m es T key ks w1 B ((h : Int) - 1) a2 (n - p) c2 (v1.setCells B (h * 33) LN).heap.size ((v1.setCells B (h * 33) LN).alloc (.cells #[.int .i64 ((h : Int) - 1)] 3)) ∧ (v1.setCells B (h * 33) LN).cell? ⟨Bh, 0, none⟩ = some (.int .i64 (h : Int)) ∧ (v1.setCells B (h * 33) LN).there B (h * 33) 33 := by
          refine hpt.mono fun e v1 q => ?_
          have hg1 := HW1.out
          have htop := HBW.out.top
          have o1 := hout3.kept q.2.2 (by show ¬ B = g; omega)
          have b1 : Has v1 Bh 3 #[.int .i64 (h : Int)] := hbox3.kept q.2.2 (by show ¬ Bh = g; omega)
          obtain ⟨o2, k2⟩ := o1.put hh (fun _ => part_hash K s0 HT1.out.len _ _)
          obtain ⟨f0, hf0⟩ : ∃ f : Nat → Nd, f = fun h => partNd K s0 h (besideT T key h) := ⟨_, rfl⟩
          have e0 : ndV ((fun h => partNd K s0 h (besideT T key h)) h) = LN := hLN.symm
          rw [e0] at o2 k2
          have t2 : TreeAt K s0 S (v1.setCells B (h * 33) LN) g m es T := by
            obtain ⟨cs, hf⟩ := q.2.1.frame
            exact HTR.out.framed ((HK1.out.step (hvw.trans (q.2.2.mono (fun _ _ e => .inl e))) (fun k e => by have := EB.out; omega)).step k2 (fun k e => by have e' : k = B := e; have := EB.out; omega)) (cs := cs) ⟨hf.obj.kept k2 (by omega), hf.size, hf.lock, hf.lv, hf.sm, hf.once⟩
          have k3 : Kept (fun _ => False) (v1.setCells B (h * 33) LN) ((v1.setCells B (h * 33) LN).alloc (.cells #[.int .i64 ((h : Int) - 1)] 3)) := (Kept.refl _ _).alloc _
          have kw : Kept (fun j => j = g ∨ j = B) w1 (v1.setCells B (h * 33) LN) := (hvw.trans (q.2.2.mono (fun _ _ e => .inl e))).trans (k2.mono (fun _ _ e => .inr e))
          refine ⟨by rw [q.1, hLN], b1, o1, ⟨?_, HKA2.out.2.1, by have := HBW.out.n256; have := HP.out; omega, HKA2.out.2.2.1, HKA2.out.2.2.2, kw.size, Has.new _ _ _, ?_, t2.kept k3 (fun _ _ _ h => h), kw.trans (k3.mono (fun _ _ h => h.elim))⟩, (b1.kept k2 (by show ¬ Bh = B; omega)).cell_is rfl, o2.there h hh⟩
          · rw [show (255 - ((h : Int) - 1)).toNat = 256 - h by omega, hown]
            exact HKA2.out.1
          · rw [show ((h : Int) - 1 + 1).toNat = h by omega]
            exact o2.kept k3 (fun h => h)
        have hS0 : W3.cell? ⟨Bh, 0, none⟩ = some (.int .i64 (h : Int)) ∧ W3.there B (h * 33) 33 := ⟨hbox3.cell_is rfl, hout3.there h hh⟩
        have SZN := Lib.hid (show (Tryd.prog.info? 29).map (·.size) = some LN.toArray.size by rw [List.size_toArray, hln]; kernel_rfl)
        have ONEN := Lib.hid (show LN.toArray.all (·.oneCell') = true by rw [hLN]; exact ndV_one _)
        have SNN := Lib.hid (show LN.toArray.size = 33 by rw [List.size_toArray, hln])
        have HPT := Lib.hid hpt2
        have hat := at_node B 256 256 h hh
        have hq1 : wrap64 ((h : Int) - 1) = (h : Int) - 1 := by unfold wrap64; omega
        clear hvw hvr htr3 hout3 hbox3 hT3 hkw3 hpt hpt2 hln hLN hown hbes
        go_upto_region 12 with (fail)
        refine wp_region_noPanic ?_
        refine wp_region_held_drew (S := (fun v => v.cell? ⟨Bh, 0, none⟩ = some (.int .i64 (h : Int)) ∧ v.there B (h * 33) 33)) (by kernel_rfl) hS0 (fun hH0 => ?_)
        refine wpAnyH_take (i := 0) (v := ((.slice (some ⟨B, 0, none⟩) 256 256))) rfl (by kernel_rfl) (by kernel_rfl) (by kernel_rfl) (fun _ _ _ h => h) (Or.inl ⟨by kernel_rfl, by intro w' hS; obtain ⟨e0, e1⟩ := hS; go_simp⟩) hH0 ?_
        simp only [Act.put, List.getElem_toArray, List.getElem_cons_zero, List.getElem_cons_succ, List.setIfInBounds_toArray, List.set_cons_zero, List.set_cons_succ]
        refine wpAnyH_take (i := 1) (v := (.int .i64 (h : Int))) rfl (by kernel_rfl) (by kernel_rfl) (by kernel_rfl) (fun _ _ _ h => h) (Or.inl ⟨by kernel_rfl, by intro w' hS; obtain ⟨e0, e1⟩ := hS; go_simp⟩) hH0 ?_
        simp only [Act.put, List.getElem_toArray, List.getElem_cons_zero, List.getElem_cons_succ, List.setIfInBounds_toArray, List.set_cons_zero, List.set_cons_succ]
        refine wpAnyH_take (i := 2) (v := ((.pointer (some ⟨g, 0, none⟩)))) rfl (by kernel_rfl) (by kernel_rfl) (by kernel_rfl) (fun _ _ _ h => h) (Or.inl ⟨by kernel_rfl, by intro w' hS; obtain ⟨e0, e1⟩ := hS; go_simp⟩) hH0 ?_
        simp only [Act.put, List.getElem_toArray, List.getElem_cons_zero, List.getElem_cons_succ, List.setIfInBounds_toArray, List.set_cons_zero, List.set_cons_succ]
        refine wpAnyH_take (i := 3) (v := ((.slice a1 p c1))) rfl (by kernel_rfl) (by kernel_rfl) (by kernel_rfl) (fun _ _ _ h => h) (Or.inl ⟨by kernel_rfl, by intro w' hS; obtain ⟨e0, e1⟩ := hS; go_simp⟩) hH0 ?_
        simp only [Act.put, List.getElem_toArray, List.getElem_cons_zero, List.getElem_cons_succ, List.setIfInBounds_toArray, List.set_cons_zero, List.set_cons_succ]
        refine wpAnyH_take (i := 4) (v := (.int .i64 (h : Int))) rfl (by kernel_rfl) (by kernel_rfl) (by kernel_rfl) (fun _ _ _ h => h) (Or.inl ⟨by kernel_rfl, by intro w' hS; obtain ⟨e0, e1⟩ := hS; go_simp⟩) hH0 ?_
        simp only [Act.put, List.getElem_toArray, List.getElem_cons_zero, List.getElem_cons_succ, List.setIfInBounds_toArray, List.set_cons_zero, List.set_cons_succ]
        refine wpAnyH_take (i := 6) (v := ((.slice a2 (n - p) c2))) rfl (by kernel_rfl) (by kernel_rfl) (by kernel_rfl) (fun _ _ _ h => h) (Or.inl ⟨by kernel_rfl, by intro w' hS; obtain ⟨e0, e1⟩ := hS; go_simp⟩) hH0 ?_
        simp only [Act.put, List.getElem_toArray, List.getElem_cons_zero, List.getElem_cons_succ, List.setIfInBounds_toArray, List.set_cons_zero, List.set_cons_succ]
        refine wpAnyH_ready (rs := [5]) (by kernel_rfl) (by simp) ?_
        refine AllReadyH.cons rfl (fun K hK => ?_) AllReadyH.nil
        go_simp
        refine HPT.out.mono ?_
        rintro _ v1 ⟨rfl, hv1, ho1, hbe1, hs2a, hs2b⟩
        have hs1 : v1.cell? ⟨Bh, 0, none⟩ = some (.int .i64 (h : Int)) ∧ v1.there B (h * 33) 33 := ⟨hv1.cell_is rfl, ho1.there h hh⟩
        have HTH := Lib.hid hs1.2
        have HBE1 := Lib.hid hbe1
        have HS2 := Lib.hid (And.intro hs2a hs2b)
        clear hv1 ho1 hbe1 hs2a hs2b
        refine Shut.out hK _ _ hs1 (fun hH1 => ?_)
        clear hK K
        try simp only [Act.put, List.getElem_toArray, List.getElem_cons_zero, List.getElem_cons_succ, List.setIfInBounds_toArray, List.set_cons_zero, List.set_cons_succ]
        refine wpAnyH_take (i := 7) (v := ((.pointer (some ⟨B, h * 33, none⟩)))) rfl (by kernel_rfl) (by kernel_rfl) (by kernel_rfl) (fun _ _ _ h => h) (Or.inl ⟨by kernel_rfl, by intro w' hS; obtain ⟨e0, e1⟩ := hS; go_simp⟩) hH1 ?_
        simp only [Act.put, List.getElem_toArray, List.getElem_cons_zero, List.getElem_cons_succ, List.setIfInBounds_toArray, List.set_cons_zero, List.set_cons_succ]
        refine wpAnyH_ready (rs := [8]) (by kernel_rfl) (by simp) ?_
        refine AllReadyH.cons rfl (fun K hK => ?_) AllReadyH.nil
        refine step_store_mid rfl 29 (.tmp 46) (.tmp 44) rfl B (h * 33) LN.toArray rfl rfl (by rw [SNN.out]; exact HTH.out) SZN.out ONEN.out ?_
        refine Shut.out hK _ _ HS2.out (fun hH2 => ?_)
        clear hK K
        try simp only [Act.put, List.getElem_toArray, List.getElem_cons_zero, List.getElem_cons_succ, List.setIfInBounds_toArray, List.set_cons_zero, List.set_cons_succ]
        refine wpAnyH_take (i := 9) (v := ((.slice a2 (n - p) c2))) rfl (by kernel_rfl) (by kernel_rfl) (by kernel_rfl) (fun _ _ _ h => h) (Or.inl ⟨by kernel_rfl, by intro w' hS; obtain ⟨e0, e1⟩ := hS; go_simp⟩) hH2 ?_
        simp only [Act.put, List.getElem_toArray, List.getElem_cons_zero, List.getElem_cons_succ, List.setIfInBounds_toArray, List.set_cons_zero, List.set_cons_succ]
        refine wpAnyH_done (by kernel_rfl) ?_ _
        refine NoPanic.normal ?_
        have hbx : (v1.setCells B (h * 33) LN).cell? ⟨Bh, 0, none⟩ = some (.int .i64 (h : Int)) := HS2.out.1
        have hbe1 := HBE1.out
        clear HBE1 HS2 hH0 hH1 hH2 hs1 hS0 HTH HB3W
        generalize v1.setCells B (h * 33) LN = WB at hbx hbe1 ⊢
        have HBE1 := Lib.hid hbe1
        clear hbe1
        go_wp2
        go_roundw
        case rel => exact ⟨(h : Int) - 1, _, _, _, WB.heap.size, rfl, rfl, by omega, by omega, HBE1.out⟩
        case measure =>
          rw [cellI_is (HBE1.out.box.cell_is rfl), cellI_is (HBW.out.box.cell_is rfl)]
          omega
    · have hm1 : hI = -1 := by omega
      have HFIN := Lib.hid (show OutAt wr B 0 (fun h => partNd K s0 h (besideT T key h)) ∧ TreeAt K s0 S wr g m es T ∧ Kept (· = g) w wr by
        have h1 := HBW.out.out
        rw [show (hI + 1).toNat = 0 by omega] at h1
        refine ⟨h1, HBW.out.tree, ?_⟩
        exact HK1.out.step HBW.out.kept (fun k hk => by have := HW1.out; have := EB.out; omega))
      clear hm1
      go_wp2
      go_ret
      exact ⟨B, rfl, by have := HW1.out; have := EB.out; omega, HFIN.out⟩
end
end Go.Proofs.YtcpomddkehhkkaaDoor

/- The walk of MsumClimbs. -/
namespace Go.Proofs.YtcpomddkehhkkaaDoor
set_option linter.unusedVariables false
set_option linter.unusedSimpArgs false
open Go.ChangeShapes Go.WideShapes Go.ChangeAt Go.RowKit Go.Maps

/-- a load of a whole array or struct, as a step of a region that draws. -/
theorem step_load_mid {P : Program} {ops : Array Oper} {op : Oper} {a : Act} {w : World} {K : Act → World → Prop} {Q : Exit → Act → World → Prop} (hw : Region.wanted op (yielded ops a.tmps) = true) (ty : TypeId) (x : Operand) (ho : op.op = .load ty x)
    (b o : Nat) (hx : a.eval x = .pointer (some ⟨b, o, none⟩)) (cs : List Value) (d : TypeDesc) (hc : w.rangeAt b o cs)
    (hu : P.underlying ty = some d) (hd : d.isRow = true) (hi : (P.info? ty).map (·.size) = some cs.length)
    (h : K (a.put op.dst (.agg cs.toArray)) w) : if Region.wanted op (yielded ops a.tmps) = true then Oper.wp P op a w K Q else K (a.put op.dst undef) w := by
  rw [if_pos hw]
  exact wp_load_mid ty x ho b o hx cs d hc hu hd hi h
theorem Tr.zg {K s0 : List Wd} {S : Nat → Prop} {w : World} {g : Nat} {T : List Lf} (h : Tr K s0 S w g T) : S g := by obtain ⟨m, es, h⟩ := h; exact h.zg
/-- Beside, for a caller. -/
theorem tr_beside {K s0 : List Wd} {S : Nat → Prop} {w : World} {g : Nat} {T : List Lf} (h : Tr K s0 S w g T) (hT : Tabs K s0 w) (hlow : 2 + 1 ≤ g) (key : List Nat) (hkey : IsHash key) :
    Calls Tryd.prog 30 #[.pointer (some ⟨g, 0, none⟩), arr key] w fun e w' => ∃ B, e = .returned (.slice (some ⟨B, 0, none⟩) 256 256) ∧ w.heap.size ≤ B ∧ OutAt w' B 0 (fun h => partNd K s0 h (besideT T key h)) ∧ Tr K s0 S w' g T ∧ Kept S w w' := by
  have hz := h.zg
  obtain ⟨m, es, h⟩ := h
  exact (beside_is K s0 S g m es T hlow w hT h key hkey).mono fun e w' ⟨B, h1, h2, h3, h4, h5⟩ => ⟨B, h1, h2, h3, ⟨m, es, h4⟩, h5.mono fun k _ e => by rw [show k = g from e]; exact hz⟩
/-- one part more, and what it has. -/
theorem climb_sum {K s0 : List Wd} {T : List Lf} (hk : Keyed (T.map (·.k))) (hf : sumT T < 18446744073709551616) {key : List Nat} {h : Nat} (hh : h < 256) : (climbN K s0 T key h).s + (partNd K s0 h (besideT T key h)).s < 18446744073709551616 := by
  have hco : Coh ((ownT T key (256 - h)).map (·.k)) h := fun a ha b hb j h1 h2 => by
    obtain ⟨s, hs, rfl⟩ := List.mem_map.1 ha
    obtain ⟨t, ht, rfl⟩ := List.mem_map.1 hb
    rw [((own_mem T key (256 - h) (by omega) s).1 hs).2 j (by omega) h2, ((own_mem T key (256 - h) (by omega) t).1 ht).2 j (by omega) h2]
  have h1 := part_sum K s0 h _ (own_keyed hk key (256 - h)) hco
  have h2 := part_sum K s0 h _ (bes_keyed hk h) (bes_coh (key := key) h hh)
  have h3 := bes_sum T key h hh
  have h4 := own_le T key (255 - h)
  unfold climbN
  omega
/-- the law's world. -/
structure CliW (K s0 : List Wd) (w : World) (lo hi g : Nat) (T : List Lf) (key : List Nat) (B Bk Bn : Nat) (CK : List Value) (h : Nat) (v : World) : Prop where
  tr : Tr K s0 (fun j => lo ≤ j ∧ j < hi) v g T
  kb : Has v Bk 27 CK.toArray
  nd : Has v Bn 29 (ndV (climbN K s0 T key h)).toArray
  out : OutAt v B 0 (fun h => partNd K s0 h (besideT T key h))
  bel : Below w.heap.size w v
  places : w.heap.size ≤ lo ∧ Bk < lo ∧ hi ≤ Bn ∧ Bn < B ∧ g < hi ∧ hi ≤ v.heap.size
section
variable {K s0 : List Wd} {w v v' : World} {lo hi g B Bk Bn h : Nat} {T : List Lf} {key : List Nat} {CK : List Value}
theorem CliW.below (c : CliW K s0 w lo hi g T key B Bk Bn CK h v) (hb : Below v.heap.size v v') : CliW K s0 w lo hi g T key B Bk Bn CK h v' :=
  ⟨c.tr.quiet hb, c.kb.below hb c.kb.lt, c.nd.below hb c.nd.lt, c.out.kept (Kept.of_below (S := fun _ => False) hb) (fun h => h), c.bel.trans (hb.mono c.bel.size), c.places.1, c.places.2.1, c.places.2.2.1, c.places.2.2.2.1, c.places.2.2.2.2.1, Nat.le_trans c.places.2.2.2.2.2 hb.size⟩
theorem CliW.root (c : CliW K s0 w lo hi g T key B Bk Bn CK h v) (hT : Tabs K s0 w) :
    Calls Tryd.prog 26 #[.pointer (some ⟨g, 0, none⟩)] v fun e v' => e = .returned (.agg (ndV (partNd K s0 256 T)).toArray) ∧ v'.rangeAt Bn 0 (ndV (climbN K s0 T key h)) ∧ Below w.heap.size w v' :=
  (tr_root c.tr (hT.below c.bel hT.low) (by have h1 := hT.low; have h2 := c.tr.zg; have h3 := c.places; have h4 : lo ≤ g := h2.1; omega)).mono fun e v' ⟨h1, h2, h3⟩ =>
    ⟨h1, (c.nd.kept h3 (fun e => by have := c.places; have := e.2; omega)).row0, c.bel.trans (h3.below c.bel.size (fun j e => by have := c.places; have := e.1; omega))⟩
theorem CliW.up (c : CliW K s0 w lo hi g T key B Bk Bn CK h v) (hk : IsHash (climbN K s0 T key h).h) (hk2 : IsHash (climbN K s0 T key (h + 1)).h) : CliW K s0 w lo hi g T key B Bk Bn CK (h + 1) (v.setCells Bn 0 (ndV (climbN K s0 T key (h + 1)))) := by
  obtain ⟨p1, p2⟩ := row_set (L := ndV (climbN K s0 T key (h + 1))) c.nd (by rw [List.size_toArray, ndV_len hk, ndV_len hk2])
  have hp := c.places
  have hz : lo ≤ g := c.tr.zg.1
  exact ⟨c.tr.kept p2 (fun k _ e1 e2 => by have e2' : k = Bn := e2; have := e1.2; omega), c.kb.kept p2 (by show ¬ Bk = Bn; omega), p1, c.out.kept p2 (by show ¬ B = Bn; omega), c.bel.trans (p2.below c.bel.size (fun j e => by have e' : j = Bn := e; omega)), hp.1, hp.2.1, hp.2.2.1, hp.2.2.2.1, hp.2.2.2.2.1, Nat.le_trans hp.2.2.2.2.2 p2.size⟩
end
set_option maxRecDepth 100000 in
set_option maxHeartbeats 8000000 in
theorem climbs_walk (K s0 : List Wd) (w : World) (hT : Tabs K s0 w) (A : Option Addr) (n c : Nat) (os : List OpT) (hos : OpsAt w A n os) (key : List Nat) (hkey : IsHash key) :
    Calls Tryd.prog 9 #[.slice A n c, arr key] w fun e w' => e = .returned (.bool true) ∧ Below w.heap.size w w' := by
  unfold arr
  obtain ⟨CK, hCK⟩ : ∃ C, C = bcells key := ⟨_, rfl⟩
  have lk : CK.length = 32 := by rw [hCK, bcells_length, hkey.1]
  rw [← hCK]
  obtain ⟨Z, hz, hZs, hZn, -⟩ := zero_node
  have hb3 := Has.new w 27 CK.toArray
  have hbel := (Below.refl w.heap.size w).alloc (Nat.le_refl _) (.cells CK.toArray 27)
  have hsz : (w.alloc (.cells CK.toArray 27)).heap.size = w.heap.size + 1 := by simp
  have HT := Lib.hid hT
  have HLOW := Lib.hid hT.low
  have HOS := Lib.hid hos
  have HKEY := Lib.hid hkey
  have HB3 := Lib.hid hb3
  have HBEL := Lib.hid hbel
  have HSZ := Lib.hid hsz
  have ECK := Lib.hid hCK
  have EZS := Lib.hid hZs
  have SZK := Lib.hid (show (Tryd.prog.info? 27).map (·.size) = some CK.length by rw [lk]; kernel_rfl)
  clear hT hos hkey hb3 hbel hsz hCK hZs lk
  go_enter Tryd.func9, Tryd.ntmps9
  go_upto_region 1 with (fail)
  generalize w.alloc (.cells CK.toArray 27) = W1 at HB3 HBEL HSZ ⊢
  obtain ⟨Bk, hBk⟩ : ∃ B, B = w.heap.size := ⟨_, rfl⟩
  rw [← hBk] at HB3
  rw [← hBk]
  have EB := Lib.hid hBk
  clear hBk
  go_wp2_with fail
  refine (headT_is K s0 W1 (HT.out.below HBEL.out HLOW.out)).mono ?_
  rintro _ w2 ⟨rfl, hb2⟩
  have HBE2 := Lib.hid (HBEL.out.trans (hb2.mono HBEL.out.size))
  have HM2 := Lib.hid (HB3.out.below hb2 HB3.out.lt)
  have HSZ2 := Lib.hid hb2.size
  have hsome := some_is w2 A n c os (HOS.out.below HBE2.out) 5 (by decide)
  change Calls Tryd.prog 27 #[.slice A n c, .int .i64 5] w2 _ at hsome
  have HSOME := Lib.hid hsome
  clear hb2 hsome HB3
  go_wp2_with fail
  refine HSOME.out.mono ?_
  rintro _ w3 ⟨v', rfl, hgot⟩
  have hgot0 := hgot
  obtain ⟨⟨oa, on, oc, rfl⟩, -, -⟩ := hgot0
  have hsels := hgot.sels (some_take_ok (HOS.out.below HBE2.out) 5) (by have := someL_len 5 os; omega)
  have htree := tree_is K s0 HT.out.len w3 oa on oc (someL 5 os) hsels (fun k x hk => some_fits 5 (by decide) os k x hk)
  have HTREE := Lib.hid htree
  have HM3 := Lib.hid (HM2.out.below hgot.2.2 HM2.out.lt)
  have HBE3 := Lib.hid (HBE2.out.trans (hgot.2.2.mono HBE2.out.size))
  have HSZ3 := Lib.hid hgot.2.2.size
  clear hgot hsels htree HSOME HM2
  go_wp2_with fail
  refine HTREE.out.mono ?_
  rintro _ w4 ⟨g, rfl, htr, hb4, hg⟩
  have htr4 : Tr K s0 (fun j => w3.heap.size ≤ j ∧ j < w4.heap.size) w4 g (buildT (someL 5 os)) := htr.zone (S' := fun j => w3.heap.size ≤ j ∧ j < w4.heap.size) (fun j h1 h2 => ⟨h2, h1⟩)
  obtain ⟨T, hTe⟩ : ∃ T, T = buildT (someL 5 os) := ⟨_, rfl⟩
  rw [← hTe] at htr4
  have HP := Lib.hid (show w.heap.size ≤ w3.heap.size ∧ Bk < w3.heap.size ∧ w3.heap.size ≤ g ∧ g < w4.heap.size from ⟨HBE3.out.size, by have h1 := EB.out; have h2 := HSZ.out; have h3 := HSZ2.out; have h4 := HSZ3.out; omega, htr4.zg.1, htr4.zg.2⟩)
  have HK4 := Lib.hid (HM3.out.below hb4 HM3.out.lt)
  have HBE4 := Lib.hid (HBE3.out.trans (hb4.mono HBE3.out.size))
  have HTR := Lib.hid htr4
  obtain ⟨lo, hlo⟩ : ∃ x, x = w3.heap.size := ⟨_, rfl⟩
  obtain ⟨hi, hhi⟩ : ∃ x, x = w4.heap.size := ⟨_, rfl⟩
  rw [← hlo] at HP HTR
  rw [← hhi] at HP HTR
  have EHI := Lib.hid hhi
  clear htr hb4 hg htr4 hTe hlo hhi HTREE HM3 HBE3 HSZ HSZ2 HSZ3
  have hget := tr_get HTR.out key HKEY.out
  unfold arr at hget
  obtain ⟨ws, hws⟩ : ∃ x, x = wasS T key := ⟨_, rfl⟩
  obtain ⟨kn, hkn⟩ : ∃ x, x = (findT T key).isSome := ⟨_, rfl⟩
  rw [← ECK.out, ← hws, ← hkn] at hget
  have HGET := Lib.hid hget
  have EWS := Lib.hid hws
  have HRK := Lib.hid HK4.out.row0
  clear hget hws hkn
  go_wp2_with (refine wpList_load_mid rfl 27 (.tmp 3) rfl Bk 0 rfl CK _ HRK.out Tryd.underlying27 rfl SZK.out ?_)
  refine HGET.out.mono ?_
  rintro _ w6 ⟨v', rfl, hrow, hb6⟩
  obtain ⟨av, cv, hv', -⟩ := id hrow
  obtain ⟨nv, hnv⟩ : ∃ x, x = (valT T key).length := ⟨_, rfl⟩
  rw [← hnv] at hv'
  subst hv'
  unfold leafV
  have hb6w : Below w4.heap.size w4 ((w6.alloc (.cells #[.slice none 0 0, .int .u64 0] 25)).setRow w6.heap.size #[.slice av nv cv, .int .u64 (ws : Int)]) := by
    rw [World.setRow_alloc_new]
    exact hb6.alloc hb6.size _
  have hlf : Has ((w6.alloc (.cells #[.slice none 0 0, .int .u64 0] 25)).setRow w6.heap.size #[.slice av nv cv, .int .u64 (ws : Int)]) w6.heap.size 25 #[.slice av nv cv, .int .u64 (ws : Int)] := by
    rw [World.setRow_alloc_new]
    exact Has.new w6 _ _
  have hro7 : RowB (fun j => w4.heap.size ≤ j) ((w6.alloc (.cells #[.slice none 0 0, .int .u64 0] 25)).setRow w6.heap.size #[.slice av nv cv, .int .u64 (ws : Int)]) (.slice av nv cv) (valT T key) := by
    rw [World.setRow_alloc_new]
    exact hrow.kept (Z := fun _ => False) ((Kept.refl _ _).alloc _) (fun _ _ _ h => h)
  have SZ2 := Lib.hid (show (Tryd.prog.info? 25).map (·.size) = some (#[Value.slice av nv cv, .int .u64 (ws : Int)] : Array Value).size by kernel_rfl)
  have ONE2 := Lib.hid (show (#[Value.slice av nv cv, .int .u64 (ws : Int)] : Array Value).all (·.oneCell') = true by kernel_rfl)
  have HB7 := Lib.hid hb6w
  have HLF := Lib.hid hlf
  have HRO := Lib.hid hro7
  have ENV := Lib.hid hnv
  clear hrow hb6 hnv hb6w hlf hro7 HGET HRK
  go_upto_region 7 with (refine wpList_store_row rfl 25 (.tmp 6) (.tmp 23) rfl w6.heap.size #[.slice av nv cv, .int .u64 (ws : Int)] rfl rfl 25 #[.slice none 0 0, .int .u64 0] (heap_alloc_new w6 _) SZ2.out rfl ONE2.out ?_)
  generalize (w6.alloc (.cells #[.slice none 0 0, .int .u64 0] 25)).setRow w6.heap.size #[.slice av nv cv, .int .u64 (ws : Int)] = W7 at HB7 HLF HRO ⊢
  generalize w6.heap.size = Bf at HLF ⊢
  have hsh : (valT T key).length ≤ 65536 := by
    unfold valT
    cases hf : findT T key with
    | none => exact Nat.zero_le _
    | some o => exact HTR.out.short o (find_key hf).2
  have hbe7 : Below w.heap.size w W7 := HBE4.out.trans (HB7.out.mono HBE4.out.size)
  have hws : ws < 18446744073709551616 := by rw [EWS.out]; exact Nat.lt_of_le_of_lt (was_le T key) HTR.out.sum
  have hno := leafNode_is K s0 W7 (.slice av nv cv) (valT T key) ws (HT.out.below hbe7 HLOW.out) (HRO.out.bytes (Nat.le_refl _)) (by omega) hws
  unfold leafV at hno
  have hcl0 : climbN K s0 T key 0 = ⟨digest K s0 (valT T key ++ eight ws), ws⟩ := by rw [climb_leaf K s0 HTR.out.keyed HKEY.out, EWS.out]; rfl
  have hno2 : Calls Tryd.prog 14 #[.agg #[.slice av nv cv, .int .u64 (ws : Int)]] W7 fun e w' => e = .returned (.agg (ndV (climbN K s0 T key 0)).toArray) ∧ Below W7.heap.size W7 w' := by
    rw [hcl0]; exact hno
  have hnh : ∀ h, IsHash (climbN K s0 T key h).h := fun h => part_hash K s0 HT.out.len _ _
  obtain ⟨LN, hLN⟩ : ∃ L, L = (ndV (climbN K s0 T key 0)).toArray := ⟨_, rfl⟩
  rw [← hLN] at hno2
  have hln : LN.size = 33 := by rw [hLN, List.size_toArray, ndV_len (hnh 0)]
  have HNO := Lib.hid hno2
  have ELN := Lib.hid hLN
  have HNH := Lib.hid hnh
  have SZN := Lib.hid (show (Tryd.prog.info? 29).map (·.size) = some LN.size by rw [hln]; kernel_rfl)
  have ONEN := Lib.hid (show LN.all (·.oneCell') = true by rw [hLN]; exact ndV_one _)
  have HZN := Lib.hid (show Z.size = LN.size by rw [EZS.out, hln])
  have HLFR := Lib.hid (show (Tryd.prog.info? 25).map (·.size) = some (#[Value.slice av nv cv, .int .u64 (ws : Int)] : Array Value).size by kernel_rfl)
  have HBE7 := Lib.hid hbe7
  clear hsh hbe7 hws hno hcl0 hno2 hnh hLN hln
  go_wp2_with (refine wpList_load_row rfl 25 (.tmp 6) rfl Bf rfl 25 #[.slice av nv cv, .int .u64 (ws : Int)] (0, 0) _ HLF.out Tryd.underlying25 rfl HLFR.out ?_)
  refine HNO.out.mono ?_
  rintro _ w8 ⟨rfl, hb8⟩
  have hb48 : Below w4.heap.size w4 ((w8.alloc (.cells Z 29)).setRow w8.heap.size LN) := by
    rw [World.setRow_alloc_new]
    exact (HB7.out.trans (hb8.mono HB7.out.size)).alloc (by have := HB7.out.size; have := hb8.size; omega) _
  have hnd : Has ((w8.alloc (.cells Z 29)).setRow w8.heap.size LN) w8.heap.size 29 LN := by
    rw [World.setRow_alloc_new]
    exact Has.new w8 _ _
  have HB8 := Lib.hid hb48
  have HND := Lib.hid hnd
  have HS8 := Lib.hid (show hi ≤ w8.heap.size by have := HB7.out.size; have := hb8.size; have := EHI.out; omega)
  clear hb8 hb48 hnd HNO HRO HB7 HLF
  go_upto_region 8 with (refine wpList_store_row rfl 29 (.tmp 8) (.tmp 26) rfl w8.heap.size LN rfl rfl 29 Z (heap_alloc_new w8 _) SZN.out HZN.out ONEN.out ?_)
  generalize (w8.alloc (.cells Z 29)).setRow w8.heap.size LN = W9 at HB8 HND ⊢
  obtain ⟨Bn, hBn⟩ : ∃ B, B = w8.heap.size := ⟨_, rfl⟩
  rw [← hBn] at HND HS8 ⊢
  clear hBn
  have hrk : W9.rangeAt Bk 0 CK := (HK4.out.below HB8.out HK4.out.lt).row0
  have htr9 := HTR.out.quiet HB8.out
  have hbe9 : Below w.heap.size w W9 := HBE4.out.trans (HB8.out.mono HBE4.out.size)
  have hbs := tr_beside htr9 (HT.out.below hbe9 HLOW.out) (by have h1 := HLOW.out; have h2 := HP.out; omega) key HKEY.out
  unfold arr at hbs
  rw [← ECK.out] at hbs
  have HBS := Lib.hid hbs
  have HRK9 := Lib.hid hrk
  have HBE9 := Lib.hid hbe9
  clear hrk htr9 hbe9 hbs
  go_wp2_with (refine wpList_load_mid rfl 27 (.tmp 3) rfl Bk 0 rfl CK _ HRK9.out Tryd.underlying27 rfl SZK.out ?_)
  refine HBS.out.mono ?_
  rintro _ w10 ⟨B, rfl, hBle, hout, htr10, hk10⟩
  have hcl : CliW K s0 w lo hi g T key B Bk Bn CK 0 w10 := by
    have h1 := HP.out
    have h2 := HS8.out
    have h3 := HND.out.lt
    have h4 := hk10.size
    refine ⟨htr10, (HK4.out.below HB8.out HK4.out.lt).kept hk10 (fun e => by have := e.1; omega), ?_, hout, HBE9.out.trans (hk10.below HBE9.out.size (fun j e => by have := e.1; omega)), h1.1, h1.2.1, h2, by omega, h1.2.2.2, by omega⟩
    rw [← ELN.out]
    exact HND.out.kept hk10 (fun e => by have := e.2; omega)
  have HCL := Lib.hid hcl
  clear hBle hout htr10 hk10 hcl HBS HRK9 HBE9 HND HK4 HBE4 HB8 HTR
  go_wp2_with fail
  go_loopw [10] (fun v wr => ∃ h : Nat, v = .int .i64 (h : Int) ∧ h ≤ 256 ∧ CliW K s0 w lo hi g T key B Bk Bn CK h wr) (fun v _ => 256 - (intOf v).toNat)
  case atStart => exact ⟨0, rfl, Nat.zero_le _, HCL.out⟩
  case round =>
    clear HCL
    obtain ⟨h, rfl, hh, hcw⟩ := hrel
    have HCW := Lib.hid hcw
    clear hcw
    have hnc : IsHash (climbN K s0 T key h).h := HNH.out h
    by_cases hlt : h < 256
    · have hrk : wr.rangeAt Bk 0 CK := HCW.out.kb.row0
      have hbit := bit_in key (h : Int) wr HKEY.out.1 (by omega) (by omega)
      unfold arr at hbit
      rw [← ECK.out, Int.toNat_natCast] at hbit
      obtain ⟨bt, hbt⟩ : ∃ b : Nat, b = bitAt key h := ⟨_, rfl⟩
      rw [← hbt] at hbit
      have hb2' : bt < 2 := by rw [hbt]; exact bitAt_lt key h
      have hstep := climb_step K s0 T key h hlt
      rw [← hbt] at hstep
      have hsum := climb_sum (K := K) (s0 := s0) HCW.out.tr.keyed HCW.out.tr.sum (key := key) hlt
      have hnb : IsHash (partNd K s0 h (besideT T key h)).h := part_hash K s0 HT.out.len _ _
      have hnx : IsHash (climbN K s0 T key (h + 1)).h := HNH.out (h + 1)
      have HRK := Lib.hid hrk
      have HBIT := Lib.hid hbit
      have HSTEP := Lib.hid hstep
      have HSUM := Lib.hid hsum
      have HNB := Lib.hid hnb
      have HNX := Lib.hid hnx
      have HNC := Lib.hid hnc
      have hq1 : wrap64 ((h : Int) + 1) = (h : Int) + 1 := by unfold wrap64; omega
      clear hrk hbit hbt hstep hsum hnb hnx hnc
      go_wp2_with (refine wpList_load_mid rfl 27 (.tmp 3) rfl Bk 0 rfl CK _ HRK.out Tryd.underlying27 rfl SZK.out ?_)
      refine HBIT.out.mono ?_
      rintro _ W3 ⟨rfl, e3⟩
      have hcw : CliW K s0 w lo hi g T key B Bk Bn CK h W3.drew := by
        rw [e3]
        exact HCW.out.below ((Below.refl _ _).alloc (Nat.le_refl _) _).drew
      have hlx0 : ∃ L, L = ndV (climbN K s0 T key (h + 1)) := ⟨_, rfl⟩
      obtain ⟨LX, hLX⟩ := hlx0
      obtain ⟨LC, hLC⟩ : ∃ L, L = ndV (climbN K s0 T key h) := ⟨_, rfl⟩
      obtain ⟨LB, hLB⟩ : ∃ L, L = ndV (partNd K s0 h (besideT T key h)) := ⟨_, rfl⟩
      have lx : LX.length = 33 := by rw [hLX]; exact ndV_len HNX.out
      have lc : LC.length = 33 := by rw [hLC]; exact ndV_len HNC.out
      have lb : LB.length = 33 := by rw [hLB]; exact ndV_len HNB.out
      have hT3 : Tabs K s0 W3.drew := HT.out.below hcw.bel HLOW.out
      have hS0 : W3.rangeAt B (h * 33) LB ∧ W3.there Bn 0 33 := ⟨by rw [hLB]; exact hcw.out.range h (Nat.zero_le _) hlt, hcw.nd.there 0 33 (by rw [List.size_toArray, ndV_len HNC.out]; exact Nat.le_refl _)⟩
      have hrc : W3.drew.rangeAt Bn 0 LC := by rw [hLC]; exact hcw.nd.row0
      have hat := at_node B 256 256 h hlt
      have SZX := Lib.hid (show (Tryd.prog.info? 29).map (·.size) = some LX.toArray.size by rw [List.size_toArray, lx]; kernel_rfl)
      have SZC := Lib.hid (show (Tryd.prog.info? 29).map (·.size) = some LC.length by rw [lc]; kernel_rfl)
      have SZB := Lib.hid (show (Tryd.prog.info? 29).map (·.size) = some LB.length by rw [lb]; kernel_rfl)
      have ONEX := Lib.hid (show LX.toArray.all (·.oneCell') = true by rw [hLX]; exact ndV_one _)
      have SNX := Lib.hid (show LX.toArray.size = 33 by rw [List.size_toArray, lx])
      have HRC := Lib.hid hrc
      have ELX := Lib.hid hLX
      have ELC := Lib.hid hLC
      have ELB := Lib.hid hLB
      have HC3 := Lib.hid hcw
      have hup : ∀ v1, CliW K s0 w lo hi g T key B Bk Bn CK h v1 → (v1.rangeAt B (h * 33) LB ∧ v1.there Bn 0 33) ∧ ((v1.setCells Bn 0 LX).rangeAt B (h * 33) LB ∧ (v1.setCells Bn 0 LX).there Bn 0 33) ∧ CliW K s0 w lo hi g T key B Bk Bn CK (h + 1) (v1.setCells Bn 0 LX) := fun v1 q => by
        have q2 := q.up HNC.out HNX.out
        rw [← ELX.out] at q2
        refine ⟨⟨by rw [ELB.out]; exact q.out.range h (Nat.zero_le _) hlt, q.nd.there 0 33 (by rw [List.size_toArray, ndV_len HNC.out]; exact Nat.le_refl _)⟩, ⟨by rw [ELB.out]; exact q2.out.range h (Nat.zero_le _) hlt, q2.nd.there 0 33 (by rw [List.size_toArray, ndV_len HNX.out]; exact Nat.le_refl _)⟩, q2⟩
      have HUP := Lib.hid hup
      have HT3 := Lib.hid hT3
      clear hcw hLX hLC hLB lx lc lb hT3 hrc hup e3 HRK HBIT
      rcases (by omega : bt = 1 ∨ bt = 0) with h0 | h0
      · subst h0
        have hbr : Calls Tryd.prog 17 #[.agg LB.toArray, .agg LC.toArray] W3.drew fun e v1 => e = .returned (.tuple #[.agg LX.toArray, .int .i64 0]) ∧ CliW K s0 w lo hi g T key B Bk Bn CK h v1 := by
          have := branch_fits K s0 W3.drew (partNd K s0 h (besideT T key h)).h (climbN K s0 T key h).h (partNd K s0 h (besideT T key h)).s (climbN K s0 T key h).s HT3.out HNB.out HNC.out (by have := HSUM.out; omega)
          have hst := HSTEP.out
          rw [if_pos rfl] at hst
          rw [ELX.out, ELC.out, ELB.out, hst]
          exact this.mono fun e v1 q => ⟨q.1, HC3.out.below q.2⟩
        have HBR := Lib.hid hbr
        clear hbr
        go_upto_region 16 with (fail)
        refine wp_region_noPanic ?_
        refine wp_region_held_drew (S := (fun v => v.rangeAt B (h * 33) LB ∧ v.there Bn 0 33)) (by kernel_rfl) hS0 (fun hH0 => ?_)
        refine wpAnyH_take (i := 0) (v := ((.slice (some ⟨B, 0, none⟩) 256 256))) rfl (by kernel_rfl) (by kernel_rfl) (by kernel_rfl) (fun _ _ _ h => h) (Or.inl ⟨by kernel_rfl, by intro w' hS; obtain ⟨e0, e1⟩ := hS; go_simp⟩) hH0 ?_
        simp only [Act.put, List.getElem_toArray, List.getElem_cons_zero, List.getElem_cons_succ, List.setIfInBounds_toArray, List.set_cons_zero, List.set_cons_succ]
        refine wpAnyH_take (i := 1) (v := (.int .i64 (h : Int))) rfl (by kernel_rfl) (by kernel_rfl) (by kernel_rfl) (fun _ _ _ h => h) (Or.inl ⟨by kernel_rfl, by intro w' hS; obtain ⟨e0, e1⟩ := hS; go_simp⟩) hH0 ?_
        simp only [Act.put, List.getElem_toArray, List.getElem_cons_zero, List.getElem_cons_succ, List.setIfInBounds_toArray, List.set_cons_zero, List.set_cons_succ]
        refine wpAnyH_take (i := 2) (v := ((.pointer (some ⟨B, h * 33, none⟩)))) rfl (by kernel_rfl) (by kernel_rfl) (by kernel_rfl) (fun _ _ _ h => h) (Or.inl ⟨by kernel_rfl, by intro w' hS; obtain ⟨e0, e1⟩ := hS; go_simp⟩) hH0 ?_
        simp only [Act.put, List.getElem_toArray, List.getElem_cons_zero, List.getElem_cons_succ, List.setIfInBounds_toArray, List.set_cons_zero, List.set_cons_succ]
        refine wpAnyH_take (i := 3) (v := (.agg LB.toArray)) rfl (by kernel_rfl) (by kernel_rfl) (by kernel_rfl) (fun _ _ _ h => h) (yieldsIf_load_mid (by kernel_rfl) 29 (.tmp 44) rfl B (h * 33) rfl LB _ (fun w' h => h.1) Tryd.underlying29 rfl SZB.out) hH0 ?_
        simp only [Act.put, List.getElem_toArray, List.getElem_cons_zero, List.getElem_cons_succ, List.setIfInBounds_toArray, List.set_cons_zero, List.set_cons_succ]
        refine wpAnyH_ready (rs := [4]) (by kernel_rfl) (by simp) ?_
        refine AllReadyH.cons rfl (fun K hK => ?_) AllReadyH.nil
        refine step_load_mid rfl 29 (.tmp 8) rfl Bn 0 rfl LC _ HRC.out Tryd.underlying29 rfl SZC.out ?_
        refine Shut.out hK _ _ hH0 (fun hH1 => ?_)
        clear hK K
        try simp only [Act.put, List.getElem_toArray, List.getElem_cons_zero, List.getElem_cons_succ, List.setIfInBounds_toArray, List.set_cons_zero, List.set_cons_succ]
        refine wpAnyH_ready (rs := [5]) (by kernel_rfl) (by simp) ?_
        refine AllReadyH.cons rfl (fun K hK => ?_) AllReadyH.nil
        go_simp
        refine HBR.out.mono ?_
        rintro _ v1 ⟨rfl, hc1⟩
        obtain ⟨hs1, hs2, hc2⟩ := HUP.out v1 hc1
        have HS2 := Lib.hid hs2
        have HC2 := Lib.hid hc2
        have HTH := Lib.hid hs1.2
        clear hs2 hc2 hc1
        refine Shut.out hK _ _ hs1 (fun hH2 => ?_)
        clear hK K
        try simp only [Act.put, List.getElem_toArray, List.getElem_cons_zero, List.getElem_cons_succ, List.setIfInBounds_toArray, List.set_cons_zero, List.set_cons_succ]
        refine wpAnyH_take (i := 6) (v := (.tuple #[.agg LX.toArray, .int .i64 0])) rfl (by kernel_rfl) (by kernel_rfl) (by kernel_rfl) (fun _ _ _ h => h) (Or.inl ⟨by kernel_rfl, by intro w' hS; obtain ⟨e0, e1⟩ := hS; go_simp⟩) hH2 ?_
        simp only [Act.put, List.getElem_toArray, List.getElem_cons_zero, List.getElem_cons_succ, List.setIfInBounds_toArray, List.set_cons_zero, List.set_cons_succ]
        refine wpAnyH_take (i := 7) (v := (.agg LX.toArray)) rfl (by kernel_rfl) (by kernel_rfl) (by kernel_rfl) (fun _ _ _ h => h) (Or.inl ⟨by kernel_rfl, by intro w' hS; obtain ⟨e0, e1⟩ := hS; go_simp⟩) hH2 ?_
        simp only [Act.put, List.getElem_toArray, List.getElem_cons_zero, List.getElem_cons_succ, List.setIfInBounds_toArray, List.set_cons_zero, List.set_cons_succ]
        refine wpAnyH_take (i := 8) (v := (.int .i64 0)) rfl (by kernel_rfl) (by kernel_rfl) (by kernel_rfl) (fun _ _ _ h => h) (Or.inl ⟨by kernel_rfl, by intro w' hS; obtain ⟨e0, e1⟩ := hS; go_simp⟩) hH2 ?_
        simp only [Act.put, List.getElem_toArray, List.getElem_cons_zero, List.getElem_cons_succ, List.setIfInBounds_toArray, List.set_cons_zero, List.set_cons_succ]
        refine wpAnyH_ready (rs := [9]) (by kernel_rfl) (by simp) ?_
        refine AllReadyH.cons rfl (fun K hK => ?_) AllReadyH.nil
        refine step_store_mid rfl 29 (.tmp 8) (.tmp 48) rfl Bn 0 LX.toArray rfl rfl (by rw [SNX.out]; exact HTH.out) SZX.out ONEX.out ?_
        refine Shut.out hK _ _ HS2.out (fun hH3 => ?_)
        clear hK K
        try simp only [Act.put, List.getElem_toArray, List.getElem_cons_zero, List.getElem_cons_succ, List.setIfInBounds_toArray, List.set_cons_zero, List.set_cons_succ]
        refine wpAnyH_take (i := 10) (v := (.int .i64 0)) rfl (by kernel_rfl) (by kernel_rfl) (by kernel_rfl) (fun _ _ _ h => h) (Or.inl ⟨by kernel_rfl, by intro w' hS; obtain ⟨e0, e1⟩ := hS; go_simp⟩) hH3 ?_
        simp only [Act.put, List.getElem_toArray, List.getElem_cons_zero, List.getElem_cons_succ, List.setIfInBounds_toArray, List.set_cons_zero, List.set_cons_succ]
        refine wpAnyH_done (by kernel_rfl) ?_ _
        refine NoPanic.normal ?_
        have hc2 := HC2.out
        clear HC2 HS2 hH0 hH1 hH2 hH3 hs1 hS0 HTH HC3 HT3 HBR
        generalize v1.setCells Bn 0 LX = WB at hc2 ⊢
        have HC2 := Lib.hid hc2
        clear hc2
        go_wp2
        go_roundw
        case rel =>
          have hfin : ∃ x : Nat, Value.int .i64 ((h : Int) + 1) = .int .i64 (x : Int) ∧ x ≤ 256 ∧ CliW K s0 w lo hi g T key B Bk Bn CK x WB := ⟨h + 1, rfl, by omega, HC2.out⟩
          have hfin2 := hfin
          rw [← hq1] at hfin2
          first | exact hfin | exact hfin2
        case measure => simp [intOf]; omega
      · subst h0
        have hbr : Calls Tryd.prog 17 #[.agg LC.toArray, .agg LB.toArray] W3.drew fun e v1 => e = .returned (.tuple #[.agg LX.toArray, .int .i64 0]) ∧ CliW K s0 w lo hi g T key B Bk Bn CK h v1 := by
          have := branch_fits K s0 W3.drew (climbN K s0 T key h).h (partNd K s0 h (besideT T key h)).h (climbN K s0 T key h).s (partNd K s0 h (besideT T key h)).s HT3.out HNC.out HNB.out HSUM.out
          have hst := HSTEP.out
          rw [if_neg (by decide)] at hst
          rw [ELX.out, ELC.out, ELB.out, hst]
          exact this.mono fun e v1 q => ⟨q.1, HC3.out.below q.2⟩
        have HBR := Lib.hid hbr
        clear hbr
        go_upto_region 17 with (fail)
        refine wp_region_noPanic ?_
        refine wp_region_held_drew (S := (fun v => v.rangeAt B (h * 33) LB ∧ v.there Bn 0 33)) (by kernel_rfl) hS0 (fun hH0 => ?_)
        refine wpAnyH_take (i := 1) (v := ((.slice (some ⟨B, 0, none⟩) 256 256))) rfl (by kernel_rfl) (by kernel_rfl) (by kernel_rfl) (fun _ _ _ h => h) (Or.inl ⟨by kernel_rfl, by intro w' hS; obtain ⟨e0, e1⟩ := hS; go_simp⟩) hH0 ?_
        simp only [Act.put, List.getElem_toArray, List.getElem_cons_zero, List.getElem_cons_succ, List.setIfInBounds_toArray, List.set_cons_zero, List.set_cons_succ]
        refine wpAnyH_take (i := 2) (v := (.int .i64 (h : Int))) rfl (by kernel_rfl) (by kernel_rfl) (by kernel_rfl) (fun _ _ _ h => h) (Or.inl ⟨by kernel_rfl, by intro w' hS; obtain ⟨e0, e1⟩ := hS; go_simp⟩) hH0 ?_
        simp only [Act.put, List.getElem_toArray, List.getElem_cons_zero, List.getElem_cons_succ, List.setIfInBounds_toArray, List.set_cons_zero, List.set_cons_succ]
        refine wpAnyH_take (i := 3) (v := ((.pointer (some ⟨B, h * 33, none⟩)))) rfl (by kernel_rfl) (by kernel_rfl) (by kernel_rfl) (fun _ _ _ h => h) (Or.inl ⟨by kernel_rfl, by intro w' hS; obtain ⟨e0, e1⟩ := hS; go_simp⟩) hH0 ?_
        simp only [Act.put, List.getElem_toArray, List.getElem_cons_zero, List.getElem_cons_succ, List.setIfInBounds_toArray, List.set_cons_zero, List.set_cons_succ]
        refine wpAnyH_take (i := 4) (v := (.agg LB.toArray)) rfl (by kernel_rfl) (by kernel_rfl) (by kernel_rfl) (fun _ _ _ h => h) (yieldsIf_load_mid (by kernel_rfl) 29 (.tmp 54) rfl B (h * 33) rfl LB _ (fun w' h => h.1) Tryd.underlying29 rfl SZB.out) hH0 ?_
        simp only [Act.put, List.getElem_toArray, List.getElem_cons_zero, List.getElem_cons_succ, List.setIfInBounds_toArray, List.set_cons_zero, List.set_cons_succ]
        refine wpAnyH_ready (rs := [0]) (by kernel_rfl) (by simp) ?_
        refine AllReadyH.cons rfl (fun K hK => ?_) AllReadyH.nil
        refine step_load_mid rfl 29 (.tmp 8) rfl Bn 0 rfl LC _ HRC.out Tryd.underlying29 rfl SZC.out ?_
        refine Shut.out hK _ _ hH0 (fun hH1 => ?_)
        clear hK K
        try simp only [Act.put, List.getElem_toArray, List.getElem_cons_zero, List.getElem_cons_succ, List.setIfInBounds_toArray, List.set_cons_zero, List.set_cons_succ]
        refine wpAnyH_ready (rs := [5]) (by kernel_rfl) (by simp) ?_
        refine AllReadyH.cons rfl (fun K hK => ?_) AllReadyH.nil
        go_simp
        refine HBR.out.mono ?_
        rintro _ v1 ⟨rfl, hc1⟩
        obtain ⟨hs1, hs2, hc2⟩ := HUP.out v1 hc1
        have HS2 := Lib.hid hs2
        have HC2 := Lib.hid hc2
        have HTH := Lib.hid hs1.2
        clear hs2 hc2 hc1
        refine Shut.out hK _ _ hs1 (fun hH2 => ?_)
        clear hK K
        try simp only [Act.put, List.getElem_toArray, List.getElem_cons_zero, List.getElem_cons_succ, List.setIfInBounds_toArray, List.set_cons_zero, List.set_cons_succ]
        refine wpAnyH_take (i := 6) (v := (.tuple #[.agg LX.toArray, .int .i64 0])) rfl (by kernel_rfl) (by kernel_rfl) (by kernel_rfl) (fun _ _ _ h => h) (Or.inl ⟨by kernel_rfl, by intro w' hS; obtain ⟨e0, e1⟩ := hS; go_simp⟩) hH2 ?_
        simp only [Act.put, List.getElem_toArray, List.getElem_cons_zero, List.getElem_cons_succ, List.setIfInBounds_toArray, List.set_cons_zero, List.set_cons_succ]
        refine wpAnyH_take (i := 7) (v := (.agg LX.toArray)) rfl (by kernel_rfl) (by kernel_rfl) (by kernel_rfl) (fun _ _ _ h => h) (Or.inl ⟨by kernel_rfl, by intro w' hS; obtain ⟨e0, e1⟩ := hS; go_simp⟩) hH2 ?_
        simp only [Act.put, List.getElem_toArray, List.getElem_cons_zero, List.getElem_cons_succ, List.setIfInBounds_toArray, List.set_cons_zero, List.set_cons_succ]
        refine wpAnyH_take (i := 8) (v := (.int .i64 0)) rfl (by kernel_rfl) (by kernel_rfl) (by kernel_rfl) (fun _ _ _ h => h) (Or.inl ⟨by kernel_rfl, by intro w' hS; obtain ⟨e0, e1⟩ := hS; go_simp⟩) hH2 ?_
        simp only [Act.put, List.getElem_toArray, List.getElem_cons_zero, List.getElem_cons_succ, List.setIfInBounds_toArray, List.set_cons_zero, List.set_cons_succ]
        refine wpAnyH_ready (rs := [9]) (by kernel_rfl) (by simp) ?_
        refine AllReadyH.cons rfl (fun K hK => ?_) AllReadyH.nil
        refine step_store_mid rfl 29 (.tmp 8) (.tmp 57) rfl Bn 0 LX.toArray rfl rfl (by rw [SNX.out]; exact HTH.out) SZX.out ONEX.out ?_
        refine Shut.out hK _ _ HS2.out (fun hH3 => ?_)
        clear hK K
        try simp only [Act.put, List.getElem_toArray, List.getElem_cons_zero, List.getElem_cons_succ, List.setIfInBounds_toArray, List.set_cons_zero, List.set_cons_succ]
        refine wpAnyH_take (i := 10) (v := (.int .i64 0)) rfl (by kernel_rfl) (by kernel_rfl) (by kernel_rfl) (fun _ _ _ h => h) (Or.inl ⟨by kernel_rfl, by intro w' hS; obtain ⟨e0, e1⟩ := hS; go_simp⟩) hH3 ?_
        simp only [Act.put, List.getElem_toArray, List.getElem_cons_zero, List.getElem_cons_succ, List.setIfInBounds_toArray, List.set_cons_zero, List.set_cons_succ]
        refine wpAnyH_done (by kernel_rfl) ?_ _
        refine NoPanic.normal ?_
        have hc2 := HC2.out
        clear HC2 HS2 hH0 hH1 hH2 hH3 hs1 hS0 HTH HC3 HT3 HBR
        generalize v1.setCells Bn 0 LX = WB at hc2 ⊢
        have HC2 := Lib.hid hc2
        clear hc2
        go_wp2
        go_roundw
        case rel =>
          have hfin : ∃ x : Nat, Value.int .i64 ((h : Int) + 1) = .int .i64 (x : Int) ∧ x ≤ 256 ∧ CliW K s0 w lo hi g T key B Bk Bn CK x WB := ⟨h + 1, rfl, by omega, HC2.out⟩
          have hfin2 := hfin
          rw [← hq1] at hfin2
          first | exact hfin | exact hfin2
        case measure => simp [intOf]; omega
    · have EH := Lib.hid (show h = 256 by omega)
      have hlt' : ¬ (h : Int) < 256 := by omega
      have hcw := HCW.out.below ((Below.refl _ _).drew)
      have hroot := hcw.root HT.out
      have etop : partNd K s0 256 T = climbN K s0 T key h := by rw [EH.out]; exact climb_top K s0 T key
      rw [etop] at hroot
      have heq := nd_eq (climbN K s0 T key h) hnc
      have hS0 : wr.rangeAt Bn 0 (ndV (climbN K s0 T key h)) := hcw.nd.row0
      have lc := ndV_len hnc
      obtain ⟨LC, hLC⟩ : ∃ L, L = ndV (climbN K s0 T key h) := ⟨_, rfl⟩
      rw [← hLC] at hroot heq hS0 lc
      have SZC := Lib.hid (show (Tryd.prog.info? 29).map (·.size) = some LC.length by rw [lc]; kernel_rfl)
      have HROOT := Lib.hid hroot
      clear hcw hroot etop lc hLC hlt hnc
      go_upto_region 20 with (fail)
      refine wp_region_noPanic ?_
      refine wp_region_held_drew (S := (fun v => v.rangeAt Bn 0 LC)) (by kernel_rfl) hS0 (fun hH0 => ?_)
      refine wpAnyH_take (i := 0) (v := (.agg LC.toArray)) rfl (by kernel_rfl) (by kernel_rfl) (by kernel_rfl) (fun _ _ _ h => h) (yieldsIf_load_mid (by kernel_rfl) 29 (.tmp 8) rfl Bn 0 rfl LC _ (fun w' h => h) Tryd.underlying29 rfl SZC.out) hH0 ?_
      simp only [Act.put, List.getElem_toArray, List.getElem_cons_zero, List.getElem_cons_succ, List.setIfInBounds_toArray, List.set_cons_zero, List.set_cons_succ]
      refine wpAnyH_take (i := 1) (v := ((.pointer (some ⟨g, 0, none⟩)))) rfl (by kernel_rfl) (by kernel_rfl) (by kernel_rfl) (fun _ _ _ h => h) (Or.inl ⟨by kernel_rfl, by intro w' hS; go_simp⟩) hH0 ?_
      simp only [Act.put, List.getElem_toArray, List.getElem_cons_zero, List.getElem_cons_succ, List.setIfInBounds_toArray, List.set_cons_zero, List.set_cons_succ]
      refine wpAnyH_ready (rs := [2]) (by kernel_rfl) (by simp) ?_
      refine AllReadyH.cons rfl (fun K hK => ?_) AllReadyH.nil
      go_simp
      refine HROOT.out.mono ?_
      rintro _ v1 ⟨rfl, hs1, hfin⟩
      refine Shut.out hK _ _ hs1 (fun hH1 => ?_)
      clear hK K
      try simp only [Act.put, List.getElem_toArray, List.getElem_cons_zero, List.getElem_cons_succ, List.setIfInBounds_toArray, List.set_cons_zero, List.set_cons_succ]
      refine wpAnyH_take (i := 3) (v := (.bool true)) rfl (by kernel_rfl) (by kernel_rfl) (by kernel_rfl) (fun _ _ _ h => h) (Or.inl ⟨by kernel_rfl, by intro w' hS; go_simp⟩) hH1 ?_
      simp only [Act.put, List.getElem_toArray, List.getElem_cons_zero, List.getElem_cons_succ, List.setIfInBounds_toArray, List.set_cons_zero, List.set_cons_succ]
      refine wpAnyH_take (i := 4) (v := (.bool true)) rfl (by kernel_rfl) (by kernel_rfl) (by kernel_rfl) (fun _ _ _ h => h) (Or.inl ⟨by kernel_rfl, by intro w' hS; go_simp⟩) hH1 ?_
      simp only [Act.put, List.getElem_toArray, List.getElem_cons_zero, List.getElem_cons_succ, List.setIfInBounds_toArray, List.set_cons_zero, List.set_cons_succ]
      refine wpAnyH_done (by kernel_rfl) ?_ _
      refine NoPanic.normal ?_
      go_wp2
      go_ret
      exact ⟨rfl, hfin⟩
end Go.Proofs.YtcpomddkehhkkaaDoor
