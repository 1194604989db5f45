/- The walk of Make: the proof of what stands at a key, or that nothing does. -/
import Derived.Test.YtknfbccbdiidjaaGreatDoorWs
import Derived.Test.YtknfbccbdiidjaaGreatDoorRLb1
import Derived.Deep.AppendLies
import Derived.StillTailTactics
namespace Go.Proofs.YtknfbccbdiidjaaGreatDoor
set_option linter.unusedVariables false
set_option linter.unusedSimpArgs false
open Go.ChangeShapes Go.WideShapes Go.ChangeAt Go.RowKit Go.Maps

structure MakeW (K s0 : List Wd) (S : Nat → Prop) (w : World) (g : Nat) (T : List Lf) (f : Nat → Nd) (B B4 B5 B6 : Nat) (Zp : Array Value) (k : Nat) (bb : List Nat) (a : Option Addr) (n c : Nat) (wr : World) : Prop where
 p : Has wr B5 39 (pcells bb a n c).toArray
 own : wr.ownsRow w.heap.size 30 33 (.slice a n c) n ((nodesF K s0 f k).flatMap ndV)
 len : (nodesF K s0 f k).length = n
 hash : IsHash bb
 bits : ∀ h, h < 256 → bareB bb h = (decide (h < k) && bareF K s0 f h)
 e : Has wr B6 30 (ndV (emptyNd K s0 k)).toArray
 r : Has wr B4 39 Zp
 out : OutAt wr B 0 f
 tr : Tr K s0 S wr g T
 kept : Kept (fun j => j = g) w wr
 far : ∀ j, (Value.slice a n c).ownBlock = some j → j ≠ B6 ∧ j ≠ B
structure MakeG (S : Nat → Prop) (w : World) (B B4 B5 B6 : Nat) : Prop where
 pl : w.heap.size ≤ B4 ∧ B4 < B5 ∧ B5 < B6 ∧ B6 < B
 zone : ∀ j, S j → j < w.heap.size
section
variable {K s0 : List Wd} {S : Nat → Prop} {w : World} {g : Nat} {T : List Lf} {f : Nat → Nd} {B B4 B5 B6 : Nat} {Zp : Array Value} {k : Nat} {bb : List Nat} {a : Option Addr} {n c : Nat} {wr wr' : World}
theorem MakeW.below (h : MakeW K s0 S w g T f B B4 B5 B6 Zp k bb a n c wr) (hb : Below wr.heap.size wr wr') : MakeW K s0 S w g T f B B4 B5 B6 Zp k bb a n c wr' :=
 have hk : Kept (fun _ => False) wr wr' := Kept.of_below hb
 ⟨h.p.kept hk (fun e => e), own_kept h.own hk (fun _ _ e => e), h.len, h.hash, h.bits, h.e.kept hk (fun e => e), h.r.kept hk (fun e => e), h.out.kept hk (fun e => e), h.tr.kept hk (fun _ _ _ e => e), h.kept.step hk (fun _ e => e.elim), h.far⟩
theorem MakeW.next (h : MakeW K s0 S w g T f B B4 B5 B6 Zp k bb a n c wr) (hg : MakeG S w B B4 B5 B6) {bb' : List Nat} {a' : Option Addr} {n' c' : Nat} {wx : World} (hp : Has wx B5 39 (pcells bb' a' n' c').toArray)
  (ho : wx.ownsRow w.heap.size 30 33 (.slice a' n' c') n' ((nodesF K s0 f (k + 1)).flatMap ndV)) (hl : (nodesF K s0 f (k + 1)).length = n') (hb : IsHash bb') (hbits : ∀ h, h < 256 → bareB bb' h = (decide (h < k + 1) && bareF K s0 f h))
  {Q : Nat → Prop} (hk : Kept Q wr wx) (hQ : ∀ j, Q j → j = B5 ∨ (Value.slice a n c).ownBlock = some j) (hf : ∀ j, (Value.slice a' n' c').ownBlock = some j → j ≠ B6 ∧ j ≠ B)
  {wz : World} (hb2 : Below wx.heap.size wx wz) : MakeW K s0 S w g T f B B4 B5 B6 Zp (k + 1) bb' a' n' c' (wz.setRow B6 (ndV (emptyNd K s0 (k + 1))).toArray) := by
 have hq : ∀ j, Q j → w.heap.size ≤ j ∧ j ≠ B6 ∧ j ≠ B ∧ j ≠ B4 := fun j hj => by
  have hpl := hg.pl
  rcases hQ j hj with e | e
  · omega
  · have h1 := (h.own.lt j e).1
    have h2 := h.far j e
    have h3 := own_has_ne h.own h.r (by decide) j e
    exact ⟨h1, h2.1, h2.2, h3⟩
 have hk2 : Kept (fun _ => False) wx wz := Kept.of_below hb2
 have hk3 := kept_setRow (g := B6) wz (ndV (emptyNd K s0 (k + 1))).toArray
 have hpl := hg.pl
 have hk4 : Kept (fun j => j = B6) wx (wz.setRow B6 (ndV (emptyNd K s0 (k + 1))).toArray) := (hk2.mono (fun _ _ e => e.elim)).trans hk3
 have hk5 : Kept (fun j => Q j ∨ j = B6) wr (wz.setRow B6 (ndV (emptyNd K s0 (k + 1))).toArray) := (hk.mono (fun _ _ e => .inl e)).step hk4 (fun j e => .inl (.inr e))
 have hz : ∀ j, S j → ¬ (Q j ∨ j = B6) := fun j hs e => by
  have h1 := hg.zone j hs
  rcases e with e | e
  · have := (hq j e).1; omega
  · omega
 have he6 : Has wz B6 30 (ndV (emptyNd K s0 k)).toArray := (h.e.kept hk (fun e => (hq B6 e).2.1 rfl)).kept hk2 (fun e => e)
 refine ⟨hp.kept hk4 (by show ¬ B5 = B6; omega), own_kept ho hk4 (fun j e1 e2 => (hf j e1).1 e2), hl, hb, hbits, he6.setRow, h.r.kept hk5 (fun e => e.elim (fun e => (hq B4 e).2.2.2 rfl) (fun e => by omega)), h.out.kept hk5 (fun e => e.elim (fun e => (hq B e).2.2.1 rfl) (fun e => by omega)), h.tr.kept hk5 (fun j _ hs e => hz j hs e), ?_, hf⟩
 exact h.kept.step hk5 (fun j e => by
  rcases e with e | e
  · exact .inr (hq j e).1
  · right; omega)
end
structure Made (K s0 : List Wd) (S : Nat → Prop) (w : World) (g : Nat) (T : List Lf) (key : List Nat) (bb : List Nat) (a : Option Addr) (n c : Nat) (w' : World) : Prop where
 hash : IsHash bb
 bits : ∀ h, h < 256 → bareB bb h = bareF K s0 (besF K s0 T key) h
 nodes : NodesAt w' a n (nodesF K s0 (besF K s0 T key) 256)
 new : 0 < n → ∀ A, a = some A → w.heap.size ≤ A.block
 tr : Tr K s0 S w' g T
 kept : Kept S w w'
 cap : n ≤ c
set_option maxRecDepth 100000 in
set_option maxHeartbeats 8000000 in
theorem mkProof_is (K s0 : List Wd) (S0 : Nat → Prop) (w : World) (hT : Tabs K s0 w) (g : Nat) (T : List Lf) (htr0 : Tr K s0 S0 w g T) (hlo : 2 + 1 ≤ g) (key : List Nat) (hkey : IsHash key) :
  Calls Tryz.prog 66 #[.pointer (some ⟨g, 0, none⟩), arr key] w fun e w' => ∃ bb a n c, e = .returned (.agg (pcells bb a n c).toArray) ∧ Made K s0 S0 w g T key bb a n c w' := by
 obtain ⟨Z, hz, hZs, hZn, hZ⟩ := zero_node
 obtain ⟨Zp, hzp, hZps, hZpn, hZp⟩ := zero_proof
 obtain ⟨inode, his, his0, his1, his2⟩ := info_parts info_node
 obtain ⟨f, hfd⟩ : ∃ f, f = besF K s0 T key := ⟨_, rfl⟩
 obtain ⟨CK, hCK⟩ : ∃ L, L = bcells key := ⟨_, rfl⟩
 have lk : CK.length = 32 := by rw [hCK, bcells_length, hkey.1]
 have hlow := hT.low
 have hfh : ∀ h, IsHash (f h).h := fun h => by rw [hfd]; exact part_hash K s0 hT.len _ _
 have hfs : ∀ h, h < 256 → (f h).s < 18446744073709551616 := fun h hh => by
  have := climb_sum (K := K) (s0 := s0) htr0.keyed htr0.sum (key := key) hh
  rw [hfd]; show (partNd K s0 h (besideT T key h)).s < _; omega
 have htr : Tr K s0 (fun j => S0 j ∧ j < w.heap.size) w g T := htr0.zone (fun j h1 h2 => ⟨h2, h1⟩)
 have hemp : ∀ W, Below w.heap.size w W → Calls Tryz.prog 49 #[.int .i64 0] W fun e w' => e = .returned (.agg (ndV (emptyNd K s0 0)).toArray) ∧ Below W.heap.size W w' := fun W hW =>
  empty_in K s0 W (hT.below hW hlow) 0 (by decide)
 have hbes : ∀ W, Below w.heap.size w W → Calls Tryz.prog 95 #[.pointer (some ⟨g, 0, none⟩), .agg CK.toArray] W fun e w' => ∃ B, e = .returned (.slice (some ⟨B, 0, none⟩) 256 256) ∧ W.heap.size ≤ B ∧ OutAt w' B 0 f ∧ Tr K s0 (fun j => S0 j ∧ j < w.heap.size) w' g T ∧ Kept (fun j => j = g) W w' := fun W hW => by
  rw [hCK, hfd]
  obtain ⟨m, es, hte⟩ := htr.kept (Kept.of_below (S := fun _ => False) hW) (fun _ _ _ e => e)
  exact (beside_is K s0 _ g m es T hlo W (hT.below hW hlow) hte key hkey).mono fun e w' ⟨B, h1, h2, h3, h4, h5⟩ => ⟨B, h1, h2, h3, ⟨m, es, h4⟩, h5⟩
 have hzg : S0 g ∧ g < w.heap.size := ⟨htr0.zg, htr0.lt⟩
 unfold arr
 rw [← hCK]
 have SZK := Lib.hid (show (Tryz.prog.info? 27).map (·.size) = some CK.toArray.size by rw [List.size_toArray, lk]; kernel_rfl)
 have SZN := Lib.hid (show ∀ x : Nd, IsHash x.h → (Tryz.prog.info? 30).map (·.size) = some (ndV x).toArray.size from fun x hx => by rw [List.size_toArray, ndV_len hx]; kernel_rfl)
 have SZL := Lib.hid (show ∀ x : Nd, IsHash x.h → (Tryz.prog.info? 30).map (·.size) = some (ndV x).length from fun x hx => by rw [ndV_len hx]; kernel_rfl)
 have HZN := Lib.hid (show ∀ x : Nd, IsHash x.h → Z.size = (ndV x).toArray.size from fun x hx => by rw [hZs, List.size_toArray, ndV_len hx])
 have HNN := Lib.hid (show ∀ x y : Nd, IsHash x.h → IsHash y.h → (ndV x).toArray.size = (ndV y).toArray.size from fun x y hx hy => by rw [List.size_toArray, List.size_toArray, ndV_len hx, ndV_len hy])
 have SZP := Lib.hid (show ∀ (bb : List Nat), IsHash bb → ∀ (a : Option Addr) (n c : Nat), (Tryz.prog.info? 39).map (·.size) = some (pcells bb a n c).toArray.size ∧ Zp.size = (pcells bb a n c).toArray.size from fun bb hb a n c => by rw [List.size_toArray, pcells_len hb, hZps]; exact ⟨by kernel_rfl, rfl⟩)
 have HEH := Lib.hid (show ∀ h, IsHash (emptyNd K s0 h).h from fun h => empty_hash K s0 hT.len h)
 have HBRE := Lib.hid (show ∀ W h, Kept (fun j => j = g) w W → Calls Tryz.prog 52 #[.agg (ndV (emptyNd K s0 h)).toArray, .agg (ndV (emptyNd K s0 h)).toArray] W fun e w' => e = .returned (.tuple #[.agg (ndV (emptyNd K s0 (h + 1))).toArray, .int .i64 0]) ∧ Below W.heap.size W w' from fun W h hW => br_empty K s0 W h (hT.kept hW (fun k e => by have e' : k = g := e; omega)))
 have HEMP := Lib.hid hemp
 have HBES := Lib.hid hbes
 have HFH := Lib.hid hfh
 have HFS := Lib.hid hfs
 have EZP := Lib.hid hZp
 have EFD := Lib.hid hfd
 have HTR := Lib.hid htr
 clear hemp hbes hfh hfs hZp hfd htr htr0 hCK lk hkey hZs hZ hZps hT hlo
 go_enter Tryz.func66, Tryz.ntmps66
 go_upto_region 2 with (fail)
 have h3 : Has (((w.alloc (.cells CK.toArray 27)).alloc (.cells Zp 39)).alloc (.cells Zp 39)) w.heap.size 27 CK.toArray := ((Has.new w _ _).alloc _).alloc _
 have h4 : Has (((w.alloc (.cells CK.toArray 27)).alloc (.cells Zp 39)).alloc (.cells Zp 39)) (w.heap.size + 1) 39 Zp := by
  have := Has.new (w.alloc (.cells CK.toArray 27)) 39 Zp
  exact (by simpa using this : Has _ (w.heap.size + 1) _ _).alloc _
 have h5 : Has (((w.alloc (.cells CK.toArray 27)).alloc (.cells Zp 39)).alloc (.cells Zp 39)) (w.heap.size + 1 + 1) 39 Zp := by
  have := Has.new ((w.alloc (.cells CK.toArray 27)).alloc (.cells Zp 39)) 39 Zp
  simpa using this
 have hb1 : Below w.heap.size w (((w.alloc (.cells CK.toArray 27)).alloc (.cells Zp 39)).alloc (.cells Zp 39)) :=
  (((Below.refl _ _).alloc (Nat.le_refl _) _).alloc (by simp) _).alloc (by simp; omega) _
 generalize ((w.alloc (.cells CK.toArray 27)).alloc (.cells Zp 39)).alloc (.cells Zp 39) = W1 at h3 h4 h5 hb1 ⊢
 have H3 := Lib.hid h3
 have H4 := Lib.hid h4
 have H5 := Lib.hid h5
 have HB1 := Lib.hid hb1
 clear h3 h4 h5 hb1
 go_wp2_with fail
 refine (HEMP.out _ HB1.out).mono ?_
 rintro _ w2 ⟨rfl, hb2⟩
 have hnw : Has ((w2.alloc (.cells Z 30)).setRow w2.heap.size (ndV (emptyNd K s0 0)).toArray) w2.heap.size 30 (ndV (emptyNd K s0 0)).toArray ∧ Below W1.heap.size W1 ((w2.alloc (.cells Z 30)).setRow w2.heap.size (ndV (emptyNd K s0 0)).toArray) := by
  rw [World.setRow_alloc_new]
  exact ⟨Has.new _ _ _, hb2.alloc hb2.size _⟩
 have hsz2 := hb2.size
 have HNW := Lib.hid hnw
 clear hb2 hnw HEMP
 go_upto_region 3 with (refine wpList_store_row rfl 30 (.tmp 6) (.tmp 9) rfl w2.heap.size (ndV (emptyNd K s0 0)).toArray rfl rfl 30 Z (heap_alloc_new w2 _) (SZN.out _ (HEH.out 0)) (HZN.out _ (HEH.out 0)) (ndV_one _) ?_)
 generalize (w2.alloc (.cells Z 30)).setRow w2.heap.size (ndV (emptyNd K s0 0)).toArray = W3 at HNW ⊢
 have HB3 := Lib.hid (HB1.out.trans (HNW.out.2.mono HB1.out.size))
 have H33 := Lib.hid (H3.out.below HNW.out.2 H3.out.lt)
 go_wp2_with (refine wpList_load_row rfl 27 (.tmp 3) rfl w.heap.size rfl 27 CK.toArray (0, 0) _ H33.out Tryz.underlying27 rfl SZK.out ?_)
 refine (HBES.out _ HB3.out).mono ?_
 rintro _ w4 ⟨B, rfl, hB, hout, htr4, hk4⟩
 have hmg : MakeG (fun j => S0 j ∧ j < w.heap.size) w B (w.heap.size + 1) (w.heap.size + 1 + 1) w2.heap.size :=
  ⟨by have h1 := H5.out.lt; have h2 := HNW.out.1.lt; omega, fun j h => h.2⟩
 have hmw : MakeW K s0 (fun j => S0 j ∧ j < w.heap.size) w g T f B (w.heap.size + 1) (w.heap.size + 1 + 1) w2.heap.size Zp 0 (List.replicate 32 0) none 0 0 w4 := by
  have hz : ∀ j, w.heap.size ≤ j → ¬ j = g := fun j h e => by have := hzg.2; omega
  refine ⟨?_, ⟨rfl, .inl ⟨rfl, rfl⟩⟩, rfl, zNd_hash, fun h hh => by rw [bareB_zero h hh]; simp, HNW.out.1.kept hk4 (hz _ (by have := HB1.out.size; omega)), (H4.out.below HNW.out.2 H4.out.lt).kept hk4 (hz _ (by omega)), hout, htr4, ?_, fun j e => by simp [Value.ownBlock] at e⟩
  · have := (H5.out.below HNW.out.2 H5.out.lt).kept hk4 (hz _ (by omega))
    rw [EZP.out] at this
    exact this
  · exact (Kept.of_below HB3.out).trans hk4
 have HMG := Lib.hid hmg
 have HMW := Lib.hid hmw
 have hZpl := H4.out.lt
 clear hB hout htr4 hk4 hmg hmw HNW HB3 H33 H3 H4 H5 HB1 HBES HTR hsz2 hZpl
 generalize w2.heap.size = B6 at HMG HMW ⊢
 obtain ⟨B5, hB5⟩ : ∃ b, b = w.heap.size + 1 + 1 := ⟨_, rfl⟩
 rw [← hB5] at HMG HMW ⊢
 obtain ⟨B4, hB4⟩ : ∃ b, b = w.heap.size + 1 := ⟨_, rfl⟩
 rw [← hB4] at HMG HMW ⊢
 clear hB5 hB4
 go_wp2_with fail
 go_loopw [14] (fun v wr => ∃ (k : Nat) (bb : List Nat) (a : Option Addr) (n c : Nat), v = .int .i64 (k : Int) ∧ k ≤ 256 ∧ MakeW K s0 (fun j => S0 j ∧ j < w.heap.size) w g T f B B4 B5 B6 Zp k bb a n c wr) (fun v _ => 256 - (intOf v).toNat)
 case atStart => exact ⟨0, _, _, _, _, rfl, Nat.zero_le _, HMW.out⟩
 case round =>
  clear HMW
  obtain ⟨k, bb, a, n, c, rfl, hk, hmw⟩ := hrel
  have HMW := Lib.hid hmw
  clear hmw
  by_cases hlt : k < 256
  · have hlt' : (k : Int) < 256 := by omega
    have hat := at_node B 256 256 k hlt
    have hrg := HMW.out.out.range k (Nat.zero_le _) hlt
    have HRG := Lib.hid hrg
    have hfk := HFH.out k
    have HFK := Lib.hid hfk
    clear hrg hfk
    go_upto_region 6 with (first
     | (refine wpList_load_mid rfl 30 (.tmp 17) rfl B (k * 33) rfl (ndV (f k)) _ HRG.out Tryz.underlying30 rfl (SZL.out _ HFK.out) ?_)
     | (refine wpList_store_row rfl 30 (.tmp 8) (.tmp 18) rfl wr.heap.size (ndV (f k)).toArray rfl rfl 30 Z (heap_alloc_new wr _) (SZN.out _ HFK.out) (HZN.out _ HFK.out) (ndV_one _) ?_))
    have hnw : MakeW K s0 (fun j => S0 j ∧ j < w.heap.size) w g T f B B4 B5 B6 Zp k bb a n c ((wr.alloc (.cells Z 30)).setRow wr.heap.size (ndV (f k)).toArray) ∧ Has ((wr.alloc (.cells Z 30)).setRow wr.heap.size (ndV (f k)).toArray) wr.heap.size 30 (ndV (f k)).toArray := by
     rw [World.setRow_alloc_new]
     exact ⟨HMW.out.below ((Below.refl _ _).alloc (Nat.le_refl _) _), Has.new _ _ _⟩
    generalize (wr.alloc (.cells Z 30)).setRow wr.heap.size (ndV (f k)).toArray = W5 at hnw ⊢
    generalize wr.heap.size = G8 at hnw ⊢
    obtain ⟨hm5, h8⟩ := hnw
    have HM5 := Lib.hid hm5
    have H8 := Lib.hid h8
    have hcmp := nd_any (f k) (emptyNd K s0 k) HFK.out (HEH.out k)
    obtain ⟨bt, hbt⟩ : ∃ b, b = bareF K s0 f k := ⟨_, rfl⟩
    change ∀ w, (Op.equalIn 10000 30 (.agg (ndV (f k)).toArray) (.agg (ndV (emptyNd K s0 k)).toArray)).run Tryz.prog w = .ok (bareF K s0 f k) w at hcmp
    rw [← hbt] at hcmp
    have EBT := Lib.hid hbt
    have c32 := HM5.out.p.cell_is (i := 32) (by rw [List.getElem?_toArray]; exact pcells_row HM5.out.hash a n c)
    have ck8 := HM5.out.p.cell_is (i := k / 8) (by rw [List.getElem?_toArray]; exact pcells_byte HM5.out.hash a n c (k / 8) (by omega))
    have hns := nodesF_succ (K := K) (s0 := s0) (f := f) k
    rw [← hbt] at hns
    have HNT := Lib.hid (show bt = true → nodesF K s0 f (k + 1) = nodesF K s0 f k from fun e => by rw [hns, if_pos e, List.append_nil])
    have HNF := Lib.hid (show bt = false → nodesF K s0 f (k + 1) = nodesF K s0 f k ++ [f k] from fun e => by rw [hns, if_neg (by rw [e]; decide)])
    clear hm5 h8 hbt HMW HRG hns
    cases bt with
    | true =>
     as_aux_lemma =>
       obtain ⟨x, hx⟩ : ∃ x, x = bb.getD (k / 8) 0 := ⟨_, rfl⟩
       rw [← hx] at ck8
       have hx8 : x < 256 := by rw [hx]; exact HM5.out.hash.byte _ (by omega)
       have EX := Lib.hid hx
       clear hx
       go_upto_region 7 with (first
         | (refine wpList_load_row rfl 30 (.tmp 8) rfl G8 rfl 30 (ndV (f k)).toArray (0, 0) _ H8.out Tryz.underlying30 rfl (SZN.out _ HFK.out) ?_)
         | (refine wpList_load_row rfl 30 (.tmp 6) rfl B6 rfl 30 (ndV (emptyNd K s0 k)).toArray (0, 0) _ HM5.out.e Tryz.underlying30 rfl (SZN.out _ (HEH.out k)) ?_))
       have hw1 : IntKind.i64.wrap ((k : Int) / 8) = ((k / 8 : Nat) : Int) := by rw [IntKind.wrap_i64]; omega
       have hw2 : IntKind.i64.wrap ((k : Int) % 8) = ((k % 8 : Nat) : Int) := by rw [IntKind.wrap_i64]; omega
       have hq1 : (0 : Int) ≤ (k : Int) / 8 := by omega
       have hq2 : (k : Int) / 8 < 32 := by omega
       have hq3 : ((k : Int) / 8).toNat = k / 8 := by omega
       have hq4 : (0 : Int) ≤ (k : Int) % 8 := by omega
       have hq5 : (k : Int) % 8 < 8 := by omega
       have hq6 : ((k : Int) % 8).toNat = k % 8 := by omega
       have hw3 : Int.tmod (k : Int) 8 = (k : Int) % 8 := by rw [Int.tmod_eq_emod_of_nonneg (by omega)]
       obtain ⟨y, hy⟩ : ∃ y, y = x ||| 2 ^ (k % 8) := ⟨_, rfl⟩
       have hor : bits BinOp.or IntKind.u8 (x : Int) (IntKind.u8.wrap ((2 : Int) ^ (k % 8))) = (y : Int) := by
         have h1 := or_bit x (k % 8) hx8 (Nat.mod_lt _ (by decide))
         have h2 : 2 ^ (k % 8) < 2 ^ 8 := Nat.pow_lt_pow_right (by decide) (Nat.mod_lt _ (by decide))
         have h3 : IntKind.u8.wrap ((2 : Int) ^ (k % 8)) = ((2 ^ (k % 8) : Nat) : Int) := by
           rw [show ((2 : Int) ^ (k % 8)) = ((2 ^ (k % 8) : Nat) : Int) by rw [Int.natCast_pow]; rfl]
           generalize 2 ^ (k % 8) = q at h2
           simp [IntKind.wrap, IntKind.bits, IntKind.signed]; omega
         rw [h3, h1, hy]
       have EY := Lib.hid hy
       have hm6 := HM5.out.below (Below.refl _ _).drew
       have ck9 : W5.drew.cell? ⟨B5, k / 8, none⟩ = some (.int .u8 (x : Int)) := ck8
       have HM6 := Lib.hid hm6
       clear hy hm6
       go_still_tail 11, (by kernel_rfl)
       change wpList _ _ _ _ _ W5.drew
       clear ck8 c32 hor hw1 hw2 hw3 hq1 hq2 hq3 hq4 hq5 hq6
       generalize W5.drew = W6 at HM6 ck9 ⊢
       have hfr := HM6.out.p.free (k / 8)
       have hp7 := HM6.out.p.set (k / 8) (.int .u8 (y : Int))
       rw [pcells_set HM6.out.hash a n c (k / 8) y (by omega)] at hp7
       have hk7 : Kept (· = B5) W6 (W6.setCell ⟨B5, k / 8, none⟩ (.int .u8 (y : Int))) := (Kept.refl (· = B5) W6).set (p := ⟨B5, k / 8, none⟩) (.inl rfl) _
       have HP7 := Lib.hid hp7
       have HK7 := Lib.hid hk7
       clear hp7 hk7
       go_upto_region 9 with (fail)
       generalize W6.setCell ⟨B5, k / 8, none⟩ (.int .u8 (y : Int)) = W7 at HP7 HK7 ⊢
       have hpl := HMG.out.pl
       have he7 := HM6.out.e.kept HK7.out (by show ¬ B6 = B5; omega)
       have hkw7 : Kept (fun j => j = g) w W7 := HM6.out.kept.step HK7.out (fun j e => by have e' : j = B5 := e; right; omega)
       have HE7 := Lib.hid he7
       have HKW7 := Lib.hid hkw7
       clear he7 hkw7 hfr ck9
       go_wp2_with (refine wpList_load_row rfl 30 (.tmp 6) rfl B6 rfl 30 (ndV (emptyNd K s0 k)).toArray (0, 0) _ HE7.out Tryz.underlying30 rfl (SZN.out _ (HEH.out k)) ?_)
       refine (HBRE.out _ k HKW7.out).mono ?_
       rintro _ w8 ⟨rfl, hb8⟩
       have hown8 : W7.ownsRow w.heap.size 30 33 (.slice a n c) n ((nodesF K s0 f (k + 1)).flatMap ndV) := by
         rw [HNT.out (by first | rfl | trivial)]
         exact own_kept HM6.out.own HK7.out (fun j e1 e2 => own_has_ne HM6.out.own HM6.out.p (by decide) j e1 e2)
       have hset := bare_set HM6.out.hash k hlt
       rw [← EX.out, ← EY.out] at hset
       have hnx := HM6.out.next HMG.out HP7.out hown8 (by rw [HNT.out (by first | rfl | trivial)]; exact HM6.out.len) hset.1 (fun h hh => by
         rw [hset.2 h hh, HM6.out.bits h hh]
         by_cases e : h = k
         · subst e
           rw [decide_eq_true rfl, Bool.or_true, decide_eq_true (Nat.lt_succ_self h), ← EBT.out]; rfl
         · rw [decide_eq_false e, Bool.or_false]
           congr 1
           rw [decide_eq_decide]; omega) HK7.out (fun j e => .inl e) HM6.out.far hb8
       have HNX := Lib.hid hnx
       have HE8 := Lib.hid (HE7.out.below hb8 HE7.out.lt)
       clear hb8 hown8 hset hnx HBRE
       go_wp2_with (refine wpList_store_row rfl 30 (.tmp 6) (.tmp 43) rfl B6 (ndV (emptyNd K s0 (k + 1))).toArray rfl rfl 30 (ndV (emptyNd K s0 k)).toArray HE8.out (SZN.out _ (HEH.out (k + 1))) (HNN.out _ _ (HEH.out k) (HEH.out (k + 1))) (ndV_one _) ?_)
       go_roundw
       case rel => exact ⟨k + 1, _, _, _, _, by go_num, by omega, HNX.out⟩
       case measure => simp [intOf]; omega
    | false =>
     as_aux_lemma =>
       have hz33 : (Value.agg (List.replicate 32 (Value.int .u8 0) ++ [Value.int .u64 0]).toArray).cells.size = 33 := by kernel_rfl
       have hn256 : n ≤ 256 := by have h1 := nodesF_len (K := K) (s0 := s0) (f := f) k; have h2 := HM5.out.len; omega
       have HZ33 := Lib.hid hz33
       have HML := Lib.hid (show n + 1 ≤ maxLen by unfold maxLen; omega)
       have HBY := Lib.hid (show (n + 1) * 40 ≤ 140737488355328 by omega)
       have hB5 : w.heap.size ≤ W5.heap.size := HM5.out.kept.size
       have HBS := Lib.hid (show ∀ C, w.heap.size ≤ (W5.alloc C).heap.size by intro C; show _ ≤ (W5.heap.push _).size; rw [Array.size_push]; omega)
       have HLL := Lib.hid (show (ndV (f k)).length = 1 * 33 from ndV_len HFK.out)
       have HL1 := Lib.hid (show ∀ v ∈ ndV (f k), v.oneCell' = true from ncells_one _ _)
       have h0k : 0 < (ndV (f k)).length := by rw [ndV_len HFK.out]; decide
       have h24 : (ndV (f k)).length ≤ 16777216 := by rw [ndV_len HFK.out]; decide
       have HIL := Lib.hid (show inode.size = (ndV (f k)).length by rw [his1, ndV_len HFK.out])
       have HZL := Lib.hid (show (Value.agg (List.replicate 32 (Value.int .u8 0) ++ [Value.int .u64 0]).toArray).cells.size = (ndV (f k)).length by rw [hz33, ndV_len HFK.out])
       have HSUC := Lib.hid (show (W5.alloc (.cells (ndV (f k)).toArray 30)).heap.size = W5.heap.size + 1 by simp)
       have hend : ∀ g7 cap7 w7, w7.ownsRow w.heap.size 30 33 (.slice (some ⟨g7, 0, none⟩) (n + 1) cap7) (n + 1) ((nodesF K s0 f k).flatMap ndV ++ ndV (f k)) → (W5.alloc (.cells (ndV (f k)).toArray 30)).grownBy w7 (Value.slice a n c).ownBlock → ((Value.slice a n c).ownBlock = some g7 ∨ g7 = W5.heap.size + 1) →
           Has w7 B5 39 (pcells bb a n c).toArray ∧ Has (w7.setCell ⟨B5, 32, none⟩ (.slice (some ⟨g7, 0, none⟩) (n + 1) cap7)) B6 30 (ndV (emptyNd K s0 k)).toArray ∧ Kept (fun j => j = g) w (w7.setCell ⟨B5, 32, none⟩ (.slice (some ⟨g7, 0, none⟩) (n + 1) cap7)) ∧
           ∀ w8, Below (w7.setCell ⟨B5, 32, none⟩ (.slice (some ⟨g7, 0, none⟩) (n + 1) cap7)).heap.size (w7.setCell ⟨B5, 32, none⟩ (.slice (some ⟨g7, 0, none⟩) (n + 1) cap7)) w8 →
             Has w8 B6 30 (ndV (emptyNd K s0 k)).toArray ∧ MakeW K s0 (fun j => S0 j ∧ j < w.heap.size) w g T f B B4 B5 B6 Zp (k + 1) bb (some ⟨g7, 0, none⟩) (n + 1) cap7 (w8.setRow B6 (ndV (emptyNd K s0 (k + 1))).toArray) := fun g7 cap7 w7 ho hg hb7 => by
         have hpl := HMG.out.pl
         have hk1 : Kept (fun j => (Value.slice a n c).ownBlock = some j) W5 w7 := ((Kept.refl _ W5).alloc _).grown hg (fun j e => .inl e)
         have hne5 : ¬ (Value.slice a n c).ownBlock = some B5 := fun e => own_has_ne HM5.out.own HM5.out.p (by decide) B5 e rfl
         have hp7 := HM5.out.p.kept hk1 hne5
         have hp8 := hp7.set 32 (.slice (some ⟨g7, 0, none⟩) (n + 1) cap7)
         rw [pcells_put HM5.out.hash a (some ⟨g7, 0, none⟩) n c (n + 1) cap7] at hp8
         have hk2 : Kept (· = B5) w7 (w7.setCell ⟨B5, 32, none⟩ (.slice (some ⟨g7, 0, none⟩) (n + 1) cap7)) := (Kept.refl (· = B5) w7).set (p := ⟨B5, 32, none⟩) (.inl rfl) _
         have hk3 : Kept (fun j => j = B5 ∨ (Value.slice a n c).ownBlock = some j) W5 (w7.setCell ⟨B5, 32, none⟩ (.slice (some ⟨g7, 0, none⟩) (n + 1) cap7)) := (hk1.mono (fun _ _ e => .inr e)).step hk2 (fun j e => .inl (.inl e))
         have he8 := HM5.out.e.kept hk3 (fun e => e.elim (fun e => by omega) (fun e => (HM5.out.far B6 e).1 rfl))
         have hl1 : (nodesF K s0 f (k + 1)).length = n + 1 := by rw [HNF.out (by first | rfl | trivial), List.length_append, HM5.out.len]; rfl
         have hlt6 := HM5.out.e.lt
         obtain ⟨cso, hho, -, -⟩ := HM5.out.out
         have hltB := hho.lt
         have ho8 : (w7.setCell ⟨B5, 32, none⟩ (.slice (some ⟨g7, 0, none⟩) (n + 1) cap7)).ownsRow w.heap.size 30 33 (.slice (some ⟨g7, 0, none⟩) (n + 1) cap7) (n + 1) ((nodesF K s0 f (k + 1)).flatMap ndV) := by
           rw [HNF.out (by first | rfl | trivial), List.flatMap_append]
           refine own_kept (by simpa using ho) hk2 (fun j e1 e2 => own_has_ne ho hp7 (by decide) j e1 e2)
         refine ⟨hp7, he8, HM5.out.kept.step hk3 (fun j e => by
           right
           rcases e with e | e
           · omega
           · exact (HM5.out.own.lt j e).1), fun w8 hb8 => ⟨he8.below hb8 he8.lt, ?_⟩⟩
         exact HM5.out.next HMG.out hp8 ho8 hl1 HM5.out.hash (fun h hh => by
           rw [HM5.out.bits h hh]
           by_cases e : h = k
           · subst e
             rw [← EBT.out, Bool.and_false, Bool.and_false]
           · congr 1
             rw [decide_eq_decide]; omega) hk3 (fun j e => e) (fun j e => by
             have e' : g7 = j := by simpa [Value.ownBlock] using e
             rcases hb7 with h | h
             · rw [← e']; exact HM5.out.far g7 h
             · omega) hb8
       have HEND := Lib.hid hend
       have HOWN := Lib.hid HM5.out.own
       clear hend hz33 hn256 hB5
       go_upto_region 9 with (first
         | (refine wpList_load_row rfl 30 (.tmp 8) rfl G8 rfl 30 (ndV (f k)).toArray (0, 0) _ H8.out Tryz.underlying30 rfl (SZN.out _ HFK.out) ?_)
         | (refine wpList_load_row rfl 30 (.tmp 6) rfl B6 rfl 30 (ndV (emptyNd K s0 k)).toArray (0, 0) _ HM5.out.e Tryz.underlying30 rfl (SZN.out _ (HEH.out k)) ?_)
         | (refine wpList_build1 rfl 37 30 (.tmp 35) rfl inode _ Tryz.underlying37 his his0 (ndV (f k)) HIL.out HZL.out h0k h24 rfl ?_)
         | (at_builtin; refine wpList_append_lies _ rfl (.tmp 34) (.tmp 36) 37 rfl w.heap.size 30 inode _ 33 40 Tryz.underlying37 his his0 his1 his2 HZ33.out (by decide) _ n _ rfl (HOWN.out.alloc _) ⟨W5.heap.size, 0, none⟩ 1 1 (ndV (f k)) rfl HLL.out (World.news_of_block (cs := (ndV (f k)).toArray) (heap_alloc_new W5 _)) HL1.out (by decide) HML.out HBY.out (HBS.out _) (W5.heap.size + 1) HSUC.out ?_; intro g7 cap7 w7 hown7 hgr7 hat7 hlt7; (have hq7 := HEND.out g7 cap7 w7 hown7 hgr7 hat7); (have c732 := hq7.1.cell_is (i := 32) (by rw [List.getElem?_toArray]; exact pcells_row HM5.out.hash a n c)); (have f732 := hq7.1.free 32); (have HQ7 := Lib.hid hq7); clear hq7 hown7 hgr7 hat7 hlt7))
       generalize w7.setCell ⟨B5, 32, none⟩ (.slice (some ⟨g7, 0, none⟩) (n + 1) cap7) = W8 at HQ7 ⊢
       clear c732 f732 c32 ck8 HEND HOWN
       go_wp2_with (refine wpList_load_row rfl 30 (.tmp 6) rfl B6 rfl 30 (ndV (emptyNd K s0 k)).toArray (0, 0) _ HQ7.out.2.1 Tryz.underlying30 rfl (SZN.out _ (HEH.out k)) ?_)
       refine (HBRE.out _ k HQ7.out.2.2.1).mono ?_
       rintro _ w9 ⟨rfl, hb9⟩
       have hq9 := HQ7.out.2.2.2 w9 hb9
       have HQ9 := Lib.hid hq9
       clear hb9 hq9 HBRE
       go_wp2_with (refine wpList_store_row rfl 30 (.tmp 6) (.tmp 43) rfl B6 (ndV (emptyNd K s0 (k + 1))).toArray rfl rfl 30 (ndV (emptyNd K s0 k)).toArray HQ9.out.1 (SZN.out _ (HEH.out (k + 1))) (HNN.out _ _ (HEH.out k) (HEH.out (k + 1))) (ndV_one _) ?_)
       go_roundw
       case rel => exact ⟨k + 1, _, _, _, _, by go_num, by omega, HQ9.out.2⟩
       case measure => simp [intOf]; omega
  · obtain rfl : k = 256 := by omega
    have hk := kept_setRow (g := B4) wr (pcells bb a n c).toArray
    have hpl := HMG.out.pl
    have hset : Has (wr.setRow B4 (pcells bb a n c).toArray) B4 39 (pcells bb a n c).toArray := HMW.out.r.setRow
    have hzp := (SZP.out bb HMW.out.hash a n c)
    have hmade : Made K s0 S0 w g T key bb a n c (wr.setRow B4 (pcells bb a n c).toArray) := by
     have hno := own_nodes HMW.out.own HMW.out.len (fun x hx => by
       obtain ⟨j, hj, e⟩ := nodesF_mem 256 x hx
       rw [e]; exact HFH.out j) (fun x hx => by
       obtain ⟨j, hj, e⟩ := nodesF_mem 256 x hx
       rw [e]; exact HFS.out j hj)
     have hf : f = besF K s0 T key := EFD.out
     subst hf
     refine ⟨HMW.out.hash, fun h hh => by rw [HMW.out.bits h hh, decide_eq_true hh, Bool.true_and], ?_, hno.2, ?_, ?_, ?_⟩
     · refine ⟨hno.1.len, hno.1.hash, hno.1.fits, fun hn => ?_⟩
       obtain ⟨b, o, e1, e2, e3⟩ := hno.1.at_ hn
       refine ⟨b, o, e1, by have := hk.size; omega, fun i x hx => rangeAt_kept (e3 i x hx) hk (fun e => ?_)⟩
       have e' : b = B4 := e
       exact own_has_ne HMW.out.own HMW.out.r (by decide) b (by rw [e1]; rfl) e'
     · exact (HMW.out.tr.kept hk (fun j _ hs e => by have e' : j = B4 := e; have := hs.2; omega)).zone (fun j _ hs => hs.1)
     · exact HMW.out.kept.step hk (fun j e => by have e' : j = B4 := e; right; omega) |>.mono (fun j _ e => by have e' : j = g := e; rw [e']; exact hzg.1)
     · rcases HMW.out.own.2 with ⟨e, h0⟩ | ⟨g', cap, cur, e, _, _, hc, _⟩
       · injection e with _ _ e; omega
       · injection e with _ _ e; omega
    have HSET := Lib.hid hset
    have HMADE := Lib.hid hmade
    have HZP := Lib.hid hzp
    clear hset hmade hzp hk hpl
    go_wp2_with (first
     | (refine wpList_load_row rfl 39 (.tmp 5) rfl B5 rfl 39 (pcells bb a n c).toArray (0, 0) _ HMW.out.p Tryz.underlying39 rfl HZP.out.1 ?_)
     | (refine wpList_store_row rfl 39 (.tmp 4) (.tmp 46) rfl B4 (pcells bb a n c).toArray rfl rfl 39 Zp HMW.out.r HZP.out.1 HZP.out.2 (pcells_one _ _ _ _) ?_))
    refine bodyPost_ret (results_cell_row rfl _ _ B4 39 (pcells bb a n c).toArray (0, 0) _ rfl HSET.out Tryz.underlying39 rfl HZP.out.1) rfl ?_
    exact ⟨bb, a, n, c, rfl, HMADE.out⟩
end Go.Proofs.YtknfbccbdiidjaaGreatDoor

