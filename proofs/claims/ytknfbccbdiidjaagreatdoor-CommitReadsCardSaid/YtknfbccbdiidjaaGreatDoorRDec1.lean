/- The walk of proof.Decode. -/
import Derived.Test.YtknfbccbdiidjaaGreatDoorWs
import Derived.Test.YtknfbccbdiidjaaGreatDoorREnc1
import Derived.Test.YtknfbccbdiidjaaGreatDoorRGr
import Derived.Laws.Cover3
namespace Go.Proofs.YtknfbccbdiidjaaGreatDoor
set_option linter.unusedVariables false
set_option linter.unusedSimpArgs false
open Go.ChangeShapes Go.WideShapes Go.ChangeAt Go.RowKit Go.Maps

theorem zero_proofC : ∃ Z : Array Value, (∀ w, (zeroValue 39).run Tryz.prog w = .ok (.agg Z) w) ∧ (∀ w, (Instr.build 39 #[]).run Tryz.prog w = .ok (.agg Z) w) ∧ Z.size = 33 ∧ ¬ Z = #[] ∧ Z = (pcells (List.replicate 32 0) none 0 0).toArray := by
 have hs : (pcells (List.replicate 32 0) none 0 0).toArray.size = 33 := by kernel_rfl
 exact ⟨_, fun w => by kernel_rfl, fun w => by kernel_rfl, hs, fun e => (by rw [e] at hs; cases hs), rfl⟩
theorem node_build (D : List Nat) (h : D.length = 32) (w : World) : (Instr.build 30 #[(0, .agg (bcells D).toArray)]).run Tryz.prog w = .ok (.agg (ncells D 0).toArray) w := by
 obtain ⟨d0, d1, d2, d3, d4, d5, d6, d7, d8, d9, d10, d11, d12, d13, d14, d15, d16, d17, d18, d19, d20, d21, d22, d23, d24, d25, d26, d27, d28, d29, d30, d31, rfl⟩ := thirty_two D h
 exact run_build w 30 _ _ (by kernel_rfl)
theorem nc_set {hv : List Nat} (h : hv.length = 32) (x y : Nat) : (ncells hv x).toArray.setIfInBounds 32 (.int .u64 (y : Int)) = (ncells hv y).toArray := by
 rw [List.setIfInBounds_toArray]
 congr 1
 unfold ncells
 rw [List.set_append_right _ _ (by rw [bcells_length, h]; exact Nat.le_refl _), bcells_length, h]; rfl
theorem Bytes.opened {w : World} {a : Option Addr} {n c : Nat} {l : List Nat} (h : Bytes w w.heap.size (.slice a n c) l) : n = l.length ∧ n ≤ c ∧ (∀ x ∈ l, x < 256) ∧
  (0 < n → ∃ bg bo, a = some ⟨bg, bo, none⟩ ∧ bg < w.heap.size ∧ ∀ i, i < n → w.cell? ⟨bg, bo + i, none⟩ = some (.int .u8 (l.getD i 0 : Nat))) := by
 obtain ⟨a', c', e, h1, h2, h3⟩ := h
 injection e with e1 e2 e3
 subst e1 e2 e3
 refine ⟨rfl, h1, h2, fun h0 => ?_⟩
 obtain ⟨bg, bo, e, _, hc⟩ := h3 h0
 exact ⟨bg, bo, e, World.block_lt_of_cell? w _ (hc 0 h0), hc⟩
set_option maxRecDepth 100000 in
theorem or_byte (x c : Nat) (hc : c < 256) (hx : x * 256 + c < 18446744073709551616) : bits BinOp.or .u64 ((x : Int) * 256) (c : Int) = ((x * 256 + c : Nat) : Int) := by
 rw [show ((x : Int) * 256) = ((x * 256 : Nat) : Int) by omega]
 have h1 : x * 256 ||| c = x * 256 + c := by
  have := Nat.shiftLeft_add_eq_or_of_lt (i := 8) (b := c) (by omega) x
  rw [Nat.shiftLeft_eq] at this
  exact this.symm
 unfold bits
 have e : (BitVec.ofInt IntKind.u64.bits ((x * 256 : Nat) : Int) ||| BitVec.ofInt IntKind.u64.bits (c : Int)).toNat = x * 256 + c := by
  show (BitVec.ofInt 64 ((x * 256 : Nat) : Int) ||| BitVec.ofInt 64 (c : Int)).toNat = x * 256 + c
  rw [BitVec.ofInt_natCast, BitVec.ofInt_natCast, BitVec.toNat_or, BitVec.toNat_ofNat, BitVec.toNat_ofNat, Nat.mod_eq_of_lt (by omega), Nat.mod_eq_of_lt (by omega), h1]
 simp only [e]
 rw [IntKind.wrap_u64]; omega
def decE (bs : List Nat) : Nat := match decP bs with | .error e => e | .ok _ => 0
def decB (bs : List Nat) : List Nat := match decP bs with | .error _ => List.replicate 32 0 | .ok _ => bs.take 32
def decX (bs : List Nat) : List Nd := match decP bs with | .error _ => [] | .ok xs => xs
theorem dec_err {bs : List Nat} {e : Nat} (h : decP bs = .error e) : decE bs = e ∧ decB bs = List.replicate 32 0 ∧ decX bs = [] := by unfold decE decB decX; rw [h]; exact ⟨rfl, rfl, rfl⟩
theorem dec_okE {bs : List Nat} {xs : List Nd} (h : decP bs = .ok xs) : decE bs = 0 ∧ decB bs = bs.take 32 ∧ decX bs = xs := by unfold decE decB decX; rw [h]; exact ⟨rfl, rfl, rfl⟩
def DecOut (w : World) (bs : List Nat) (e : Ending) (w' : World) : Prop :=
 ∃ a c, e = .returned (.tuple #[.agg (pcells (decB bs) a (decX bs).length c).toArray, .int .i64 (decE bs : Nat)]) ∧ NodesAt w' a (decX bs).length (decX bs) ∧ (∀ A, a = some A → w.heap.size ≤ A.block) ∧ Below w.heap.size w w'
theorem DecOut.err {w w' : World} {bs : List Nat} {e : Nat} (h : decP bs = .error e) (hb : Below w.heap.size w w') : DecOut w bs (.returned (.tuple #[.agg (pcells (List.replicate 32 0) none 0 0).toArray, .int .i64 (e : Int)])) w' := by
 obtain ⟨h1, h2, h3⟩ := dec_err h
 refine ⟨none, 0, ?_, ?_, (fun A hA => by cases hA), hb⟩
 · rw [h1, h2, h3]; rfl
 · rw [h3]; exact nodes_nil _ _
structure DecW (w : World) (bs : List Nat) (B2 B4 : Nat) (Zp : Array Value) (n : Nat) (v : Value) (a : Option Addr) (c : Nat) (wr : World) : Prop where
 p : Has wr B4 39 (pcells (bs.take 32) a n c).toArray
 r : Has wr B2 39 Zp
 own : wr.ownsRow w.heap.size 30 33 (.slice a n c) n ((decNds bs n).flatMap ndV)
 src : Bytes w w.heap.size v (bs.drop (32 + 40 * n))
 bel : Below w.heap.size w wr
variable {w : World} {bs : List Nat} {B2 B4 : Nat} {Zp : Array Value} {n : Nat} {v : Value} {a : Option Addr} {c : Nat} {wr wr' : World}
theorem DecW.below (h : DecW w bs B2 B4 Zp n v a c wr) (hb : Below wr.heap.size wr wr') : DecW w bs B2 B4 Zp n v a c wr' :=
 ⟨h.p.below hb h.p.lt, h.r.below hb h.r.lt, own_kept h.own (Kept.of_below (S := fun _ => False) hb) (fun _ _ e => e), h.src, h.bel.trans (hb.mono h.bel.size)⟩
theorem DecW.kept {S : Nat → Prop} (h : DecW w bs B2 B4 Zp n v a c wr) (hk : Kept S wr wr') (h2 : ¬ S B2) (h4 : ¬ S B4) (ho : ∀ j, (Value.slice a n c).ownBlock = some j → ¬ S j) (hb : ∀ j, S j → w.heap.size ≤ j) : DecW w bs B2 B4 Zp n v a c wr' :=
 ⟨h.p.kept hk h4, h.r.kept hk h2, own_kept h.own hk ho, h.src, h.bel.trans (hk.below h.bel.size hb)⟩
theorem DecW.put (h : DecW w bs B2 B4 Zp n v a c wr) (hpl : w.heap.size ≤ B2 ∧ B2 < B4) (hh : IsHash (bs.take 32)) {C : Obj} {g7 cap7 : Nat} {w7 : World}
   (ho : w7.ownsRow w.heap.size 30 33 (.slice (some ⟨g7, 0, none⟩) (n + 1) cap7) (n + 1) ((decNds bs n).flatMap ndV ++ ndV (decNd bs n))) (hg : (wr.alloc C).grownBy w7 (Value.slice a n c).ownBlock) {v' : Value} (hv : Bytes w w.heap.size v' (bs.drop (32 + 40 * (n + 1)))) :
   Has w7 B4 39 (pcells (bs.take 32) a n c).toArray ∧ DecW w bs B2 B4 Zp (n + 1) v' (some ⟨g7, 0, none⟩) cap7 (w7.setCell ⟨B4, 32, none⟩ (.slice (some ⟨g7, 0, none⟩) (n + 1) cap7)) := by
 have hk1 : Kept (fun j => (Value.slice a n c).ownBlock = some j) wr w7 := ((Kept.refl _ wr).alloc _).grown hg (fun j e => .inl e)
 have hp7 := h.p.kept hk1 (fun e => own_has_ne h.own h.p (by decide) B4 e rfl)
 have hp8 := hp7.set 32 (.slice (some ⟨g7, 0, none⟩) (n + 1) cap7)
 rw [pcells_put hh] at hp8
 have hk2 : Kept (· = B4) w7 (w7.setCell ⟨B4, 32, none⟩ (.slice (some ⟨g7, 0, none⟩) (n + 1) cap7)) := (Kept.refl (· = B4) w7).set (p := ⟨B4, 32, none⟩) (.inl rfl) _
 have hk3 : Kept (fun j => j = B4 ∨ (Value.slice a n c).ownBlock = some j) wr (w7.setCell ⟨B4, 32, none⟩ (.slice (some ⟨g7, 0, none⟩) (n + 1) cap7)) := (hk1.mono (fun _ _ e => .inr e)).step hk2 (fun j e => .inl (.inl e))
 refine ⟨hp7, hp8, h.r.kept hk3 (fun e => e.elim (fun e => by omega) (fun e => own_has_ne h.own h.r (by decide) B2 e rfl)), ?_, hv, h.bel.trans (hk3.below h.bel.size (fun j e => ?_))⟩
 · rw [decNds_succ, List.flatMap_append]
   refine own_kept (by rw [List.flatMap_singleton]; exact ho) hk2 (fun j e1 e2 => own_has_ne ho hp7 (by decide) j e1 e2)
 · rcases e with e | e
   · omega
   · exact (h.own.lt j e).1
theorem DecW.done (h : DecW w bs B2 B4 Zp n v a c wr) (hpl : w.heap.size ≤ B2 ∧ B2 < B4) (hx : ∀ x ∈ bs, x < 256) (h32 : ¬ bs.length < 32) (hn : n = cntF (bareB (bs.take 32)) 256) (hl : 32 + 40 * n = bs.length) {cs : Array Value} :
   DecOut w bs (.returned (.tuple #[.agg (pcells (bs.take 32) a n c).toArray, .int .i64 0])) (wr.setRow B2 cs) := by
 have hd := decP_done h32 (by rw [← hn]; exact hl)
 rw [← hn] at hd
 obtain ⟨h1, h2, h3⟩ := dec_okE hd
 have hk := kept_setRow (g := B2) wr cs
 have hno := own_nodes (own_kept h.own hk (fun j e1 e2 => own_has_ne h.own h.r (by decide) j e1 e2)) (decNds_len bs n) (fun x hxx => (nds_hash hx (by omega) x hxx).1) (fun x hxx => (nds_hash hx (by omega) x hxx).2)
 refine ⟨a, c, ?_, ?_, fun A hA => (h.own.lt A.block (by rw [hA]; rfl)).1, h.bel.trans (hk.below h.bel.size (fun j e => by have e' : j = B2 := e; omega))⟩
 · rw [h1, h2, h3, decNds_len]; rfl
 · rw [h3, decNds_len]; exact hno.1
set_option maxRecDepth 100000 in
set_option maxHeartbeats 8000000 in
theorem decode_is (w : World) (v : Value) (bs : List Nat) (hB : Bytes w w.heap.size v bs) (hl : bs.length ≤ 1000000) :
   Calls Tryz.prog 37 #[v] w (DecOut w bs) := by
 obtain ⟨Zp, hzp, hbp, hZps, hZpn, hZp⟩ := zero_proofC
 obtain ⟨Z, hz, hZs, hZn, -⟩ := zero_node
 obtain ⟨inode, his, his0, his1, his2⟩ := info_parts info_node
 have SZP := Lib.hid (show ∀ (bb : List Nat), IsHash bb → ∀ (a : Option Addr) (n c : Nat), (Tryz.prog.info? 39).map (·.size) = some (pcells bb a n c).toArray.size ∧ Zp.size = (pcells bb a n c).toArray.size from fun bb hb a n c => by rw [List.size_toArray, pcells_len hb, hZps]; exact ⟨by kernel_rfl, rfl⟩)
 have SZZ := Lib.hid (show (Tryz.prog.info? 39).map (·.size) = some Zp.size by rw [hZps]; kernel_rfl)
 have ONEP := Lib.hid (show Zp.all (·.oneCell') = true by rw [hZp]; exact pcells_one _ _ _ _)
 have EZP := Lib.hid hZp
 have EZS := Lib.hid hZs
 have HBP := Lib.hid hbp
 obtain ⟨L, hL⟩ : ∃ L, L = bs.length := ⟨_, rfl⟩
 obtain ⟨a0, c0, rfl, -, hx, -⟩ := id hB
 rw [← hL] at hB ⊢
 have HB := Lib.hid hB
 have HX := Lib.hid hx
 have HL := Lib.hid hL
 rw [← hL] at hl
 clear hZp hbp hZps hx hL hB hZs
 by_cases h32 : L < 32
 · have h32' : (L : Int) < 32 := by omega
   have HP := Lib.hid (decP_less (b := bs) (by rw [← HL.out]; exact h32))
   have hset : Has (((w.alloc (.cells Zp 39)).alloc (.cells Zp 39)).setRow w.heap.size Zp) w.heap.size 39 Zp ∧ Below w.heap.size w (((w.alloc (.cells Zp 39)).alloc (.cells Zp 39)).setRow w.heap.size Zp) := by
     have h0 := (Has.new w 39 Zp).alloc (.cells Zp 39)
     have hb : Below w.heap.size w ((w.alloc (.cells Zp 39)).alloc (.cells Zp 39)) := ((Below.refl _ _).alloc (Nat.le_refl _) _).alloc (by simp) _
     exact ⟨h0.setRow, hb.trans ((kept_setRow (g := w.heap.size) _ Zp).below hb.size (fun j e => by have e' : j = w.heap.size := e; omega))⟩
   have HSET := Lib.hid hset
   have H0 := Lib.hid ((Has.new w 39 Zp).alloc (.cells Zp 39))
   clear hset h32
   go_enter Tryz.func37, Tryz.ntmps37
   go_wp2_with (first
     | (refine wpList_build_run (by kernel_rfl) 39 _ rfl #[] (by kernel_rfl) (.agg Zp) (HBP.out _) ?_)
     | (refine wpList_store_row rfl 39 (.tmp 2) (.tmp 12) rfl w.heap.size Zp rfl rfl 39 Zp H0.out SZZ.out rfl ONEP.out ?_))
   refine bodyPost_ret (results_cell_tmp rfl _ _ w.heap.size 39 Zp (0, 0) _ rfl rfl HSET.out.1 Tryz.underlying39 SZZ.out) rfl ?_
   have := DecOut.err HP.out HSET.out.2
   rw [← EZP.out] at this
   exact this
 have HH := Lib.hid (show IsHash (bs.take 32) from ⟨by rw [List.length_take, ← HL.out]; omega, fun x hx => HX.out x (List.mem_of_mem_take hx)⟩)
 obtain ⟨-, hcap, -, hop⟩ := HB.out.opened
 obtain ⟨bg, bo, rfl, hbg, hcell⟩ := hop (by omega)
 have h32' : ¬ (L : Int) < 32 := by omega
 have HC := Lib.hid hcell
 have HBG := Lib.hid hbg
 obtain ⟨a1, c1, hcut, -, hb1⟩ := HB.out.cut 32 (by omega)
 have HB1 := Lib.hid hb1
 have hcut' : ∀ w', (Instr.slice 48 (.slice (some ⟨bg, bo, none⟩) L c0) (some (.int .i64 32)) none none).run Tryz.prog w' = .ok (.slice a1 (L - 32) c1) w' := hcut
 clear hcell hcut hb1 hbg
 go_enter Tryz.func37, Tryz.ntmps37
 go_upto_region 2 with (fail)
 have h2 : Has ((w.alloc (.cells Zp 39)).alloc (.cells Zp 39)) w.heap.size 39 Zp := (Has.new w _ _).alloc _
 have h4 : Has ((w.alloc (.cells Zp 39)).alloc (.cells Zp 39)) (w.heap.size + 1) 39 Zp := by
   have := Has.new (w.alloc (.cells Zp 39)) 39 Zp
   simpa using this
 have hbe : Below w.heap.size w ((w.alloc (.cells Zp 39)).alloc (.cells Zp 39)) := ((Below.refl _ _).alloc (Nat.le_refl _) _).alloc (by simp) _
 generalize (w.alloc (.cells Zp 39)).alloc (.cells Zp 39) = W1 at h2 h4 hbe ⊢
 obtain ⟨B4, hB4⟩ : ∃ b, b = w.heap.size + 1 := ⟨_, rfl⟩
 obtain ⟨B2, hB2⟩ : ∃ b, b = w.heap.size := ⟨_, rfl⟩
 have HPL := Lib.hid (show w.heap.size ≤ B2 ∧ B2 < B4 by omega)
 have H2 := Lib.hid (show Has W1 B2 39 Zp by rw [hB2]; exact h2)
 have H4 := Lib.hid (show Has W1 B4 39 (pcells (List.replicate 32 0) none 0 0).toArray by rw [hB4, ← EZP.out]; exact h4)
 have HBE := Lib.hid hbe
 rw [← hB4, ← hB2]
 have HSRC := Lib.hid (show 0 < (bcells (bs.take 32)).length → (some ⟨B4, 0, none⟩ : Option Addr) = some ⟨B4, 0, none⟩ ∧ ∃ ad : Addr, (some ⟨bg, bo, none⟩ : Option Addr) = some ad ∧ ∀ j u, (bcells (bs.take 32))[j]? = some u → W1.cell? (ad.add j) = some u from fun _ => ⟨rfl, _, rfl, fun j u hu => by
   have hj := (List.getElem?_eq_some_iff.1 hu).1
   rw [bcells_length, HH.out.1] at hj
   rw [bcells_get _ _ (by rw [HH.out.1]; exact hj)] at hu
   have hu' := Option.some.inj hu
   rw [← hu']
   rw [Addr.add_mid, HBE.out.cell (p := ⟨bg, bo + j, none⟩) HBG.out, HC.out j (by omega)]
   rw [List.getD_eq_getElem?_getD, List.getD_eq_getElem?_getD, List.getElem?_take_of_lt hj]⟩)
 have HSP := Lib.hid (show splice (pcells (List.replicate 32 0) none 0 0) 0 (bcells (bs.take 32)) = pcells (bs.take 32) none 0 0 by
   unfold splice pcells
   rw [List.take_zero, bcells_length, HH.out.1]; rfl)
 have HMIN := Lib.hid (show (bcells (bs.take 32)).length = Nat.min L 32 by rw [bcells_length, HH.out.1]; show 32 = min L 32; omega)
 have HFIT := Lib.hid (show 0 + (bcells (bs.take 32)).length ≤ (pcells (List.replicate 32 0) none 0 0).length by rw [bcells_length, HH.out.1, pcells_len (bb := List.replicate 32 0) zNd_hash none 0 0]; decide)
 clear h2 h4 hbe hB4 hB2
 go_upto_region 5 with (refine wpList_copy_kept rfl (.tmp 14) (.tmp 15) 48 48 rfl 5 Tryz.underlying48 size_u8 (some ⟨B4, 0, none⟩) (some ⟨bg, bo, none⟩) 32 32 L c0 rfl rfl B4 0 (pcells (List.replicate 32 0) none 0 0) 39 H4.out (bcells (bs.take 32)) HMIN.out HSRC.out HFIT.out (bcells_one _) ?_; intro w2 hw2 hk2)
 have hd0 : DecW w bs B2 B4 Zp 0 (.slice a1 (L - 32) c1) none 0 w2 := by
   have hpl := HPL.out
   rw [HSP.out] at hw2
   refine ⟨hw2, H2.out.kept hk2 (by show ¬ B2 = B4; omega), ⟨rfl, .inl ⟨rfl, rfl⟩⟩, HB1.out, HBE.out.trans (hk2.below HBE.out.size (fun j e => by have e' : j = B4 := e; omega))⟩
 have HD0 := Lib.hid hd0
 clear hw2 hk2 hd0 HSRC HSP HMIN HFIT H2 H4 HBE HB1 HC HBG
 go_wp2_with fail
 clear hcut'
 go_loopw [0, 19] (fun bv iv wr => ∃ (h n : Nat) (a : Option Addr) (c : Nat), iv = .int .i64 (h : Int) ∧ h ≤ 256 ∧ n = cntF (bareB (bs.take 32)) h ∧ 32 + 40 * n ≤ bs.length ∧ DecW w bs B2 B4 Zp n bv a c wr) (fun _ iv _ => 256 - (intOf iv).toNat)
 case atStart => exact ⟨0, 0, none, 0, rfl, Nat.zero_le _, rfl, by have := HL.out; omega, HD0.out⟩
 case round =>
   clear HD0
   obtain ⟨h, n, a, c, rfl, hh, hn, hfit, hd⟩ := hrel
   obtain ⟨av, cv, rfl, -, -, -⟩ := id hd.src
   obtain ⟨M, hM⟩ : ∃ M, M = (bs.drop (32 + 40 * n)).length := ⟨_, rfl⟩
   rw [← hM] at hd ⊢
   rw [List.length_drop, ← HL.out] at hM
   rw [← HL.out] at hfit
   have HD := Lib.hid hd
   have HN := Lib.hid hn
   have HM := Lib.hid hM
   have HFT := Lib.hid hfit
   clear hd hn hM hfit
   have H32 := Lib.hid (show ¬ bs.length < 32 by rw [← HL.out]; exact h32)
   by_cases hlt : h < 256
   · have hlt' : (h : Int) < 256 := by omega
     obtain ⟨bt, hbt⟩ : ∃ b, b = bareB (bs.take 32) h := ⟨_, rfl⟩
     have HBT := Lib.hid hbt
     clear hbt
     go_wp2_with (refine wpList_load_row rfl 39 (.tmp 4) rfl B4 rfl 39 (pcells (bs.take 32) a n c).toArray (0, 0) _ HD.out.p Tryz.underlying39 rfl (SZP.out _ HH.out a n c).1 ?_)
     refine (bare_is _ (bs.take 32) HH.out a n c h hlt).mono ?_
     rintro _ w3 ⟨rfl, rfl⟩
     have hd3 := HD.out.below ((Below.refl _ _).alloc (Nat.le_refl _) (.cells (pcells (bs.take 32) a n c).toArray 39))
     generalize wr.alloc (.cells (pcells (bs.take 32) a n c).toArray 39) = W3 at hd3 ⊢
     rw [← HBT.out]
     have HD3 := Lib.hid hd3
     clear hd3 HD
     cases bt with
     | true =>
       go_wp2_with fail
       go_roundw
       case rel => exact ⟨h + 1, n, a, c, by go_num, by omega, by rw [cnt_bare HBT.out.symm]; exact HN.out, by have := HFT.out; have := HL.out; omega, HD3.out⟩
       case measure => simp [intOf]; omega
     | false =>
       by_cases hs : M < 40
       · have hs' : (M : Int) < 40 := by omega
         have HP := Lib.hid (decP_short (b := bs) H32.out hlt HBT.out.symm (by have h1 := HM.out; have h2 := HL.out; have h3 := HFT.out; rw [← HN.out]; omega))
         have hk := kept_setRow (g := B2) W3 Zp
         have hset : Has (W3.setRow B2 Zp) B2 39 Zp ∧ Below w.heap.size w (W3.setRow B2 Zp) := ⟨HD3.out.r.setRow, HD3.out.bel.trans (hk.below HD3.out.bel.size (fun j e => by have e' : j = B2 := e; have := HPL.out; omega))⟩
         have HSET := Lib.hid hset
         clear hset hk
         go_wp2_with (first
          | (refine wpList_build_run (by kernel_rfl) 39 _ rfl #[] (by kernel_rfl) (.agg Zp) (HBP.out _) ?_)
          | (refine wpList_store_row rfl 39 (.tmp 2) (.tmp 28) rfl B2 Zp rfl rfl 39 Zp HD3.out.r SZZ.out rfl ONEP.out ?_))
         refine bodyPost_ret (results_cell_tmp rfl _ _ B2 39 Zp (0, 0) _ rfl rfl HSET.out.1 Tryz.underlying39 SZZ.out) rfl ?_
         have := DecOut.err HP.out HSET.out.2
         rw [← EZP.out] at this
         exact this
       · have hs' : ¬ (M : Int) < 40 := by omega
         obtain ⟨-, hcv, -, hop⟩ := HD3.out.src.opened
         obtain ⟨bg, bo, rfl, hbg, hcell⟩ := hop (by omega)
         have HCL := Lib.hid (show ∀ W', Below w.heap.size w W' → ∀ i, i < M → W'.cell? ⟨bg, bo + i, none⟩ = some (.int .u8 ((bs.drop (32 + 40 * n)).getD i 0 : Nat)) from fun W' hW' i hi => by
          rw [hW'.cell (p := ⟨bg, bo + i, none⟩) hbg]; exact hcell i hi)
         obtain ⟨a2, c2, hcut, -, hb2⟩ := HD3.out.src.cut 40 (by omega)
         have hcut2 : ∀ w', (Instr.slice 48 (.slice (some ⟨bg, bo, none⟩) M cv) (some (.int .i64 40)) none none).run Tryz.prog w' = .ok (.slice a2 (M - 40) c2) w' := hcut
         have HCUT := Lib.hid hcut2
         rw [List.drop_drop, show 32 + 40 * n + 40 = 32 + 40 * (n + 1) by omega] at hb2
         have HB2 := Lib.hid hb2
         obtain ⟨hv, hhv⟩ : ∃ l, l = (bs.drop (32 + 40 * n)).take 32 := ⟨_, rfl⟩
         obtain ⟨tl, htl⟩ : ∃ l, l = (bs.drop (32 + 40 * n + 32)).take 8 := ⟨_, rfl⟩
         have hvh : IsHash hv := ⟨by rw [hhv, List.length_take, List.length_drop, ← HL.out]; have := HM.out; omega, fun x hx => by rw [hhv] at hx; exact HX.out x (List.mem_of_mem_drop (List.mem_of_mem_take hx))⟩
         have htlx : tl.length = 8 ∧ ∀ x ∈ tl, x < 256 := ⟨by rw [htl, List.length_take, List.length_drop, ← HL.out]; have := HM.out; omega, fun x hx => by rw [htl] at hx; exact HX.out x (List.mem_of_mem_drop (List.mem_of_mem_take hx))⟩
         have HND := Lib.hid (show ncells hv (num8 tl) = ndV (decNd bs n) by rw [hhv, htl]; rfl)
         have HVH := Lib.hid hvh
         have HTL := Lib.hid htlx
         have hrh : W3.rangeAt bg bo (bcells hv) := fun j u hu => by
          have hj := (List.getElem?_eq_some_iff.1 hu).1
          rw [bcells_length, HVH.out.1] at hj
          rw [HCL.out W3 HD3.out.bel j (by omega)]
          rw [← hu, bcells_get _ _ (by rw [HVH.out.1]; exact hj), hhv, List.getD_eq_getElem?_getD, List.getD_eq_getElem?_getD, List.getElem?_take_of_lt hj]
         have HRH := Lib.hid hrh
         have HTC := Lib.hid (show ∀ W', Below w.heap.size w W' → ∀ j, j < 8 → W'.cell? ⟨bg, bo + 32 + j, none⟩ = some (.int .u8 (tl.getD j 0 : Nat)) from fun W' hW' j hj => by
          rw [Nat.add_assoc, HCL.out W' hW' (32 + j) (by omega), htl, List.getD_eq_getElem?_getD, List.getD_eq_getElem?_getD, List.getElem?_take_of_lt hj, List.getElem?_drop, List.getElem?_drop, show 32 + 40 * n + (32 + j) = 32 + 40 * n + 32 + j from (Nat.add_assoc _ _ _).symm])
         have hat : ∀ w, (Instr.arrayAt 27 (.slice (some ⟨bg, bo, none⟩) 32 cv)).run Tryz.prog w = .ok (.pointer (some ⟨bg, bo, none⟩)) w := fun w => run_arrayAt w 27 _ 32 _ 32 cv Tryz.underlying27 (Nat.le_refl _)
         have SZB := Lib.hid (show (Tryz.prog.info? 27).map (·.size) = some (bcells hv).length by rw [bcells_length, HVH.out.1]; kernel_rfl)
         have HBLD := Lib.hid (node_build hv HVH.out.1)
         obtain ⟨LN, hLN⟩ : ∃ l, l = ncells hv 0 := ⟨_, rfl⟩
         rw [← hLN] at HBLD
         have SZN := Lib.hid (show (Tryz.prog.info? 30).map (·.size) = some LN.toArray.size by rw [hLN, List.size_toArray, ncells, List.length_append, bcells_length, HVH.out.1]; kernel_rfl)
         have HZN := Lib.hid (show Z.size = LN.toArray.size by rw [EZS.out, hLN, List.size_toArray, ncells, List.length_append, bcells_length, HVH.out.1]; rfl)
         have ONEN := Lib.hid (show LN.toArray.all (·.oneCell') = true by rw [hLN]; exact ndV_one ⟨hv, 0⟩)
         have HLN := Lib.hid hLN
         clear hcell hcut hcut2 hb2 hhv htl hvh htlx hrh hLN
         go_upto_region 13 with (first
          | (refine wpList_load_mid rfl 27 (.tmp 31) rfl bg bo rfl (bcells hv) _ HRH.out Tryz.underlying27 rfl SZB.out ?_)
          | (refine wpList_build_run (by kernel_rfl) 30 _ rfl #[(0, .agg (bcells hv).toArray)] (by kernel_rfl) (.agg LN.toArray) (HBLD.out _) ?_)
          | (refine wpList_store_row rfl 30 (.tmp 6) (.tmp 33) rfl W3.heap.size LN.toArray rfl rfl 30 Z (heap_alloc_new W3 _) SZN.out HZN.out ONEN.out ?_))
         have hnw : Has ((W3.alloc (.cells Z 30)).setRow W3.heap.size LN.toArray) W3.heap.size 30 LN.toArray ∧ DecW w bs B2 B4 Zp n (.slice (some ⟨bg, bo, none⟩) M cv) a c ((W3.alloc (.cells Z 30)).setRow W3.heap.size LN.toArray) := by
          rw [World.setRow_alloc_new]
          exact ⟨Has.new _ _ _, HD3.out.below ((Below.refl _ _).alloc (Nat.le_refl _) _)⟩
         rw [HLN.out] at hnw ⊢
         generalize (W3.alloc (.cells Z 30)).setRow W3.heap.size (ncells hv 0).toArray = W5 at hnw ⊢
         have HG6 := Lib.hid (show w.heap.size ≤ W3.heap.size ∧ B4 < W3.heap.size ∧ B2 < W3.heap.size from ⟨HD3.out.bel.size, HD3.out.p.lt, HD3.out.r.lt⟩)
         have HOB := Lib.hid (show ∀ k, (Value.slice a n c).ownBlock = some k → k < W3.heap.size from fun k e => (HD3.out.own.lt k e).2)
         generalize W3.heap.size = G6 at hnw HG6 HOB ⊢
         have HNW := Lib.hid hnw
         clear hnw hat HRH HD3
         go_wp2_with fail
         go_loopw [37] (fun iv wr => ∃ j : Nat, iv = .int .i64 (j : Int) ∧ j ≤ 8 ∧ Has wr G6 30 (ncells hv (num8 (tl.take j))).toArray ∧ DecW w bs B2 B4 Zp n (.slice (some ⟨bg, bo, none⟩) M cv) a c wr) (fun iv _ => 8 - (intOf iv).toNat)
         case atStart => exact ⟨0, rfl, Nat.zero_le _, HNW.out.1, HNW.out.2⟩
         case round =>
          clear HNW
          obtain ⟨j, rfl, hj, hg6, hdx⟩ := hrel
          have HGX := Lib.hid hg6
          have HDX := Lib.hid hdx
          clear hg6 hdx
          by_cases hj8 : j < 8
          · have hj8' : (j : Int) < 8 := by omega
            have cb := HTC.out wr HDX.out.bel j hj8
            have hct := HTL.out.2 (tl.getD j 0) (by rw [List.getD_eq_getElem?_getD, List.getElem?_eq_getElem (by rw [HTL.out.1]; exact hj8)]; exact List.getElem_mem _)
            obtain ⟨ct, hce⟩ : ∃ x, x = tl.getD j 0 := ⟨_, rfl⟩
            rw [← hce] at cb hct
            obtain ⟨x, hxe⟩ : ∃ x, x = num8 (tl.take j) := ⟨_, rfl⟩
            have c6 : wr.cell? ⟨G6, 32, none⟩ = some (.int .u64 (x : Int)) := HGX.out.cell_is (by
             rw [List.getElem?_toArray, ncells, List.getElem?_append_right (by rw [bcells_length, HVH.out.1]; exact Nat.le_refl _), bcells_length, HVH.out.1, ← hxe]; rfl)
            have hx7 : x < 72057594037927936 := by
             have h1 := num8_lt j (tl.take j) (by rw [List.length_take, HTL.out.1]; omega) (fun y hy => HTL.out.2 y (List.mem_of_mem_take hy))
             rw [← hxe] at h1
             have h2 : 256 ^ j ≤ 256 ^ 7 := Nat.pow_le_pow_right (by decide) (by omega)
             exact Nat.lt_of_lt_of_le h1 h2
            have HNX := Lib.hid (show num8 (tl.take (j + 1)) = x * 256 + ct by
             rw [List.take_add_one, List.getElem?_eq_getElem (by rw [HTL.out.1]; exact hj8)]
             show num8 (tl.take j ++ [tl[j]'(by rw [HTL.out.1]; exact hj8)]) = _
             rw [num8_snoc, ← hxe, hce, List.getD_eq_getElem?_getD, List.getElem?_eq_getElem (by rw [HTL.out.1]; exact hj8)]; rfl)
            obtain ⟨y, hy⟩ : ∃ y, y = x * 256 + ct := ⟨_, rfl⟩
            have hor := or_byte x ct hct (by omega)
            rw [← hy] at hor HNX
            have fr6 := HGX.out.free 32
            have hs6 : Has (wr.setCell ⟨G6, 32, none⟩ (.int .u64 (y : Int))) G6 30 (ncells hv (num8 (tl.take (j + 1)))).toArray := by
             rw [HNX.out, ← nc_set HVH.out.1 (num8 (tl.take j)) y]
             exact HGX.out.set 32 (.int .u64 (y : Int))
            have hk6 : Kept (· = G6) wr (wr.setCell ⟨G6, 32, none⟩ (.int .u64 (y : Int))) := (Kept.refl (· = G6) wr).set (p := ⟨G6, 32, none⟩) (.inl rfl) _
            have HFIN := Lib.hid (And.intro hs6 (HDX.out.kept hk6 (by have := HG6.out; show ¬ B2 = G6; omega) (by have := HG6.out; show ¬ B4 = G6; omega) (fun k e e2 => by have e' : k = G6 := e2; have := HOB.out k e; omega) (fun k e => by have := HG6.out; have e' : k = G6 := e; omega)))
            clear hce hxe hs6 hk6 hy
            go_wp2_with fail
            go_roundw
            case rel => exact ⟨j + 1, by go_num, by omega, HFIN.out⟩
            case measure => simp [intOf]; omega
          · obtain rfl : j = 8 := by omega
            have hj8' : ¬ ((8 : Nat) : Int) < 8 := by omega
            obtain ⟨LX, hLX⟩ : ∃ l, l = ncells hv (num8 (tl.take 8)) := ⟨_, rfl⟩
            have hG := HGX.out
            rw [← hLX] at hG
            have hle : LX = ndV (decNd bs n) := by rw [hLX, ← HND.out, List.take_of_length_le (by rw [HTL.out.1]; exact Nat.le_refl _)]
            have HGY := Lib.hid hG
            have hln : LX.length = 33 := by rw [hLX, ncells, List.length_append, bcells_length, HVH.out.1]; rfl
            have SZX := Lib.hid (show (Tryz.prog.info? 30).map (·.size) = some LX.toArray.size by rw [List.size_toArray, hln]; kernel_rfl)
            have c32 := HDX.out.p.cell_is (i := 32) (by rw [List.getElem?_toArray]; exact pcells_row HH.out a n c)
            have HZ33 := Lib.hid (show (Value.agg (List.replicate 32 (Value.int .u8 0) ++ [Value.int .u64 0]).toArray).cells.size = 33 by kernel_rfl)
            have hn256 : n ≤ 256 := by rw [HN.out]; exact Nat.le_trans (cnt_le _ _) hh
            have HML := Lib.hid (show n + 1 ≤ maxLen by unfold maxLen; omega)
            have HBYT := Lib.hid (show (n + 1) * 40 ≤ 140737488355328 by omega)
            have hB5 : w.heap.size ≤ wr.heap.size := HDX.out.bel.size
            have HBS := Lib.hid (show ∀ C, w.heap.size ≤ (wr.alloc C).heap.size by intro C; show _ ≤ (wr.heap.push _).size; rw [Array.size_push]; omega)
            have HLL := Lib.hid (show LX.length = 1 * 33 from hln)
            have HL1 := Lib.hid (show ∀ v ∈ LX, v.oneCell' = true by rw [hLX]; exact ncells_one _ _)
            have h0k : 0 < LX.length := by rw [hln]; decide
            have h24 : LX.length ≤ 16777216 := by rw [hln]; decide
            have HIL := Lib.hid (show inode.size = LX.length by rw [his1, hln])
            have HZL := Lib.hid (show (Value.agg (List.replicate 32 (Value.int .u8 0) ++ [Value.int .u64 0]).toArray).cells.size = LX.length by rw [HZ33.out, hln])
            have HSUC := Lib.hid (show (wr.alloc (.cells LX.toArray 30)).heap.size = wr.heap.size + 1 by simp)
            have hend : ∀ g7 cap7 w7, w7.ownsRow w.heap.size 30 33 (.slice (some ⟨g7, 0, none⟩) (n + 1) cap7) (n + 1) ((decNds bs n).flatMap ndV ++ LX) → (wr.alloc (.cells LX.toArray 30)).grownBy w7 (Value.slice a n c).ownBlock →
              Has w7 B4 39 (pcells (bs.take 32) a n c).toArray ∧ DecW w bs B2 B4 Zp (n + 1) (.slice a2 (M - 40) c2) (some ⟨g7, 0, none⟩) cap7 (w7.setCell ⟨B4, 32, none⟩ (.slice (some ⟨g7, 0, none⟩) (n + 1) cap7)) := fun g7 cap7 w7 ho hg =>
             HDX.out.put HPL.out HH.out (by rw [← hle]; exact ho) hg HB2.out
            have HEND := Lib.hid hend
            have HOWN := Lib.hid HDX.out.own
            have HNX := Lib.hid (show n + 1 = cntF (bareB (bs.take 32)) (h + 1) by rw [cnt_node HBT.out.symm, ← HN.out])
            have HFT2 := Lib.hid (show 32 + 40 * (n + 1) ≤ bs.length by have h1 := HM.out; have h2 := HL.out; omega)
            clear hend hB5 hG hle hLX
            go_upto_region 19 with (first
             | (refine wpList_load_row rfl 30 (.tmp 6) rfl G6 rfl 30 LX.toArray (0, 0) _ HGY.out Tryz.underlying30 rfl SZX.out ?_)
             | (refine wpList_build1 rfl 37 30 (.tmp 51) rfl inode _ Tryz.underlying37 his his0 LX HIL.out HZL.out h0k h24 rfl ?_)
             | (at_builtin; refine wpList_append_lies _ rfl (.tmp 50) (.tmp 52) 37 rfl w.heap.size 30 inode _ 33 40 Tryz.underlying37 his his0 his1 his2 HZ33.out (by decide) _ n _ rfl (HOWN.out.alloc _) ⟨wr.heap.size, 0, none⟩ 1 1 LX rfl HLL.out (World.news_of_block (cs := LX.toArray) (heap_alloc_new wr _)) HL1.out (by decide) HML.out HBYT.out (HBS.out _) (wr.heap.size + 1) HSUC.out ?_; intro g7 cap7 w7 hown7 hgr7 hat7 hlt7; (have hq7 := HEND.out g7 cap7 w7 hown7 hgr7); (have c732 := hq7.1.cell_is (i := 32) (by rw [List.getElem?_toArray]; exact pcells_row HH.out a n c)); (have f732 := hq7.1.free 32); (have HQ7 := Lib.hid hq7); clear hq7 hown7 hgr7 hat7 hlt7))
            generalize w7.setCell ⟨B4, 32, none⟩ (.slice (some ⟨g7, 0, none⟩) (n + 1) cap7) = W8 at HQ7 ⊢
            have hcut3 := HCUT.out
            clear c732 f732 c32
            go_wp2_with fail
            go_roundw
            case rel => exact ⟨h + 1, n + 1, _, _, by go_num, by omega, HNX.out, HFT2.out, HQ7.out.2⟩
            case measure => simp [intOf]; omega
   · obtain rfl : h = 256 := by omega
     by_cases hm0 : 0 < M
     · have hm0' : (M : Int) > 0 := by omega
       have HP := Lib.hid (decP_trail (b := bs) H32.out (by rw [← HN.out]; have h1 := HM.out; have h2 := HL.out; omega))
       have hk := kept_setRow (g := B2) wr Zp
       have hset : Has (wr.setRow B2 Zp) B2 39 Zp ∧ Below w.heap.size w (wr.setRow B2 Zp) := ⟨HD.out.r.setRow, HD.out.bel.trans (hk.below HD.out.bel.size (fun j e => by have e' : j = B2 := e; have := HPL.out; omega))⟩
       have HSET := Lib.hid hset
       clear hset hk
       go_wp2_with (first
         | (refine wpList_build_run (by kernel_rfl) 39 _ rfl #[] (by kernel_rfl) (.agg Zp) (HBP.out _) ?_)
         | (refine wpList_store_row rfl 39 (.tmp 2) (.tmp 61) rfl B2 Zp rfl rfl 39 Zp HD.out.r SZZ.out rfl ONEP.out ?_))
       refine bodyPost_ret (results_cell_tmp rfl _ _ B2 39 Zp (0, 0) _ rfl rfl HSET.out.1 Tryz.underlying39 SZZ.out) rfl ?_
       have := DecOut.err HP.out HSET.out.2
       rw [← EZP.out] at this
       exact this
     · have hm0' : ¬ (M : Int) > 0 := by omega
       have hfin := HD.out.done HPL.out HX.out H32.out HN.out (by have h1 := HM.out; have h2 := HL.out; have h3 := HFT.out; omega) (cs := (pcells (bs.take 32) a n c).toArray)
       have hset : Has (wr.setRow B2 (pcells (bs.take 32) a n c).toArray) B2 39 (pcells (bs.take 32) a n c).toArray := HD.out.r.setRow
       have HSET := Lib.hid hset
       have HFIN := Lib.hid hfin
       have HSP := Lib.hid (SZP.out (bs.take 32) HH.out a n c)
       clear hset hfin
       go_wp2_with (first
         | (refine wpList_load_row rfl 39 (.tmp 4) rfl B4 rfl 39 (pcells (bs.take 32) a n c).toArray (0, 0) _ HD.out.p Tryz.underlying39 rfl HSP.out.1 ?_)
         | (refine wpList_store_row rfl 39 (.tmp 2) (.tmp 62) rfl B2 (pcells (bs.take 32) a n c).toArray rfl rfl 39 Zp HD.out.r HSP.out.1 HSP.out.2 (pcells_one _ _ _ _) ?_))
       refine bodyPost_ret (results_cell_tmp rfl _ _ B2 39 (pcells (bs.take 32) a n c).toArray (0, 0) _ rfl rfl HSET.out Tryz.underlying39 HSP.out.1) rfl ?_
       exact HFIN.out
end Go.Proofs.YtknfbccbdiidjaaGreatDoor

