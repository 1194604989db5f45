/- The walk of MsumSwaps. -/
import Derived.Test.YtcpomddkehhkkaaDoorSwap0
import Derived.Test.YtcpomddkehhkkaaDoorNdEq
namespace Go.Proofs.YtcpomddkehhkkaaDoor
set_option linter.unusedVariables false
set_option linter.unusedSimpArgs false
open Go.ChangeShapes Go.WideShapes Go.ChangeAt Go.RowKit Go.Maps

/-- the law's four boxes, and the bytes of what stood there. -/
structure SwB (W : World) (Bk Bl Bw Br : Nat) (LK LF LW LN : List Value) (P : Nat → Prop) (vv : Value) (vb : List Nat) : Prop where
  k : Has W Bk 27 LK.toArray
  l : Has W Bl 25 LF.toArray
  u : Has W Bw 25 LW.toArray
  r : Has W Br 29 LN.toArray
  b : RowB P W vv vb
section
variable {W W' : World} {Bk Bl Bw Br : Nat} {LK LF LW LN : List Value} {S P : Nat → Prop} {vv : Value} {vb : List Nat}
theorem SwB.all (h : SwB W Bk Bl Bw Br LK LF LW LN P vv vb) : W.rangeAt Bk 0 LK ∧ W.rangeAt Bl 0 LF ∧ W.rangeAt Bw 0 LW ∧ W.rangeAt Br 0 LN := ⟨h.k.row0, h.l.row0, h.u.row0, h.r.row0⟩
theorem SwB.kept (h : SwB W Bk Bl Bw Br LK LF LW LN P vv vb) (hk : Kept S W W') (hf : ¬ S Bk ∧ ¬ S Bl ∧ ¬ S Bw ∧ ¬ S Br ∧ ∀ k, P k → ¬ S k) : SwB W' Bk Bl Bw Br LK LF LW LN P vv vb :=
  ⟨h.k.kept hk hf.1, h.l.kept hk hf.2.1, h.u.kept hk hf.2.2.1, h.r.kept hk hf.2.2.2.1, h.b.kept hk (fun k _ => hf.2.2.2.2 k)⟩
theorem SwB.below (h : SwB W Bk Bl Bw Br LK LF LW LN P vv vb) (hb : Below W.heap.size W W') : SwB W' Bk Bl Bw Br LK LF LW LN P vv vb :=
  h.kept (Kept.of_below (S := fun _ => False) hb) ⟨fun h => h, fun h => h, fun h => h, fun h => h, fun _ _ h => h⟩
theorem SwB.Y {rs ws sm : Nat} (h : SwB W Bk Bl Bw Br LK LF LW LN P vv vb) (hf : LN[32]? = some (.int .u64 (rs : Int)) ∧ LW[1]? = some (.int .u64 (ws : Int)) ∧ LF[1]? = some (.int .u64 (sm : Int))) :
    W.cell? ⟨Br, 32, none⟩ = some (.int .u64 (rs : Int)) ∧ W.cell? ⟨Bw, 1, none⟩ = some (.int .u64 (ws : Int)) ∧ W.cell? ⟨Bl, 1, none⟩ = some (.int .u64 (sm : Int)) :=
  ⟨h.r.cell_is (by rw [List.getElem?_toArray]; exact hf.1), h.u.cell_is (by rw [List.getElem?_toArray]; exact hf.2.1), h.l.cell_is (by rw [List.getElem?_toArray]; exact hf.2.2)⟩
end
theorem nd_at (n : Nd) (h : IsHash n.h) : (ndV n)[32]? = some (.int .u64 (n.s : Int)) := by
  rw [ndV, ncells, List.getElem?_append_right (by rw [bcells_length, h.1]; exact Nat.le_refl _), bcells_length, h.1]; rfl
set_option maxRecDepth 100000 in
set_option maxHeartbeats 8000000 in
theorem swaps_walk (K s0 : List Wd) (w : World) (hT : Tabs K s0 w) (A : Option Addr) (n c : Nat) (os : List OpT) (hos : OpsAt w A n os) (key : List Nat) (hkey : IsHash key) (B : Option Addr) (bs : List Nat) (cb s : Nat) (hs : s < 18446744073709551616) (hbl : bs.length ≤ 9223372036854775807) (hby : Bytes w w.heap.size (.slice B bs.length cb) bs) :
    Calls Tryd.prog 8 #[.slice A n c, arr key, leafV (.slice B bs.length cb) s] w fun e w' => e = .returned (.bool true) ∧ Below w.heap.size w w' := by
  unfold arr leafV
  obtain ⟨LK, hLK⟩ : ∃ L, L = bcells key := ⟨_, rfl⟩
  have lk : LK.length = 32 := by rw [hLK, bcells_length, hkey.1]
  rw [← hLK]
  obtain ⟨nb, hnb⟩ : ∃ x, x = bs.length := ⟨_, rfl⟩
  rw [← hnb] at hbl hby ⊢
  obtain ⟨sm, hsm⟩ : ∃ x : Nat, x = s % 4294967296 := ⟨_, rfl⟩
  have hand : bits BinOp.and .u64 (s : Int) 4294967295 = (sm : Int) := by rw [and_32 _ (by omega), hsm]; omega
  obtain ⟨Z, hz, hZs, hZn, -⟩ := zero_node
  have hb3 := (Has.new w 27 LK.toArray).alloc (.cells #[.slice B nb cb, .int .u64 (s : Int)] 25)
  have hb4 := Has.new (w.alloc (.cells LK.toArray 27)) 25 #[.slice B nb cb, .int .u64 (s : Int)]
  have s1 : ∀ (x : World) o, (x.alloc o).heap.size = x.heap.size + 1 := fun x o => by simp
  rw [s1] at hb4
  have hbel := ((Below.refl w.heap.size w).alloc (Nat.le_refl _) (.cells LK.toArray 27)).alloc (by rw [s1]; omega) (.cells #[.slice B nb cb, .int .u64 (s : Int)] 25)
  have hsz : ((w.alloc (.cells LK.toArray 27)).alloc (.cells #[.slice B nb cb, .int .u64 (s : Int)] 25)).heap.size = w.heap.size + 2 := by rw [s1, s1]
  have HT := Lib.hid hT
  have HLOW := Lib.hid hT.low
  have HOS := Lib.hid hos
  have HKEY := Lib.hid hkey
  have HBY := Lib.hid hby
  have HAND := Lib.hid hand
  have HSM := Lib.hid (show sm < 4294967296 by omega)
  have HB3 := Lib.hid hb3
  have HB4 := Lib.hid hb4
  have HBEL := Lib.hid hbel
  have HSZ := Lib.hid hsz
  have ELK := Lib.hid hLK
  have ENB := Lib.hid hnb
  have HNB := Lib.hid hbl
  have EZS := Lib.hid hZs
  have SZK := Lib.hid (show (Tryd.prog.info? 27).map (·.size) = some LK.length by rw [lk]; kernel_rfl)
  clear hT hos hkey hby hand hsm hb3 hb4 hbel hsz hLK hnb hZs lk s1
  go_enter Tryd.func8, Tryd.ntmps8
  go_upto_region 1 with (fail)
  generalize (w.alloc (.cells LK.toArray 27)).alloc (.cells #[.slice B nb cb, .int .u64 (s : Int)] 25) = W1 at HB3 HB4 HBEL HSZ ⊢
  obtain ⟨Bk, hBk⟩ : ∃ B, B = w.heap.size := ⟨_, rfl⟩
  obtain ⟨Bl, hBl⟩ : ∃ B, B = w.heap.size + 1 := ⟨_, rfl⟩
  rw [← hBk] at HB3
  rw [← hBl] at HB4
  rw [← hBl, ← hBk]
  have EB := Lib.hid (And.intro hBk hBl)
  clear hBk hBl
  go_wp2_with fail
  refine (headT_is K s0 W1 (HT.out.below HBEL.out HLOW.out)).mono ?_
  rintro _ w2 ⟨rfl, hb2⟩
  have HB2 := Lib.hid hb2
  have HBE2 := Lib.hid (HBEL.out.trans (hb2.mono HBEL.out.size))
  have hsome := some_is w2 A n c os (HOS.out.below HBE2.out) 4 (by decide)
  change Calls Tryd.prog 27 #[.slice A n c, .int .i64 4] w2 _ at hsome
  have HSOME := Lib.hid hsome
  clear hb2 hsome
  go_wp2_with fail
  refine HSOME.out.mono ?_
  rintro _ w3 ⟨v', rfl, hgot⟩
  have hgot0 := hgot
  obtain ⟨⟨oa, on, oc, rfl⟩, -, -⟩ := hgot0
  have hsels := hgot.sels (some_take_ok (HOS.out.below HBE2.out) 4) (by have := someL_len 4 os; omega)
  have htree := tree_is K s0 HT.out.len w3 oa on oc (someL 4 os) hsels (fun k x hk => some_fits 4 (by decide) os k x hk)
  have HTREE := Lib.hid htree
  have HBW3 := Lib.hid (HB2.out.trans (hgot.2.2.mono HB2.out.size))
  have HBE3 := Lib.hid (HBE2.out.trans (hgot.2.2.mono HBE2.out.size))
  clear hgot hsels htree HSOME
  go_wp2_with fail
  refine HTREE.out.mono ?_
  rintro _ w4 ⟨g, rfl, htr, hb4, hg⟩
  have hsmall := small_build 4 (by decide) os htr
  obtain ⟨T, hTe⟩ : ∃ T, T = buildT (someL 4 os) := ⟨_, rfl⟩
  rw [← hTe] at htr hsmall
  have hbw4 := HBW3.out.trans (hb4.mono HBW3.out.size)
  have hbe4 := HBE3.out.trans (hb4.mono HBE3.out.size)
  have hk4 := HB3.out.below hbw4 HB3.out.lt
  have hl4 := HB4.out.below hbw4 HB4.out.lt
  have hw3 : w.heap.size + 2 ≤ w3.heap.size := by have h1 := HBW3.out.size; have h2 := HSZ.out; omega
  have d0 : w4.cell? ⟨Bl, 0, none⟩ = some (.slice B nb cb) := hl4.cell_is rfl
  have d1 : w4.cell? ⟨Bl, 1, none⟩ = some (.int .u64 (s : Int)) := hl4.cell_is rfl
  have f1 : w4.frozen? ⟨Bl, 1, none⟩ = false := hl4.free _
  have HSMALL := Lib.hid hsmall
  have HTR := Lib.hid htr
  have HBE4 := Lib.hid hbe4
  have HK4 := Lib.hid hk4
  have HL4 := Lib.hid hl4
  have HG := Lib.hid hg
  have HW3 := Lib.hid hw3
  have HS34 := Lib.hid hb4.size
  clear hsmall htr hbe4 hk4 hl4 hg hw3 hbw4 hb4 hTe HTREE HB3 HB4
  by_cases hlong : 200 < nb
  · have hlong' : (200 : Int) < (nb : Int) := by omega
    go_wp2
    go_ret
    exact ⟨rfl, HBE4.out⟩
  have hlong' : ¬ (200 : Int) < (nb : Int) := by omega
  go_upto_region 7 with (fail)
  rw [HAND.out]
  have hs5 : Has (w4.setCell ⟨Bl, 1, none⟩ (.int .u64 (sm : Int))) Bl 25 #[.slice B nb cb, .int .u64 (sm : Int)] := HL4.out.set 1 (.int .u64 (sm : Int))
  have hk5 : Kept (· = Bl) w4 (w4.setCell ⟨Bl, 1, none⟩ (.int .u64 (sm : Int))) := (Kept.refl (· = Bl) w4).set (p := ⟨Bl, 1, none⟩) (.inl rfl) _
  have HK5 := Lib.hid (HK4.out.kept hk5 (by have := EB.out; omega))
  have HTR5 := Lib.hid (HTR.out.kept hk5 (fun k _ hz e => by have e' : k = Bl := e; have h1 : w3.heap.size ≤ k := hz; have h2 := HW3.out; have h3 := EB.out; omega))
  have HBE5 := Lib.hid (HBE4.out.trans (hk5.below HBE4.out.size (fun j e => by have e' : j = Bl := e; have h3 := EB.out; omega)))
  have HL5 := Lib.hid hs5
  have HSZ5 := Lib.hid hk5.size
  clear hs5 hk5 HTR HK4 HL4 HAND d0 d1 f1
  generalize w4.setCell ⟨Bl, 1, none⟩ (.int .u64 (sm : Int)) = W5 at HK5 HTR5 HBE5 HL5 HSZ5 ⊢
  have hget := tr_get HTR5.out key HKEY.out
  unfold arr leafV at hget
  obtain ⟨ws, hws⟩ : ∃ x, x = wasS T key := ⟨_, rfl⟩
  obtain ⟨kn, hkn⟩ : ∃ x, x = (findT T key).isSome := ⟨_, rfl⟩
  rw [← ELK.out, ← hws, ← hkn] at hget
  have HGET := Lib.hid hget
  have HRK := Lib.hid HK5.out.row0
  have EWS := Lib.hid hws
  have EKN := Lib.hid hkn
  clear hget hws hkn
  go_wp2_with (refine wpList_load_mid rfl 27 (.tmp 4) rfl Bk 0 rfl LK _ HRK.out Tryd.underlying27 rfl SZK.out ?_)
  refine HGET.out.mono ?_
  rintro _ w6 ⟨v', rfl, hrow, hb6⟩
  obtain ⟨av, cv, hv', -⟩ := id hrow
  obtain ⟨nv, hnv⟩ : ∃ x, x = (valT T key).length := ⟨_, rfl⟩
  rw [← hnv] at hv'
  subst hv'
  have hrow6 : RowB (fun k => W5.heap.size ≤ k ∧ k < w6.heap.size) w6 (.slice av nv cv) (valT T key) := hrow.zone (fun k h1 h2 => ⟨h2, h1⟩)
  have hnw : Has ((w6.alloc (.cells #[.slice none 0 0, .int .u64 0] 25)).setRow w6.heap.size #[.slice av nv cv, .int .u64 (ws : Int)]) w6.heap.size 25 #[.slice av nv cv, .int .u64 (ws : Int)] ∧ Kept (fun _ => False) w6 ((w6.alloc (.cells #[.slice none 0 0, .int .u64 0] 25)).setRow w6.heap.size #[.slice av nv cv, .int .u64 (ws : Int)]) := by
    rw [World.setRow_alloc_new]
    exact ⟨Has.new w6 _ _, (Kept.refl _ _).alloc _⟩
  have SZ2 := Lib.hid (show (Tryd.prog.info? 25).map (·.size) = some (#[Value.slice av nv cv, .int .u64 (ws : Int)] : Array Value).size by kernel_rfl)
  have ONE2 := Lib.hid (show (#[Value.slice av nv cv, .int .u64 (ws : Int)] : Array Value).all (·.oneCell') = true by kernel_rfl)
  have HNW := Lib.hid hnw
  have HROW6 := Lib.hid hrow6
  have HB6 := Lib.hid hb6
  have ENV := Lib.hid hnv
  clear hrow hrow6 hnw hb6 hnv HGET
  go_upto_region 8 with (refine wpList_store_row rfl 25 (.tmp 8) (.tmp 34) rfl w6.heap.size #[.slice av nv cv, .int .u64 (ws : Int)] rfl rfl 25 #[.slice none 0 0, .int .u64 0] (heap_alloc_new w6 _) SZ2.out rfl ONE2.out ?_)
  obtain ⟨hu7, hk7⟩ := HNW.out
  have hs7 := hk7.size
  have hb57 : Below W5.heap.size W5 ((w6.alloc (.cells #[.slice none 0 0, .int .u64 0] 25)).setRow w6.heap.size #[.slice av nv cv, .int .u64 (ws : Int)]) := HB6.out.trans (hk7.below HB6.out.size (fun _ h => h.elim))
  have HU7 := Lib.hid hu7
  have HB57 := Lib.hid hb57
  have HROW7 := Lib.hid (HROW6.out.kept hk7 (fun _ _ _ h => h))
  have HLT7 := Lib.hid hu7.lt
  clear hu7 hk7 hs7 hb57 HNW
  generalize (w6.alloc (.cells #[.slice none 0 0, .int .u64 0] 25)).setRow w6.heap.size #[.slice av nv cv, .int .u64 (ws : Int)] = W7 at HU7 HB57 HROW7 HLT7 ⊢
  have htr7 : Tr K s0 (fun j => w3.heap.size ≤ j ∧ j < W5.heap.size) W7 g T := (HTR5.out.zone (S' := fun j => w3.heap.size ≤ j ∧ j < W5.heap.size) (fun j h1 h2 => ⟨h2, h1⟩)).quiet HB57.out
  have hroot : ∀ (S : Nat → Prop) v, Tr K s0 S v g T → Below w.heap.size w v → Calls Tryd.prog 26 #[.pointer (some ⟨g, 0, none⟩)] v fun e w' => e = .returned (.agg (ndV (partNd K s0 256 T)).toArray) ∧ Tr K s0 S w' g T ∧ Kept S v w' := fun S v h1 h2 =>
    tr_root h1 (HT.out.below h2 HLOW.out) (by have h3 := HLOW.out; have h4 := HG.out; have h5 := HW3.out; omega)
  obtain ⟨nT, hnT⟩ : ∃ x, x = partNd K s0 256 T := ⟨_, rfl⟩
  have hnh : IsHash nT.h := by rw [hnT]; exact part_hash K s0 HT.out.len 256 T
  have hns : nT.s = sumT T := by rw [hnT]; exact root_sum htr7
  rw [← hnT] at hroot
  obtain ⟨LN, hLN⟩ : ∃ L, L = ndV nT := ⟨_, rfl⟩
  rw [← hLN] at hroot
  have heq : ∀ W, (Op.equalIn 10000 29 (.agg LN.toArray) (.agg LN.toArray)).run Tryd.prog W = .ok true W := fun W => by rw [hLN]; exact nd_eq nT hnh W
  have hln : LN.length = 33 := by rw [hLN]; exact ndV_len hnh
  have SZN := Lib.hid (show (Tryd.prog.info? 29).map (·.size) = some LN.length by rw [hln]; kernel_rfl)
  have SZNA := Lib.hid (show (Tryd.prog.info? 29).map (·.size) = some LN.toArray.size by rw [List.size_toArray, hln]; kernel_rfl)
  have ONEN := Lib.hid (show LN.toArray.all (·.oneCell') = true by rw [hLN]; exact ndV_one _)
  have HZN := Lib.hid (show Z.size = LN.toArray.size by rw [EZS.out, List.size_toArray, hln])
  have H32 := Lib.hid (show LN[32]? = some (.int .u64 (sumT T : Int)) by rw [hLN, nd_at nT hnh, hns])
  have HROOT := Lib.hid hroot
  have HTR7 := Lib.hid htr7
  have HBE7 := Lib.hid (HBE5.out.trans (HB57.out.mono HBE5.out.size))
  clear hroot htr7 hnT hnh hns hLN hln
  go_wp2_with fail
  refine (HROOT.out _ _ HTR7.out HBE7.out).mono ?_
  rintro _ w8 ⟨rfl, htr8, hk8⟩
  have hnw : Has ((w8.alloc (.cells Z 29)).setRow w8.heap.size LN.toArray) w8.heap.size 29 LN.toArray ∧ Kept (fun _ => False) w8 ((w8.alloc (.cells Z 29)).setRow w8.heap.size LN.toArray) := by
    rw [World.setRow_alloc_new]
    exact ⟨Has.new w8 _ _, (Kept.refl _ _).alloc _⟩
  have HNW := Lib.hid hnw
  have HTR8 := Lib.hid htr8
  have HKE8 := Lib.hid hk8
  clear hnw htr8 hk8
  go_upto_region 9 with (refine wpList_store_row rfl 29 (.tmp 10) (.tmp 37) rfl w8.heap.size LN.toArray rfl rfl 29 Z (heap_alloc_new w8 _) SZNA.out HZN.out ONEN.out ?_)
  obtain ⟨hr9, hk9⟩ := HNW.out
  generalize (w8.alloc (.cells Z 29)).setRow w8.heap.size LN.toArray = W9 at hr9 hk9 ⊢
  obtain ⟨Bw, hBw⟩ : ∃ B, B = w6.heap.size := ⟨_, rfl⟩
  obtain ⟨Br, hBr⟩ : ∃ B, B = w8.heap.size := ⟨_, rfl⟩
  obtain ⟨LF, hLF⟩ : ∃ L, L = [Value.slice B nb cb, .int .u64 (sm : Int)] := ⟨_, rfl⟩
  obtain ⟨LW, hLW⟩ : ∃ L, L = [Value.slice av nv cv, .int .u64 (ws : Int)] := ⟨_, rfl⟩
  have hu7 := HU7.out
  rw [← hBw] at hu7 ⊢
  rw [← hBr] at hr9 ⊢
  have q1 := HKE8.out.size
  have q2 := hk9.size
  have q3 := HB57.out.size
  have q4 := HB6.out.size
  have q5 := HLT7.out
  have q6 := hr9.lt
  have q7 := EB.out
  have q8 := HW3.out
  have q9 : w3.heap.size ≤ W5.heap.size := by have h1 := HSZ5.out; have h2 := HS34.out; omega
  have hsw : SwB W9 Bk Bl Bw Br LK LF LW LN (fun k => W5.heap.size ≤ k ∧ k < w6.heap.size) (.slice av nv cv) (valT T key) := by
    have z : ∀ {C t} {G : Nat}, Has W7 G t C → (¬ (w3.heap.size ≤ G ∧ G < W5.heap.size)) → Has W9 G t C := fun h1 h2 => (h1.kept HKE8.out h2).kept hk9 (fun h => h)
    refine ⟨z (HK5.out.below HB57.out HK5.out.lt) (by omega), ?_, ?_, hr9, ?_⟩
    · rw [hLF]; exact z (HL5.out.below HB57.out HL5.out.lt) (by omega)
    · rw [hLW]; exact z hu7 (by omega)
    · exact (HROW7.out.kept HKE8.out (fun k _ h e => by have := h.1; have := e.2; omega)).kept hk9 (fun _ _ _ h => h)
  have htr9 : Tr K s0 (fun j => (w3.heap.size ≤ j ∧ j < W5.heap.size) ∨ W9.heap.size ≤ j) W9 g T := (HTR8.out.kept hk9 (fun _ _ _ h => h)).zone (fun k _ h => .inl h)
  have hbe9 : Below w.heap.size w W9 := (HBE7.out.trans (HKE8.out.below HBE7.out.size (fun j h => by have := h.1; omega))).trans (hk9.below (by have := HBE7.out.size; omega) (fun _ h => h.elim))
  obtain ⟨S2, hS2⟩ : ∃ S2 : Nat → Prop, S2 = fun j => (w3.heap.size ≤ j ∧ j < W5.heap.size) ∨ W9.heap.size ≤ j := ⟨_, rfl⟩
  have hfar : ¬ S2 Bk ∧ ¬ S2 Bl ∧ ¬ S2 Bw ∧ ¬ S2 Br ∧ ∀ k, (W5.heap.size ≤ k ∧ k < w6.heap.size) → ¬ S2 k := by
    rw [hS2]
    exact ⟨by show ¬ (_ ∨ _); omega, by show ¬ (_ ∨ _); omega, by show ¬ (_ ∨ _); omega, by show ¬ (_ ∨ _); omega, fun k h => by show ¬ (_ ∨ _); omega⟩
  have hsb : ∀ j, S2 j → w.heap.size ≤ j := fun j h => by
    rw [hS2] at h
    have h' : (w3.heap.size ≤ j ∧ j < W5.heap.size) ∨ W9.heap.size ≤ j := h
    omega
  have hnew : ∀ j, W9.heap.size ≤ j → S2 j := fun j h => by rw [hS2]; exact .inr h
  rw [← hS2] at htr9
  have hby9 := (HBY.out).alive hbe9 hbe9.size
  have hsmlt := HSM.out
  have hput := tr_put htr9 HT.out.len hnew ⟨key, bs, sm⟩ HKEY.out (.slice B nb cb) hby9 (by show sm < _; omega) (by show bs.length ≤ _; have := ENB.out; omega)
  have hl200 : (⟨key, bs, sm⟩ : Lf).v.length ≤ 65536 := by show bs.length ≤ _; have := ENB.out; omega
  have hl32 : (⟨key, bs, sm⟩ : Lf).s < 1000000000000000000 := by show sm < _; omega
  have hcase := swap_put HSMALL.out hl200 hl32
  have hsum := swap_sum HSMALL.out hl200 hl32
  have hhad : ∀ o, putE T ⟨key, bs, sm⟩ = 0 → findT T key = some o → putE (putN T ⟨key, bs, sm⟩) o = 0 ∧ putN (putN T ⟨key, bs, sm⟩) o = T := fun o h1 h2 => swap_had HSMALL.out hl200 hl32 h1 h2
  have hnewc := swap_new HSMALL.out hl200 hl32
  have ekey : (⟨key, bs, sm⟩ : Lf).k = key := rfl
  have esm : (⟨key, bs, sm⟩ : Lf).s = sm := rfl
  have ebs : (⟨key, bs, sm⟩ : Lf).v = bs := rfl
  rw [ekey, esm] at hsum
  rw [ekey] at hnewc
  rw [esm, ebs] at hcase
  obtain ⟨l, hl⟩ : ∃ l : Lf, l = ⟨key, bs, sm⟩ := ⟨_, rfl⟩
  rw [← hl] at hput hcase hsum hnewc hhad
  obtain ⟨T', hT'⟩ : ∃ T', T' = putN T l := ⟨_, rfl⟩
  obtain ⟨E, hE⟩ : ∃ E, E = putE T l := ⟨_, rfl⟩
  rw [← hT'] at hput hcase hsum hnewc hhad
  rw [← hE] at hput hcase hsum hnewc hhad
  have hput' : Calls Tryd.prog 33 #[.pointer (some ⟨g, 0, none⟩), .agg (bcells key).toArray, .agg #[.slice B nb cb, .int .u64 (sm : Int)]] W9 fun e w' => e = .returned (.int .i64 E) ∧ Tr K s0 S2 w' g T' ∧ Kept S2 W9 w' := by
    rw [hl] at hput
    exact hput
  rw [← ELK.out] at hput'
  have c0 : W9.cell? ⟨Bl, 0, none⟩ = some (.slice B nb cb) := hsw.l.cell_is (by rw [hLF]; rfl)
  have c1 : W9.cell? ⟨Bl, 1, none⟩ = some (.int .u64 (sm : Int)) := hsw.l.cell_is (by rw [hLF]; rfl)
  have HRK9 := Lib.hid hsw.k.row0
  have HSW9 := Lib.hid hsw
  have HFAR := Lib.hid hfar
  have HSB := Lib.hid hsb
  have HNEW := Lib.hid hnew
  have HPUT := Lib.hid hput'
  have HCASE := Lib.hid hcase
  have HSUM := Lib.hid hsum
  have HHAD := Lib.hid hhad
  have HNEWC := Lib.hid hnewc
  have HBE9 := Lib.hid hbe9
  have SZF := Lib.hid (show (Tryd.prog.info? 25).map (·.size) = some LF.length by rw [hLF]; kernel_rfl)
  have SZW := Lib.hid (show (Tryd.prog.info? 25).map (·.size) = some LW.length by rw [hLW]; kernel_rfl)
  have ELF := Lib.hid hLF
  have ELW := Lib.hid hLW
  have HKH := Lib.hid (show ∀ o, findT T key = some o → o = ⟨key, valT T key, ws⟩ from fun o ho => by
    have h1 := (find_key ho).1
    have h2 : valT T key = o.v := by unfold valT; rw [ho]
    have h3 : ws = o.s := by rw [EWS.out]; unfold wasS; rw [ho]
    rw [h2, h3, ← h1])
  have HSH := Lib.hid (show (valT T key).length ≤ 65536 from by
    unfold valT
    cases hf : findT T key with
    | none => exact Nat.zero_le _
    | some o => exact htr9.short o (find_key hf).2)
  have HWS := Lib.hid (show ws ≤ sumT T by rw [EWS.out]; exact was_le T key)
  have HKEYED := Lib.hid htr9.keyed
  clear hr9 hk9 hBw hBr hLF hLW hu7 q1 q2 q3 q4 q5 q6 q7 q8 q9 hsw htr9 hbe9 hfar hsb hnew hby9 hput hput' hcase hsum hhad hnewc ekey esm ebs hl hT' hE hsmlt hl200 hl32 HU7 HB57 HROW7 HLT7 HTR7 HTR8 HKE8 HROW6 HTR5 HK5 HL5 HNW hS2
  go_wp2_with (refine wpList_load_mid rfl 27 (.tmp 4) rfl Bk 0 rfl LK _ HRK9.out Tryd.underlying27 rfl SZK.out ?_)
  refine HPUT.out.mono ?_
  rintro _ wA ⟨rfl, htrA, hkA⟩
  have hswA := HSW9.out.kept hkA HFAR.out
  have hbeA := HBE9.out.trans (hkA.below HBE9.out.size HSB.out)
  have dr := (Below.refl wA.heap.size wA).drew
  have HTRD := Lib.hid (htrA.quiet dr)
  have HSWD := Lib.hid (hswA.below dr)
  have HBED := Lib.hid (hbeA.trans (dr.mono hbeA.size))
  have HNEWA := Lib.hid (fun j (h : wA.drew.heap.size ≤ j) => HNEW.out j (by have h1 := dr.size; have h2 := hkA.size; omega))
  clear htrA hkA hswA hbeA dr c0 c1 HPUT
  rcases HCASE.out with hE | ⟨hE, h1, h2, h3⟩
  · subst hE
    have hsum := HSUM.out rfl
    obtain ⟨rs, hrs⟩ : ∃ x, x = sumT T := ⟨_, rfl⟩
    obtain ⟨r2, hr2⟩ : ∃ x, x = sumT T' := ⟨_, rfl⟩
    have hfit := HTRD.out.sum
    have hfit1 := HSMALL.out.sum
    have hwl := HWS.out
    have hsb := HSM.out
    rw [← hrs] at hsum hfit1 hwl
    rw [← hr2] at hsum hfit
    rw [← EWS.out] at hsum
    obtain ⟨d1, hd1⟩ : ∃ x : Nat, x = rs - ws := ⟨_, rfl⟩
    have hsub : IntKind.u64.wrap ((rs : Int) - (ws : Int)) = (d1 : Int) := by rw [IntKind.wrap_u64]; omega
    have hadd : IntKind.u64.wrap ((d1 : Int) + (sm : Int)) = (r2 : Int) := by rw [IntKind.wrap_u64]; omega
    have hroot2 : ∀ v, Tr K s0 S2 v g T' → Below w.heap.size w v → Calls Tryd.prog 26 #[.pointer (some ⟨g, 0, none⟩)] v fun e w' => e = .returned (.agg (ndV (partNd K s0 256 T')).toArray) ∧ Tr K s0 S2 w' g T' ∧ Kept S2 v w' := fun v h1 h2 =>
      tr_root h1 (HT.out.below h2 HLOW.out) (by have h3 := HLOW.out; have h4 := HG.out; have h5 := HW3.out; omega)
    obtain ⟨n2, hn2⟩ : ∃ x, x = partNd K s0 256 T' := ⟨_, rfl⟩
    have hnh : IsHash n2.h := by rw [hn2]; exact part_hash K s0 HT.out.len 256 T'
    have hns : n2.s = r2 := by rw [hn2, hr2]; exact root_sum HTRD.out
    rw [← hn2] at hroot2
    obtain ⟨L2, hL2⟩ : ∃ L, L = (ndV n2).toArray := ⟨_, rfl⟩
    rw [← hL2] at hroot2
    have hfd : ∀ W, (Instr.field 29 (.agg L2) 1).run Tryd.prog W = .ok (.int .u64 (r2 : Int)) W := fun W => by
      have := nd_sum n2 hnh.1 W
      rw [hns] at this
      rw [hL2]; exact this
    have HROOT2 := Lib.hid hroot2
    have HRS := Lib.hid (show LN[32]? = some (.int .u64 (rs : Int)) ∧ LW[1]? = some (.int .u64 (ws : Int)) ∧ LF[1]? = some (.int .u64 (sm : Int)) by rw [hrs, ELW.out, ELF.out]; exact ⟨H32.out, rfl, rfl⟩)
    have hSy := HSWD.out.Y HRS.out
    clear hsum hrs hr2 hfit hfit1 hwl hsb hd1 hroot2 hn2 hnh hns hL2
    go_upto_region 11 with (fail)
    refine wp_region_noPanic ?_
    refine wp_region_held_drew (S := (fun v => v.cell? ⟨Br, 32, none⟩ = some (.int .u64 (rs : Int)) ∧ v.cell? ⟨Bw, 1, none⟩ = some (.int .u64 (ws : Int)) ∧ v.cell? ⟨Bl, 1, none⟩ = some (.int .u64 (sm : Int)))) (by kernel_rfl) hSy (fun hH0 => ?_)
    refine wpAnyH_take (i := 0) (v := ((.pointer (some ⟨g, 0, none⟩)))) rfl (by kernel_rfl) (by kernel_rfl) (by kernel_rfl) (fun _ _ _ h => h) (Or.inl ⟨by kernel_rfl, by intro w' hS; obtain ⟨e0, e1, e2⟩ := hS; go_simp⟩) hH0 ?_
    simp only [Act.put, List.getElem_toArray, List.getElem_cons_zero, List.getElem_cons_succ, List.setIfInBounds_toArray, List.set_cons_zero, List.set_cons_succ]
    refine wpAnyH_take (i := 3) (v := (.pointer (some ⟨Br, 32, none⟩))) rfl (by kernel_rfl) (by kernel_rfl) (by kernel_rfl) (fun _ _ _ h => h) (Or.inl ⟨by kernel_rfl, by intro w' hS; obtain ⟨e0, e1, e2⟩ := hS; go_simp⟩) hH0 ?_
    simp only [Act.put, List.getElem_toArray, List.getElem_cons_zero, List.getElem_cons_succ, List.setIfInBounds_toArray, List.set_cons_zero, List.set_cons_succ]
    refine wpAnyH_take (i := 4) (v := (.int .u64 (rs : Int))) rfl (by kernel_rfl) (by kernel_rfl) (by kernel_rfl) (fun _ _ _ h => h) (Or.inl ⟨by kernel_rfl, by intro w' hS; obtain ⟨e0, e1, e2⟩ := hS; go_simp⟩) hH0 ?_
    simp only [Act.put, List.getElem_toArray, List.getElem_cons_zero, List.getElem_cons_succ, List.setIfInBounds_toArray, List.set_cons_zero, List.set_cons_succ]
    refine wpAnyH_take (i := 5) (v := (.pointer (some ⟨Bw, 1, none⟩))) rfl (by kernel_rfl) (by kernel_rfl) (by kernel_rfl) (fun _ _ _ h => h) (Or.inl ⟨by kernel_rfl, by intro w' hS; obtain ⟨e0, e1, e2⟩ := hS; go_simp⟩) hH0 ?_
    simp only [Act.put, List.getElem_toArray, List.getElem_cons_zero, List.getElem_cons_succ, List.setIfInBounds_toArray, List.set_cons_zero, List.set_cons_succ]
    refine wpAnyH_take (i := 6) (v := (.int .u64 (ws : Int))) rfl (by kernel_rfl) (by kernel_rfl) (by kernel_rfl) (fun _ _ _ h => h) (Or.inl ⟨by kernel_rfl, by intro w' hS; obtain ⟨e0, e1, e2⟩ := hS; go_simp⟩) hH0 ?_
    simp only [Act.put, List.getElem_toArray, List.getElem_cons_zero, List.getElem_cons_succ, List.setIfInBounds_toArray, List.set_cons_zero, List.set_cons_succ]
    refine wpAnyH_take (i := 7) (v := (.int .u64 (d1 : Int))) rfl (by kernel_rfl) (by kernel_rfl) (by kernel_rfl) (fun _ _ _ h => h) (Or.inl ⟨by kernel_rfl, by intro w' hS; obtain ⟨e0, e1, e2⟩ := hS; go_simp⟩) hH0 ?_
    simp only [Act.put, List.getElem_toArray, List.getElem_cons_zero, List.getElem_cons_succ, List.setIfInBounds_toArray, List.set_cons_zero, List.set_cons_succ]
    refine wpAnyH_take (i := 8) (v := (.pointer (some ⟨Bl, 1, none⟩))) rfl (by kernel_rfl) (by kernel_rfl) (by kernel_rfl) (fun _ _ _ h => h) (Or.inl ⟨by kernel_rfl, by intro w' hS; obtain ⟨e0, e1, e2⟩ := hS; go_simp⟩) hH0 ?_
    simp only [Act.put, List.getElem_toArray, List.getElem_cons_zero, List.getElem_cons_succ, List.setIfInBounds_toArray, List.set_cons_zero, List.set_cons_succ]
    refine wpAnyH_take (i := 9) (v := (.int .u64 (sm : Int))) rfl (by kernel_rfl) (by kernel_rfl) (by kernel_rfl) (fun _ _ _ h => h) (Or.inl ⟨by kernel_rfl, by intro w' hS; obtain ⟨e0, e1, e2⟩ := hS; go_simp⟩) hH0 ?_
    simp only [Act.put, List.getElem_toArray, List.getElem_cons_zero, List.getElem_cons_succ, List.setIfInBounds_toArray, List.set_cons_zero, List.set_cons_succ]
    refine wpAnyH_take (i := 10) (v := (.int .u64 (r2 : Int))) rfl (by kernel_rfl) (by kernel_rfl) (by kernel_rfl) (fun _ _ _ h => h) (Or.inl ⟨by kernel_rfl, by intro w' hS; obtain ⟨e0, e1, e2⟩ := hS; go_simp⟩) hH0 ?_
    simp only [Act.put, List.getElem_toArray, List.getElem_cons_zero, List.getElem_cons_succ, List.setIfInBounds_toArray, List.set_cons_zero, List.set_cons_succ]
    refine wpAnyH_ready (rs := [1]) (by kernel_rfl) (by simp) ?_
    refine AllReadyH.cons rfl (fun K hK => ?_) AllReadyH.nil
    go_simp
    refine (HROOT2.out _ HTRD.out HBED.out).mono ?_
    rintro _ v1 ⟨rfl, htr1, hk1⟩
    have hsw1 := HSWD.out.kept hk1 HFAR.out
    have hbel1 := HBED.out.trans (hk1.below HBED.out.size HSB.out)
    have hnew1 := fun j (h : v1.heap.size ≤ j) => HNEWA.out j (by have h1 := hk1.size; omega)
    clear hk1
    refine Shut.out hK _ _ (hsw1.Y HRS.out) (fun hH1 => ?_)
    clear hK K
    try simp only [Act.put, List.getElem_toArray, List.getElem_cons_zero, List.getElem_cons_succ, List.setIfInBounds_toArray, List.set_cons_zero, List.set_cons_succ]
    refine wpAnyH_take (i := 2) (v := (.int .u64 (r2 : Int))) rfl (by kernel_rfl) (by kernel_rfl) (by kernel_rfl) (fun _ _ _ h => h) (Or.inl ⟨by kernel_rfl, by intro w' hS; obtain ⟨e0, e1, e2⟩ := hS; go_simp⟩) hH1 ?_
    simp only [Act.put, List.getElem_toArray, List.getElem_cons_zero, List.getElem_cons_succ, List.setIfInBounds_toArray, List.set_cons_zero, List.set_cons_succ]
    refine wpAnyH_take (i := 11) (v := (.bool false)) rfl (by kernel_rfl) (by kernel_rfl) (by kernel_rfl) (fun _ _ _ h => h) (Or.inl ⟨by kernel_rfl, by intro w' hS; obtain ⟨e0, e1, e2⟩ := hS; go_simp⟩) hH1 ?_
    simp only [Act.put, List.getElem_toArray, List.getElem_cons_zero, List.getElem_cons_succ, List.setIfInBounds_toArray, List.set_cons_zero, List.set_cons_succ]
    refine wpAnyH_done (by kernel_rfl) ?_ _
    refine NoPanic.normal ?_
    have dr := (Below.refl v1.heap.size v1).drew
    have HTRV := Lib.hid (htr1.quiet dr)
    have HSWV := Lib.hid (hsw1.below dr)
    have HBEV := Lib.hid (hbel1.trans (dr.mono hbel1.size))
    have HNEWV := Lib.hid (fun j (h : v1.drew.heap.size ≤ j) => hnew1 j (by have h1 := dr.size; omega))
    have hSx := HSWV.out.all
    clear hSy hH0 hH1 htr1 hsw1 hbel1 dr hsub hadd hfd hnew1 HROOT2 HTRD HSWD HBED HNEWA
    cases hf : findT T key with
    | some o =>
      have ho := HKH.out o hf
      obtain ⟨p1, p2⟩ := HHAD.out o (by trivial) hf
      have hk1 : kn = true := by rw [EKN.out, hf]; rfl
      subst hk1
      have hputo := tr_put HTRV.out HT.out.len HNEWV.out o (by rw [ho]; exact HKEY.out) (.slice av nv cv) (by rw [ho]; exact HSWV.out.b.bytes (Nat.le_refl _)) (by rw [ho]; have h1 := HWS.out; have h2 := HSMALL.out.sum; show ws < _; omega) (by rw [ho]; have h1 := HSH.out; show (valT T key).length ≤ _; omega)
      rw [p1, p2, ho] at hputo
      have hputo' : Calls Tryd.prog 33 #[.pointer (some ⟨g, 0, none⟩), .agg (bcells key).toArray, .agg [Value.slice av nv cv, .int .u64 (ws : Int)].toArray] v1.drew fun e w' => e = .returned (.int .i64 0) ∧ Tr K s0 S2 w' g T ∧ Kept S2 v1.drew w' := hputo
      rw [← ELK.out, ← ELW.out] at hputo'
      have HPUTO := Lib.hid hputo'
      clear ho p1 p2 hf hputo hputo'
      go_upto_region 14 with (fail)
      refine wp_region_noPanic ?_
      refine wp_region_held_drew (S := (fun v => v.rangeAt Bk 0 LK ∧ v.rangeAt Bl 0 LF ∧ v.rangeAt Bw 0 LW ∧ v.rangeAt Br 0 LN)) (by kernel_rfl) hSx (fun hH0 => ?_)
      refine wpAnyH_take (i := 0) (v := ((.pointer (some ⟨g, 0, none⟩)))) rfl (by kernel_rfl) (by kernel_rfl) (by kernel_rfl) (fun _ _ _ h => h) (Or.inl ⟨by kernel_rfl, by intro w' hS; go_simp⟩) hH0 ?_
      simp only [Act.put, List.getElem_toArray, List.getElem_cons_zero, List.getElem_cons_succ, List.setIfInBounds_toArray, List.set_cons_zero, List.set_cons_succ]
      refine wpAnyH_take (i := 1) (v := (.agg LK.toArray)) rfl (by kernel_rfl) (by kernel_rfl) (by kernel_rfl) (fun _ _ _ h => h) (yieldsIf_load_mid (by kernel_rfl) 27 (.tmp 4) rfl Bk 0 rfl LK _ (fun w' h => h.1) Tryd.underlying27 rfl SZK.out) hH0 ?_
      simp only [Act.put, List.getElem_toArray, List.getElem_cons_zero, List.getElem_cons_succ, List.setIfInBounds_toArray, List.set_cons_zero, List.set_cons_succ]
      refine wpAnyH_take (i := 2) (v := (.agg LW.toArray)) rfl (by kernel_rfl) (by kernel_rfl) (by kernel_rfl) (fun _ _ _ h => h) (yieldsIf_load_mid (by kernel_rfl) 25 (.tmp 8) rfl Bw 0 rfl LW _ (fun w' h => h.2.2.1) Tryd.underlying25 rfl SZW.out) hH0 ?_
      simp only [Act.put, List.getElem_toArray, List.getElem_cons_zero, List.getElem_cons_succ, List.setIfInBounds_toArray, List.set_cons_zero, List.set_cons_succ]
      refine wpAnyH_ready (rs := [3]) (by kernel_rfl) (by simp) ?_
      refine AllReadyH.cons rfl (fun K hK => ?_) AllReadyH.nil
      go_simp
      refine (HPUTO.out).mono ?_
      rintro _ v1 ⟨rfl, htr3, hk1⟩
      have hsw3 := HSWV.out.kept hk1 HFAR.out
      have hbel3 := HBEV.out.trans (hk1.below HBEV.out.size HSB.out)
      clear hk1
      refine Shut.out hK _ _ hsw3.all (fun hH1 => ?_)
      clear hK K
      try simp only [Act.put, List.getElem_toArray, List.getElem_cons_zero, List.getElem_cons_succ, List.setIfInBounds_toArray, List.set_cons_zero, List.set_cons_succ]
      refine wpAnyH_take (i := 4) (v := (.bool true)) rfl (by kernel_rfl) (by kernel_rfl) (by kernel_rfl) (fun _ _ _ h => h) (Or.inl ⟨by kernel_rfl, by intro w' hS; go_simp⟩) hH1 ?_
      simp only [Act.put, List.getElem_toArray, List.getElem_cons_zero, List.getElem_cons_succ, List.setIfInBounds_toArray, List.set_cons_zero, List.set_cons_succ]
      refine wpAnyH_take (i := 5) (v := (.bool true)) rfl (by kernel_rfl) (by kernel_rfl) (by kernel_rfl) (fun _ _ _ h => h) (Or.inl ⟨by kernel_rfl, by intro w' hS; go_simp⟩) hH1 ?_
      simp only [Act.put, List.getElem_toArray, List.getElem_cons_zero, List.getElem_cons_succ, List.setIfInBounds_toArray, List.set_cons_zero, List.set_cons_succ]
      refine wpAnyH_take (i := 6) (v := ((.pointer (some ⟨g, 0, none⟩)))) rfl (by kernel_rfl) (by kernel_rfl) (by kernel_rfl) (fun _ _ _ h => h) (Or.inl ⟨by kernel_rfl, by intro w' hS; go_simp⟩) hH1 ?_
      simp only [Act.put, List.getElem_toArray, List.getElem_cons_zero, List.getElem_cons_succ, List.setIfInBounds_toArray, List.set_cons_zero, List.set_cons_succ]
      refine wpAnyH_take (i := 8) (v := (.agg LN.toArray)) rfl (by kernel_rfl) (by kernel_rfl) (by kernel_rfl) (fun _ _ _ h => h) (yieldsIf_load_mid (by kernel_rfl) 29 (.tmp 10) rfl Br 0 rfl LN _ (fun w' h => h.2.2.2) Tryd.underlying29 rfl SZN.out) hH1 ?_
      simp only [Act.put, List.getElem_toArray, List.getElem_cons_zero, List.getElem_cons_succ, List.setIfInBounds_toArray, List.set_cons_zero, List.set_cons_succ]
      refine wpAnyH_ready (rs := [7]) (by kernel_rfl) (by simp) ?_
      refine AllReadyH.cons rfl (fun K hK => ?_) AllReadyH.nil
      go_simp
      refine (HROOT.out _ _ htr3 hbel3).mono ?_
      rintro _ v2 ⟨rfl, htr4, hk1⟩
      have hsw4 := hsw3.kept hk1 HFAR.out
      have hbel4 := hbel3.trans (hk1.below hbel3.size HSB.out)
      clear hk1
      refine Shut.out hK _ _ hsw4.all (fun hH2 => ?_)
      clear hK K
      try simp only [Act.put, List.getElem_toArray, List.getElem_cons_zero, List.getElem_cons_succ, List.setIfInBounds_toArray, List.set_cons_zero, List.set_cons_succ]
      refine wpAnyH_take (i := 9) (v := (.bool true)) rfl (by kernel_rfl) (by kernel_rfl) (by kernel_rfl) (fun _ _ _ h => h) (Or.inl ⟨by kernel_rfl, by intro w' hS; go_simp⟩) hH2 ?_
      simp only [Act.put, List.getElem_toArray, List.getElem_cons_zero, List.getElem_cons_succ, List.setIfInBounds_toArray, List.set_cons_zero, List.set_cons_succ]
      refine wpAnyH_take (i := 10) (v := (.bool true)) rfl (by kernel_rfl) (by kernel_rfl) (by kernel_rfl) (fun _ _ _ h => h) (Or.inl ⟨by kernel_rfl, by intro w' hS; go_simp⟩) hH2 ?_
      simp only [Act.put, List.getElem_toArray, List.getElem_cons_zero, List.getElem_cons_succ, List.setIfInBounds_toArray, List.set_cons_zero, List.set_cons_succ]
      refine wpAnyH_take (i := 11) (v := (.bool true)) rfl (by kernel_rfl) (by kernel_rfl) (by kernel_rfl) (fun _ _ _ h => h) (Or.inl ⟨by kernel_rfl, by intro w' hS; go_simp⟩) hH2 ?_
      simp only [Act.put, List.getElem_toArray, List.getElem_cons_zero, List.getElem_cons_succ, List.setIfInBounds_toArray, List.set_cons_zero, List.set_cons_succ]
      refine wpAnyH_done (by kernel_rfl) ?_ _
      refine NoPanic.normal ?_
      go_wp2
      go_ret
      exact ⟨rfl, hbel4⟩
    | none =>
      obtain ⟨p1, p2⟩ := HNEWC.out (by trivial) hf
      have hk1 : kn = false := by rw [EKN.out, hf]; rfl
      subst hk1
      have hdrop := tr_drop HTRV.out HT.out.len key HKEY.out
      unfold arr at hdrop
      rw [p1, p2, ← ELK.out] at hdrop
      have hdrop2 : ∀ v, Tr K s0 S2 v g T → Calls Tryd.prog 34 #[.pointer (some ⟨g, 0, none⟩), .agg LK.toArray] v fun e w' => e = .returned (.bool false) ∧ True ∧ Kept S2 v w' := fun v h => by
        have := tr_drop h HT.out.len key HKEY.out
        unfold arr at this
        rw [hf, ← ELK.out] at this
        exact this.mono fun e w' h => ⟨h.1, trivial, h.2.2⟩
      have HDROP := Lib.hid hdrop
      have HDROP2 := Lib.hid hdrop2
      clear p1 p2 hf hdrop hdrop2
      go_upto_region 15 with (fail)
      refine wp_region_noPanic ?_
      refine wp_region_held_drew (S := (fun v => v.rangeAt Bk 0 LK ∧ v.rangeAt Bl 0 LF ∧ v.rangeAt Bw 0 LW ∧ v.rangeAt Br 0 LN)) (by kernel_rfl) hSx (fun hH0 => ?_)
      refine wpAnyH_take (i := 0) (v := ((.pointer (some ⟨g, 0, none⟩)))) rfl (by kernel_rfl) (by kernel_rfl) (by kernel_rfl) (fun _ _ _ h => h) (Or.inl ⟨by kernel_rfl, by intro w' hS; go_simp⟩) hH0 ?_
      simp only [Act.put, List.getElem_toArray, List.getElem_cons_zero, List.getElem_cons_succ, List.setIfInBounds_toArray, List.set_cons_zero, List.set_cons_succ]
      refine wpAnyH_take (i := 1) (v := (.agg LK.toArray)) rfl (by kernel_rfl) (by kernel_rfl) (by kernel_rfl) (fun _ _ _ h => h) (yieldsIf_load_mid (by kernel_rfl) 27 (.tmp 4) rfl Bk 0 rfl LK _ (fun w' h => h.1) Tryd.underlying27 rfl SZK.out) hH0 ?_
      simp only [Act.put, List.getElem_toArray, List.getElem_cons_zero, List.getElem_cons_succ, List.setIfInBounds_toArray, List.set_cons_zero, List.set_cons_succ]
      refine wpAnyH_ready (rs := [2]) (by kernel_rfl) (by simp) ?_
      refine AllReadyH.cons rfl (fun K hK => ?_) AllReadyH.nil
      go_simp
      refine (HDROP.out).mono ?_
      rintro _ v1 ⟨rfl, htr3, hk1⟩
      have hsw3 := HSWV.out.kept hk1 HFAR.out
      have hbel3 := HBEV.out.trans (hk1.below HBEV.out.size HSB.out)
      clear hk1
      refine Shut.out hK _ _ hsw3.all (fun hH1 => ?_)
      clear hK K
      try simp only [Act.put, List.getElem_toArray, List.getElem_cons_zero, List.getElem_cons_succ, List.setIfInBounds_toArray, List.set_cons_zero, List.set_cons_succ]
      refine wpAnyH_take (i := 3) (v := (.bool true)) rfl (by kernel_rfl) (by kernel_rfl) (by kernel_rfl) (fun _ _ _ h => h) (Or.inl ⟨by kernel_rfl, by intro w' hS; go_simp⟩) hH1 ?_
      simp only [Act.put, List.getElem_toArray, List.getElem_cons_zero, List.getElem_cons_succ, List.setIfInBounds_toArray, List.set_cons_zero, List.set_cons_succ]
      refine wpAnyH_take (i := 4) (v := ((.pointer (some ⟨g, 0, none⟩)))) rfl (by kernel_rfl) (by kernel_rfl) (by kernel_rfl) (fun _ _ _ h => h) (Or.inl ⟨by kernel_rfl, by intro w' hS; go_simp⟩) hH1 ?_
      simp only [Act.put, List.getElem_toArray, List.getElem_cons_zero, List.getElem_cons_succ, List.setIfInBounds_toArray, List.set_cons_zero, List.set_cons_succ]
      refine wpAnyH_take (i := 6) (v := (.agg LN.toArray)) rfl (by kernel_rfl) (by kernel_rfl) (by kernel_rfl) (fun _ _ _ h => h) (yieldsIf_load_mid (by kernel_rfl) 29 (.tmp 10) rfl Br 0 rfl LN _ (fun w' h => h.2.2.2) Tryd.underlying29 rfl SZN.out) hH1 ?_
      simp only [Act.put, List.getElem_toArray, List.getElem_cons_zero, List.getElem_cons_succ, List.setIfInBounds_toArray, List.set_cons_zero, List.set_cons_succ]
      refine wpAnyH_ready (rs := [5]) (by kernel_rfl) (by simp) ?_
      refine AllReadyH.cons rfl (fun K hK => ?_) AllReadyH.nil
      go_simp
      refine (HROOT.out _ _ htr3 hbel3).mono ?_
      rintro _ v2 ⟨rfl, htr4, hk1⟩
      have hsw4 := hsw3.kept hk1 HFAR.out
      have hbel4 := hbel3.trans (hk1.below hbel3.size HSB.out)
      clear hk1
      refine Shut.out hK _ _ hsw4.all (fun hH2 => ?_)
      clear hK K
      try simp only [Act.put, List.getElem_toArray, List.getElem_cons_zero, List.getElem_cons_succ, List.setIfInBounds_toArray, List.set_cons_zero, List.set_cons_succ]
      refine wpAnyH_take (i := 7) (v := (.bool true)) rfl (by kernel_rfl) (by kernel_rfl) (by kernel_rfl) (fun _ _ _ h => h) (Or.inl ⟨by kernel_rfl, by intro w' hS; go_simp⟩) hH2 ?_
      simp only [Act.put, List.getElem_toArray, List.getElem_cons_zero, List.getElem_cons_succ, List.setIfInBounds_toArray, List.set_cons_zero, List.set_cons_succ]
      refine wpAnyH_take (i := 8) (v := (.bool true)) rfl (by kernel_rfl) (by kernel_rfl) (by kernel_rfl) (fun _ _ _ h => h) (Or.inl ⟨by kernel_rfl, by intro w' hS; go_simp⟩) hH2 ?_
      simp only [Act.put, List.getElem_toArray, List.getElem_cons_zero, List.getElem_cons_succ, List.setIfInBounds_toArray, List.set_cons_zero, List.set_cons_succ]
      refine wpAnyH_take (i := 9) (v := (.bool true)) rfl (by kernel_rfl) (by kernel_rfl) (by kernel_rfl) (fun _ _ _ h => h) (Or.inl ⟨by kernel_rfl, by intro w' hS; go_simp⟩) hH2 ?_
      simp only [Act.put, List.getElem_toArray, List.getElem_cons_zero, List.getElem_cons_succ, List.setIfInBounds_toArray, List.set_cons_zero, List.set_cons_succ]
      refine wpAnyH_take (i := 10) (v := ((.pointer (some ⟨g, 0, none⟩)))) rfl (by kernel_rfl) (by kernel_rfl) (by kernel_rfl) (fun _ _ _ h => h) (Or.inl ⟨by kernel_rfl, by intro w' hS; go_simp⟩) hH2 ?_
      simp only [Act.put, List.getElem_toArray, List.getElem_cons_zero, List.getElem_cons_succ, List.setIfInBounds_toArray, List.set_cons_zero, List.set_cons_succ]
      refine wpAnyH_take (i := 11) (v := (.agg LK.toArray)) rfl (by kernel_rfl) (by kernel_rfl) (by kernel_rfl) (fun _ _ _ h => h) (yieldsIf_load_mid (by kernel_rfl) 27 (.tmp 4) rfl Bk 0 rfl LK _ (fun w' h => h.1) Tryd.underlying27 rfl SZK.out) hH2 ?_
      simp only [Act.put, List.getElem_toArray, List.getElem_cons_zero, List.getElem_cons_succ, List.setIfInBounds_toArray, List.set_cons_zero, List.set_cons_succ]
      refine wpAnyH_ready (rs := [12]) (by kernel_rfl) (by simp) ?_
      refine AllReadyH.cons rfl (fun K hK => ?_) AllReadyH.nil
      go_simp
      refine (HDROP2.out _ htr4).mono ?_
      rintro _ v3 ⟨rfl, -, hk1⟩
      have hsw5 := hsw4.kept hk1 HFAR.out
      have hbel5 := hbel4.trans (hk1.below hbel4.size HSB.out)
      clear hk1
      refine Shut.out hK _ _ hsw5.all (fun hH3 => ?_)
      clear hK K
      try simp only [Act.put, List.getElem_toArray, List.getElem_cons_zero, List.getElem_cons_succ, List.setIfInBounds_toArray, List.set_cons_zero, List.set_cons_succ]
      refine wpAnyH_take (i := 13) (v := (.bool true)) rfl (by kernel_rfl) (by kernel_rfl) (by kernel_rfl) (fun _ _ _ h => h) (Or.inl ⟨by kernel_rfl, by intro w' hS; go_simp⟩) hH3 ?_
      simp only [Act.put, List.getElem_toArray, List.getElem_cons_zero, List.getElem_cons_succ, List.setIfInBounds_toArray, List.set_cons_zero, List.set_cons_succ]
      refine wpAnyH_take (i := 14) (v := (.bool true)) rfl (by kernel_rfl) (by kernel_rfl) (by kernel_rfl) (fun _ _ _ h => h) (Or.inl ⟨by kernel_rfl, by intro w' hS; go_simp⟩) hH3 ?_
      simp only [Act.put, List.getElem_toArray, List.getElem_cons_zero, List.getElem_cons_succ, List.setIfInBounds_toArray, List.set_cons_zero, List.set_cons_succ]
      refine wpAnyH_take (i := 15) (v := (.bool true)) rfl (by kernel_rfl) (by kernel_rfl) (by kernel_rfl) (fun _ _ _ h => h) (Or.inl ⟨by kernel_rfl, by intro w' hS; go_simp⟩) hH3 ?_
      simp only [Act.put, List.getElem_toArray, List.getElem_cons_zero, List.getElem_cons_succ, List.setIfInBounds_toArray, List.set_cons_zero, List.set_cons_succ]
      refine wpAnyH_done (by kernel_rfl) ?_ _
      refine NoPanic.normal ?_
      go_wp2
      go_ret
      exact ⟨rfl, hbel5⟩
  · subst hE
    have hdt : decide (nb = 0 ∧ sm = 0) = true := decide_eq_true ⟨by rw [ENB.out]; exact h1, h2⟩
    have hnf : ∀ v, Calls Tryd.prog 16 #[.agg LF.toArray] v fun e w' => e = .returned (.bool true) ∧ Below v.heap.size v w' := fun v => by
      have := none_is v B nb cb sm HNB.out
      rw [hdt] at this
      rw [ELF.out]; exact this
    have htrd := HTRD.out
    rw [h3] at htrd
    have HTRD2 := Lib.hid htrd
    have HNONEF := Lib.hid hnf
    have hSx := HSWD.out.all
    clear h1 h2 h3 hdt hnf htrd
    go_upto_region 10 with (fail)
    refine wp_region_noPanic ?_
    refine wp_region_held_drew (S := (fun v => v.rangeAt Bk 0 LK ∧ v.rangeAt Bl 0 LF ∧ v.rangeAt Bw 0 LW ∧ v.rangeAt Br 0 LN)) (by kernel_rfl) hSx (fun hH0 => ?_)
    refine wpAnyH_take (i := 0) (v := (.agg LF.toArray)) rfl (by kernel_rfl) (by kernel_rfl) (by kernel_rfl) (fun _ _ _ h => h) (yieldsIf_load_mid (by kernel_rfl) 25 (.tmp 5) rfl Bl 0 rfl LF _ (fun w' h => h.2.1) Tryd.underlying25 rfl SZF.out) hH0 ?_
    simp only [Act.put, List.getElem_toArray, List.getElem_cons_zero, List.getElem_cons_succ, List.setIfInBounds_toArray, List.set_cons_zero, List.set_cons_succ]
    refine wpAnyH_ready (rs := [1]) (by kernel_rfl) (by simp) ?_
    refine AllReadyH.cons rfl (fun K hK => ?_) AllReadyH.nil
    go_simp
    refine (HNONEF.out _).mono ?_
    rintro _ v1 ⟨rfl, hbv⟩
    have hq1 := HTRD2.out.quiet hbv
    have hb1 := HSWD.out.below hbv
    have hbel1 := HBED.out.trans (hbv.mono HBED.out.size)
    clear hbv
    refine Shut.out hK _ _ hb1.all (fun hH1 => ?_)
    clear hK K
    try simp only [Act.put, List.getElem_toArray, List.getElem_cons_zero, List.getElem_cons_succ, List.setIfInBounds_toArray, List.set_cons_zero, List.set_cons_succ]
    refine wpAnyH_take (i := 2) (v := (.bool true)) rfl (by kernel_rfl) (by kernel_rfl) (by kernel_rfl) (fun _ _ _ h => h) (Or.inl ⟨by kernel_rfl, by intro w' hS; go_simp⟩) hH1 ?_
    simp only [Act.put, List.getElem_toArray, List.getElem_cons_zero, List.getElem_cons_succ, List.setIfInBounds_toArray, List.set_cons_zero, List.set_cons_succ]
    refine wpAnyH_take (i := 3) (v := ((.pointer (some ⟨g, 0, none⟩)))) rfl (by kernel_rfl) (by kernel_rfl) (by kernel_rfl) (fun _ _ _ h => h) (Or.inl ⟨by kernel_rfl, by intro w' hS; go_simp⟩) hH1 ?_
    simp only [Act.put, List.getElem_toArray, List.getElem_cons_zero, List.getElem_cons_succ, List.setIfInBounds_toArray, List.set_cons_zero, List.set_cons_succ]
    refine wpAnyH_take (i := 5) (v := (.agg LN.toArray)) rfl (by kernel_rfl) (by kernel_rfl) (by kernel_rfl) (fun _ _ _ h => h) (yieldsIf_load_mid (by kernel_rfl) 29 (.tmp 10) rfl Br 0 rfl LN _ (fun w' h => h.2.2.2) Tryd.underlying29 rfl SZN.out) hH1 ?_
    simp only [Act.put, List.getElem_toArray, List.getElem_cons_zero, List.getElem_cons_succ, List.setIfInBounds_toArray, List.set_cons_zero, List.set_cons_succ]
    refine wpAnyH_ready (rs := [4]) (by kernel_rfl) (by simp) ?_
    refine AllReadyH.cons rfl (fun K hK => ?_) AllReadyH.nil
    go_simp
    refine (HROOT.out _ _ hq1 hbel1).mono ?_
    rintro _ v2 ⟨rfl, -, hk2⟩
    have hb2 := hb1.kept hk2 HFAR.out
    have hbel2 := hbel1.trans (hk2.below hbel1.size HSB.out)
    clear hk2
    refine Shut.out hK _ _ hb2.all (fun hH2 => ?_)
    clear hK K
    try simp only [Act.put, List.getElem_toArray, List.getElem_cons_zero, List.getElem_cons_succ, List.setIfInBounds_toArray, List.set_cons_zero, List.set_cons_succ]
    refine wpAnyH_take (i := 6) (v := (.bool true)) rfl (by kernel_rfl) (by kernel_rfl) (by kernel_rfl) (fun _ _ _ h => h) (Or.inl ⟨by kernel_rfl, by intro w' hS; go_simp⟩) hH2 ?_
    simp only [Act.put, List.getElem_toArray, List.getElem_cons_zero, List.getElem_cons_succ, List.setIfInBounds_toArray, List.set_cons_zero, List.set_cons_succ]
    refine wpAnyH_take (i := 7) (v := (.bool true)) rfl (by kernel_rfl) (by kernel_rfl) (by kernel_rfl) (fun _ _ _ h => h) (Or.inl ⟨by kernel_rfl, by intro w' hS; go_simp⟩) hH2 ?_
    simp only [Act.put, List.getElem_toArray, List.getElem_cons_zero, List.getElem_cons_succ, List.setIfInBounds_toArray, List.set_cons_zero, List.set_cons_succ]
    refine wpAnyH_take (i := 8) (v := (.bool true)) rfl (by kernel_rfl) (by kernel_rfl) (by kernel_rfl) (fun _ _ _ h => h) (Or.inl ⟨by kernel_rfl, by intro w' hS; go_simp⟩) hH2 ?_
    simp only [Act.put, List.getElem_toArray, List.getElem_cons_zero, List.getElem_cons_succ, List.setIfInBounds_toArray, List.set_cons_zero, List.set_cons_succ]
    refine wpAnyH_done (by kernel_rfl) ?_ _
    refine NoPanic.normal ?_
    go_wp2
    go_ret
    exact ⟨rfl, hbel2⟩
end Go.Proofs.YtcpomddkehhkkaaDoor
