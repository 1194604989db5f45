/- The reference's book: how much a side has; with another amount. -/
import Derived.Test.YtcekammjpghjnaaDoorWs
import Derived.Test.YtcekammjpghjnaaDoorUHq
import Derived.Test.YtcekammjpghjnaaDoorUGr
namespace Go.Proofs.YtcekammjpghjnaaDoor
set_option linter.unusedVariables false
set_option linter.unusedSimpArgs false
open Go.ChangeShapes Go.WideShapes Go.ChangeAt Go.RowKit Go.Maps

structure HsT where
 side : Int
 id : List Nat
 am : Nat
def HsT.cells (h : HsT) : List Value := .int .i64 h.side :: (bcells h.id ++ [.int .u64 (h.am : Int)])
structure HsT.ok (h : HsT) : Prop where
 id : IsHash h.id
 am : h.am < 18446744073709551616
theorem HsT.len {h : HsT} (k : h.ok) : h.cells.length = 34 := by simp [HsT.cells, bcells_length, k.id.1]
theorem HsT.one (h : HsT) : h.cells.toArray.all (·.oneCell') = true := by
 have h2 := all_oneCell_toArray (bcells_one h.id)
 rw [Array.all_eq_true'] at *
 intro x hx
 simp only [HsT.cells, List.mem_toArray, List.mem_cons, List.mem_append, List.not_mem_nil, or_false] at hx
 rcases hx with rfl | hx | rfl
 · rfl
 · exact h2 x (by simpa using hx)
 · rfl
theorem HsT.at_am {h : HsT} (k : h.ok) : h.cells[33]? = some (.int .u64 (h.am : Int)) := by
 rw [HsT.cells, List.getElem?_cons_succ, List.getElem?_append_right (by rw [bcells_length, k.id.1]; exact Nat.le_refl _), bcells_length, k.id.1]; rfl
theorem HsT.at_id {h : HsT} (k : h.ok) (i : Nat) (hi : i < 32) : h.cells[1 + i]? = (bcells h.id)[i]? := by
 rw [HsT.cells, Nat.add_comm, List.getElem?_cons_succ, List.getElem?_append_left (by rw [bcells_length, k.id.1]; exact hi)]
def getR : List HsT → Int → List Nat → Nat
 | [], _, _ => 0
 | h :: t, s, id => if h.side = s ∧ h.id = id then h.am else getR t s id
def keepR (s : Int) (id : List Nat) (h : HsT) : Bool := decide (¬ (h.side = s ∧ h.id = id))
def setR (hs : List HsT) (s : Int) (id : List Nat) (n : Nat) : List HsT := hs.filter (keepR s id) ++ (if n = 0 then [] else [⟨s, id, n⟩])
structure RB where
 has : List HsT
 offers : List Off
 k0 : Nat
 k1 : Nat
structure RowsT {α : Type} (t : TypeId) (cl : α → List Value) (k : Nat) (w : World) (A : Option Addr) (n : Nat) (xs : List α) : Prop where
 rows : RowsAt cl k w A n xs
 ty : 0 < n → ∃ b o cs, A = some ⟨b, o, none⟩ ∧ Has w b t cs
theorem RowsT.below {α : Type} {t : TypeId} {cl : α → List Value} {k : Nat} {w w' : World} {A : Option Addr} {n : Nat} {xs : List α} (h : RowsT t cl k w A n xs) (hb : Below w.heap.size w w') : RowsT t cl k w' A n xs :=
 ⟨h.rows.below hb, fun hn => by
  obtain ⟨b, o, cs, e, hh⟩ := h.ty hn
  exact ⟨b, o, cs, e, hh.below hb hh.lt⟩⟩
theorem RowsT.far {α : Type} {t : TypeId} {cl : α → List Value} {k : Nat} {w w' : World} {A : Option Addr} {n : Nat} {xs : List α} {S : Nat → Prop} (h : RowsT t cl k w A n xs) (hk : Kept S w w') (hs : ∀ b cs, Has w b t cs → ¬ S b) : RowsT t cl k w' A n xs := by
 refine ⟨⟨h.rows.len, h.rows.sz, fun hn => ?_⟩, fun hn => ?_⟩
 · obtain ⟨b, o, e, hb, hr⟩ := h.rows.at_ hn
   obtain ⟨b2, o2, cs, e2, hh⟩ := h.ty hn
   rw [e] at e2
   injection e2 with e2
   injection e2 with e3 e4
   subst e3
   exact ⟨b, o, e, Nat.lt_of_lt_of_le hb hk.size, fun i x hx => rangeAt_kept (hr i x hx) hk (hs b cs hh)⟩
 · obtain ⟨b, o, cs, e, hh⟩ := h.ty hn
   exact ⟨b, o, cs, e, hh.kept hk (hs b cs hh)⟩
theorem own_rowsT {α : Type} {cl : α → List Value} {k : Nat} {w : World} {base n : Nat} {e : TypeId} {a : Option Addr} {c : Nat} {xs : List α} (h : w.ownsRow base e k (.slice a n c) n (xs.flatMap cl)) (hl : xs.length = n) (hz : ∀ x ∈ xs, (cl x).length = k) : RowsT e cl k w a n xs :=
 ⟨(own_rows h hl hz).1, fun hn => by
  obtain ⟨g, cap, cur, e1, _, hh, _⟩ := own_open h hn
  injection e1 with e1 _ _
  exact ⟨g, 0, cur, e1, hh⟩⟩
structure RbAt (w : World) (L : List Value) (r : RB) : Prop where
 ex : ∃ A n c B m d, L = [.slice A n c, .slice B m d, .int .u64 (r.k0 : Int), .int .u64 (r.k1 : Int)] ∧ RowsT 107 HsT.cells 34 w A n r.has ∧ RowsT 52 Off.cells 68 w B m r.offers ∧ m ≤ d ∧ n ≤ 100000 ∧ m ≤ 100000
 ok : ∀ h ∈ r.has, h.ok
 off : ∀ o ∈ r.offers, o.ok
theorem RbAt.below {w w' : World} {L : List Value} {r : RB} (h : RbAt w L r) (hb : Below w.heap.size w w') : RbAt w' L r := by
 obtain ⟨A, n, c, B, m, d, e, h1, h2, h3, h4, h5⟩ := h.ex
 exact ⟨⟨A, n, c, B, m, d, e, h1.below hb, h2.below hb, h3, h4, h5⟩, h.ok, h.off⟩
theorem RbAt.far {S : Nat → Prop} {w w' : World} {L : List Value} {r : RB} (h : RbAt w L r) (hk : Kept S w w') (hs : ∀ b cs, (Has w b 107 cs ∨ Has w b 52 cs) → ¬ S b) : RbAt w' L r := by
 obtain ⟨A, n, c, B, m, d, e, h1, h2, h3, h4, h5⟩ := h.ex
 exact ⟨⟨A, n, c, B, m, d, e, h1.far hk (fun b cs hh => hs b cs (.inl hh)), h2.far hk (fun b cs hh => hs b cs (.inr hh)), h3, h4, h5⟩, h.ok, h.off⟩
theorem RbAt.len {w : World} {L : List Value} {r : RB} (h : RbAt w L r) : L.length = 4 := by
 obtain ⟨A, n, c, B, m, d, e, _⟩ := h.ex
 rw [e]; rfl
theorem RbAt.one {w : World} {L : List Value} {r : RB} (h : RbAt w L r) : L.toArray.all (·.oneCell') = true := by
 obtain ⟨A, n, c, B, m, d, e, _⟩ := h.ex
 rw [e]; simp [Value.oneCell']
theorem size_rb {L : List Value} (h : L.length = 4) : (Tryd.prog.info? 31).map (·.size) = some L.length := by rw [h]; kernel_rfl
theorem zero_rb : ∀ w, (zeroValue 31).run Tryd.prog w = .ok (.agg #[.slice none 0 0, .slice none 0 0, .int .u64 0, .int .u64 0]) w := fun w => by kernel_rfl
theorem zero_hs : ∃ Z : Array Value, (∀ w, (zeroValue 107).run Tryd.prog w = .ok (.agg Z) w) ∧ Z.size = 34 ∧ ¬ Z = #[] := by
 have hs : (HsT.cells ⟨0, List.replicate 32 0, 0⟩).toArray.size = 34 := by kernel_rfl
 exact ⟨_, fun w => by kernel_rfl, hs, fun e => (by rw [e] at hs; cases hs)⟩
theorem info_hs : ∃ Z : Array Value, (Tryd.prog.info? 107).map (fun i => (i.zero, i.size, i.bytes)) = some (some (.agg Z), 34, 48) ∧ Z.size = 34 :=
 ⟨(HsT.cells ⟨0, List.replicate 32 0, 0⟩).toArray, by kernel_rfl, by kernel_rfl⟩
theorem at_hs (b o n c k : Nat) (hk : k < n) (w : World) : (Instr.indexAt 28 (.slice (some ⟨b, o, none⟩) n c) (.int .i64 (k : Int))).run Tryd.prog w = .ok (.pointer (some ⟨b, o + k * 34, none⟩)) w := by
 have hu : Tryd.prog.underlying 28 = some (.slice (Tryd.prog.elem 28)) := by kernel_rfl
 have he : Tryd.prog.elem 28 = 107 := by kernel_rfl
 have hz : ∀ w, (sizeOf 107).run Tryd.prog w = .ok 34 w := fun w => by kernel_rfl
 rw [run_indexAt_slice w 28 ⟨b, o, none⟩ n c .i64 (k : Int) hu, if_pos ⟨by omega, by omega⟩, he, hz]
 simp only [Result.andThen, Int.toNat_natCast, Addr.add_mid]
theorem rhash_eq (a b : List Nat) (ha : IsHash a) (hb : IsHash b) (w : World) : (Op.equalIn 10000 38 (.agg (bcells a).toArray) (.agg (bcells b).toArray)).run Tryd.prog w = .ok (decide (a = b)) w := req_hash rfl 9998 ha hb w
theorem hs_id {w : World} {G : Nat} {h : HsT} (k : h.ok) (hh : Has w G 107 h.cells.toArray) : w.rangeAt G 1 (bcells h.id) := fun j u hu => by
 have hj : j < 32 := by have := (List.getElem?_eq_some_iff.1 hu).1; rw [bcells_length, k.id.1] at this; exact this
 exact hh.cell_is (by rw [List.getElem?_toArray, HsT.at_id k j hj]; exact hu)
theorem boxes_get (w : World) (LB LI : List Value) : ∃ W1, W1 = (((w.alloc (.cells LB.toArray 31))).alloc (.cells LI.toArray 38)) ∧
   Has W1 (w.heap.size) 31 LB.toArray ∧ Has W1 (w.heap.size + 1) 38 LI.toArray ∧ Below w.heap.size w W1 := by
 refine ⟨_, rfl, ?_, ?_, ?_⟩
 · have := Has.new w 31 LB.toArray
   exact (this).alloc _
 · have := Has.new (w.alloc (.cells LB.toArray 31)) 38 LI.toArray
   exact (by simpa using this : Has _ (w.heap.size + 1) _ _)
 · exact ((Below.refl _ _).alloc (Nat.le_refl _) _).alloc (by simp) _

theorem boxes_set (w : World) (LB LI : List Value) (Z : Array Value) : ∃ W1, W1 = (((((w.alloc (.cells LB.toArray 31))).alloc (.cells LI.toArray 38))).alloc (.cells Z 31)) ∧
   Has W1 (w.heap.size) 31 LB.toArray ∧ Has W1 (w.heap.size + 1) 38 LI.toArray ∧ Has W1 (w.heap.size + 1 + 1) 31 Z ∧ Below w.heap.size w W1 := by
 refine ⟨_, rfl, ?_, ?_, ?_, ?_⟩
 · have := Has.new w 31 LB.toArray
   exact ((this).alloc _).alloc _
 · have := Has.new (w.alloc (.cells LB.toArray 31)) 38 LI.toArray
   exact ((by simpa using this : Has _ (w.heap.size + 1) _ _)).alloc _
 · have := Has.new (((w.alloc (.cells LB.toArray 31))).alloc (.cells LI.toArray 38)) 31 Z
   exact (by simpa using this : Has _ (w.heap.size + 1 + 1) _ _)
 · exact (((Below.refl _ _).alloc (Nat.le_refl _) _).alloc (by simp) _).alloc (by simp; omega) _
set_option maxRecDepth 100000 in
set_option maxHeartbeats 4000000 in
theorem rbGet_is (w : World) (L : List Value) (r : RB) (hr : RbAt w L r) (s : Int) (id : List Nat) (hid : IsHash id) :
  Calls Tryd.prog 28 #[.agg L.toArray, .int .i64 s, arr id] w fun e w' => e = .returned (.int .u64 (getR r.has s id : Int)) ∧ Below w.heap.size w w' := by
 obtain ⟨Z, hz, hzs, hzn⟩ := zero_hs
 obtain ⟨LI, hLI⟩ : ∃ X, X = bcells id := ⟨_, rfl⟩
 unfold arr
 rw [← hLI]
 obtain ⟨A, n, c, B, m, d, hL, hrows, -, -, hn, -⟩ := hr.ex
 obtain ⟨W1, hW1, h1, h2, hb1⟩ := boxes_get w L LI
 have hc0 : W1.cell? ⟨w.heap.size, 0, none⟩ = some (.slice A n c) := h1.cell_is (by rw [hL]; rfl)
 have HR1 := Lib.hid (hrows.rows.below hb1)
 have HLEN := Lib.hid hrows.rows.len
 have HOK := Lib.hid hr.ok
 have HB1 := Lib.hid hb1
 have EW := Lib.hid hW1
 have HLI := Lib.hid hLI
 have HID := Lib.hid hid
 have HZS := Lib.hid hzs
 have H2 := Lib.hid h2
 have HAT := Lib.hid at_hs
 have SZI := Lib.hid (show (Tryd.prog.info? 38).map (·.size) = some LI.length by rw [hLI, bcells_length, hid.1]; kernel_rfl)
 clear hr hL hrows hb1 hW1 hLI hid hzs h1 h2
 go_enter Tryd.func28, Tryd.ntmps28
 go_upto_region 1 with (fail)
 rw [← EW.out]
 obtain ⟨b0, hb0⟩ : ∃ y, y = w.heap.size := ⟨_, rfl⟩
 rw [← hb0] at hc0 H2 ⊢
 clear hb0 EW
 go_wp2_with fail
 clear hc0
 go_loopw [12] (fun iv wr => ∃ k : Nat, iv = .int .i64 (k : Int) ∧ k ≤ n ∧ getR r.has s id = getR (r.has.drop k) s id ∧ Below W1.heap.size W1 wr) (fun iv _ => n - (intOf iv).toNat)
 case atStart => exact ⟨0, rfl, Nat.zero_le _, by rw [List.drop_zero], Below.refl _ _⟩
 case round =>
  obtain ⟨k, rfl, hk, hget, hbel⟩ := hrel
  have HBE := Lib.hid hbel
  have HGET := Lib.hid hget
  clear hbel hget
  by_cases hlt : k < n
  · have hlt' : (k : Int) < (n : Int) := by omega
    obtain ⟨sb, so, hA1, hA2, hrr⟩ := HR1.out.at_ (by omega)
    subst hA1
    obtain ⟨x, hx⟩ : ∃ x, r.has[k]? = some x := ⟨_, List.getElem?_eq_getElem (by rw [HLEN.out]; exact hlt)⟩
    have hxok := HOK.out x (List.mem_of_getElem? hx)
    have hrw := rangeAt_kept (hrr k x hx) (Kept.of_below (S := fun _ => False) HBE.out) (fun h => h)
    obtain ⟨XC, hXC⟩ : ∃ L, L = x.cells := ⟨_, rfl⟩
    rw [← hXC] at hrw
    have hfl : XC.length = 34 := by rw [hXC]; exact HsT.len hxok
    have HRW := Lib.hid hrw
    have SZ1 := Lib.hid (show (Tryd.prog.info? 107).map (·.size) = some XC.length by rw [hfl]; kernel_rfl)
    have SZA := Lib.hid (show (Tryd.prog.info? 107).map (·.size) = some XC.toArray.size by rw [List.size_toArray]; exact SZ1.out)
    have HZZ := Lib.hid (show Z.size = XC.toArray.size by rw [HZS.out, List.size_toArray, hfl])
    have HONE := Lib.hid (show XC.toArray.all (·.oneCell') = true by rw [hXC]; exact HsT.one x)
    have HNW := Lib.hid (show ∀ C, Has ((wr.alloc (.cells Z 107)).setRow wr.heap.size C) wr.heap.size 107 C ∧ Below wr.heap.size wr ((wr.alloc (.cells Z 107)).setRow wr.heap.size C) from fun C => by
      rw [World.setRow_alloc_new]
      exact ⟨Has.new wr _ _, (Below.refl _ _).alloc (Nat.le_refl _) _⟩)
    have HXOK := Lib.hid hxok
    have EXC := Lib.hid hXC
    have hat := HAT.out sb so n c k hlt
    have HLTK := Lib.hid hlt
    have HDROP := Lib.hid (show getR (r.has.drop k) s id = if x.side = s ∧ x.id = id then x.am else getR (r.has.drop (k + 1)) s id by
      rw [List.drop_eq_getElem_cons (by rw [HLEN.out]; exact hlt)]
      have e : r.has[k]'(by rw [HLEN.out]; exact hlt) = x := by rw [List.getElem?_eq_getElem (by rw [HLEN.out]; exact hlt)] at hx; exact Option.some.inj hx
      rw [e]; rfl)
    clear hrw hfl hxok hx hXC hrr hA2 hlt
    go_upto_region 4 with (first
      | (refine wpList_load_mid rfl 107 (.tmp 14) rfl sb (so + k * 34) rfl XC _ HRW.out Tryd.underlying107 rfl SZ1.out ?_)
      | (refine wpList_store_row rfl 107 (.tmp 8) (.tmp 15) rfl wr.heap.size XC.toArray rfl rfl 107 Z (heap_alloc_new wr _) SZA.out HZZ.out HONE.out ?_))
    obtain ⟨h3, hk3⟩ := HNW.out XC.toArray
    have hb3 := HBE.out.trans (hk3.mono HBE.out.size)
    clear HNW hk3 hat
    generalize (wr.alloc (.cells Z 107)).setRow wr.heap.size XC.toArray = W9 at h3 hb3 ⊢
    generalize wr.heap.size = G at h3 ⊢
    rw [EXC.out] at h3
    have HB3 := Lib.hid hb3
    have HRI := Lib.hid (hs_id HXOK.out h3)
    have c33 : W9.cell? ⟨G, 33, none⟩ = some (.int .u64 (x.am : Int)) := h3.cell_is (by rw [List.getElem?_toArray]; exact HsT.at_am HXOK.out)
    have cs0 : W9.cell? ⟨G, 0, none⟩ = some (.int .i64 x.side) := h3.cell_is rfl
    have HI9 := Lib.hid (H2.out.below hb3 H2.out.lt).row0
    have SZX := Lib.hid (show (Tryd.prog.info? 38).map (·.size) = some (bcells x.id).length by rw [bcells_length, HXOK.out.id.1]; kernel_rfl)
    obtain ⟨qi, hqi⟩ : ∃ q, q = decide (x.id = id) := ⟨_, rfl⟩
    have heqi : ∀ v, (Op.equalIn 10000 38 (.agg (bcells x.id).toArray) (.agg LI.toArray)).run Tryd.prog v = .ok qi v := fun v => by rw [HLI.out, hqi]; exact rhash_eq _ _ HXOK.out.id HID.out v
    have HQI := Lib.hid hqi
    have HBF := Lib.hid (HB1.out.trans (hb3.mono HB1.out.size))
    clear h3 hb3 hqi
    obtain ⟨xs, hxs⟩ : ∃ v, v = x.side := ⟨_, rfl⟩
    obtain ⟨xm, hxm⟩ : ∃ v, v = x.am := ⟨_, rfl⟩
    rw [← hxs] at cs0 HDROP
    rw [← hxm] at c33 HDROP
    clear hxs hxm
    by_cases hs : xs = s
    · have hs' : (xs == s) = true := by rw [beq_iff_eq]; exact hs
      have HS := Lib.hid hs
      clear hs
      cases qi with
      | true =>
       have HQ := Lib.hid (show getR r.has s id = xm by rw [HGET.out, HDROP.out, if_pos ⟨HS.out, of_decide_eq_true HQI.out.symm⟩])
       go_wp2_with (first
        | (refine wpList_load_midG (by kernel_rfl) 38 (.tmp 21) rfl G 1 rfl (bcells x.id) _ HRI.out Tryd.underlying38 rfl SZX.out ?_)
        | (refine wpList_load_midG (by kernel_rfl) 38 (.tmp 5) rfl (b0 + 1) 0 rfl LI _ HI9.out Tryd.underlying38 rfl SZI.out ?_))
       go_ret
       exact ⟨by rw [HQ.out]; rfl, HBF.out⟩
      | false =>
       have HQ := Lib.hid (show getR r.has s id = getR (r.has.drop (k + 1)) s id by rw [HGET.out, HDROP.out, if_neg (fun h => of_decide_eq_false HQI.out.symm h.2)])
       go_wp2_with (first
        | (refine wpList_load_midG (by kernel_rfl) 38 (.tmp 21) rfl G 1 rfl (bcells x.id) _ HRI.out Tryd.underlying38 rfl SZX.out ?_)
        | (refine wpList_load_midG (by kernel_rfl) 38 (.tmp 5) rfl (b0 + 1) 0 rfl LI _ HI9.out Tryd.underlying38 rfl SZI.out ?_))
       go_roundw
       case rel => exact ⟨k + 1, by go_num, HLTK.out, HQ.out, HB3.out⟩
       case measure => have := HLTK.out; simp [intOf]; omega
    · have hs' : (xs == s) = false := by rw [beq_eq_false_iff_ne]; exact hs
      have HQ := Lib.hid (show getR r.has s id = getR (r.has.drop (k + 1)) s id by rw [HGET.out, HDROP.out, if_neg (fun h => hs h.1)])
      clear hs heqi
      go_wp2_with fail
      go_roundw
      case rel => exact ⟨k + 1, by go_num, HLTK.out, HQ.out, HB3.out⟩
      case measure => have := HLTK.out; simp [intOf]; omega
  · obtain rfl : k = n := by omega
    have hno : ¬ (k : Int) < (k : Int) := by omega
    have HQ := Lib.hid (show getR r.has s id = 0 by rw [HGET.out, List.drop_of_length_le (by rw [HLEN.out]; exact Nat.le_refl _)]; rfl)
    have HBF := Lib.hid (HB1.out.trans (HBE.out.mono HB1.out.size))
    go_wp2_with fail
    go_ret
    exact ⟨by rw [HQ.out]; rfl, HBF.out⟩
end Go.Proofs.YtcekammjpghjnaaDoor

