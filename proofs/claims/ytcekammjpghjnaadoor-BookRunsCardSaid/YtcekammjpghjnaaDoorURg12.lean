/- The walk of 'is': does a book say just what a model says? -/
import Derived.Test.YtcekammjpghjnaaDoorWs
import Derived.Test.YtcekammjpghjnaaDoorURg11
namespace Go.Proofs.YtcekammjpghjnaaDoor
set_option linter.unusedVariables false
set_option linter.unusedSimpArgs false
open Go.ChangeShapes Go.WideShapes Go.ChangeAt Go.RowKit Go.Maps

theorem at_bo (b o n c k : Nat) (hk : k < n) (w : World) : (Instr.indexAt 61 (.slice (some ⟨b, o, none⟩) n c) (.int .i64 (k : Int))).run Tryd.prog w = .ok (.pointer (some ⟨b, o + k * 68, none⟩)) w := by
 have hu : Tryd.prog.underlying 61 = some (.slice (Tryd.prog.elem 61)) := by kernel_rfl
 have he : Tryd.prog.elem 61 = 42 := by kernel_rfl
 have hz : ∀ w, (sizeOf 42).run Tryd.prog w = .ok 68 w := fun w => by kernel_rfl
 rw [run_indexAt_slice w 61 ⟨b, o, none⟩ n c .i64 (k : Int) hu, if_pos ⟨by omega, by omega⟩, he, hz]
 simp only [Result.andThen, Int.toNat_natCast, Addr.add_mid]
theorem at_bsum (b o n c k : Nat) (hk : k < n) (w : World) : (Instr.indexAt 63 (.slice (some ⟨b, o, none⟩) n c) (.int .i64 (k : Int))).run Tryd.prog w = .ok (.pointer (some ⟨b, o + k * 33, none⟩)) w := by
 have hu : Tryd.prog.underlying 63 = some (.slice (Tryd.prog.elem 63)) := by kernel_rfl
 have he : Tryd.prog.elem 63 = 94 := by kernel_rfl
 have hz : ∀ w, (sizeOf 94).run Tryd.prog w = .ok 33 w := fun w => by kernel_rfl
 rw [run_indexAt_slice w 63 ⟨b, o, none⟩ n c .i64 (k : Int) hu, if_pos ⟨by omega, by omega⟩, he, hz]
 simp only [Result.andThen, Int.toNat_natCast, Addr.add_mid]
theorem at_bh (b o n c k : Nat) (hk : k < n) (w : World) : (Instr.indexAt 40 (.slice (some ⟨b, o, none⟩) n c) (.int .i64 (k : Int))).run Tryd.prog w = .ok (.pointer (some ⟨b, o + k * 32, none⟩)) w := by
 have hu : Tryd.prog.underlying 40 = some (.slice (Tryd.prog.elem 40)) := by kernel_rfl
 have he : Tryd.prog.elem 40 = 39 := by kernel_rfl
 have hz : ∀ w, (sizeOf 39).run Tryd.prog w = .ok 32 w := fun w => by kernel_rfl
 rw [run_indexAt_slice w 40 ⟨b, o, none⟩ n c .i64 (k : Int) hu, if_pos ⟨by omega, by omega⟩, he, hz]
 simp only [Result.andThen, Int.toNat_natCast, Addr.add_mid]
theorem boxes_is (w : World) (LB : List Value) : ∃ W1, W1 = (w.alloc (.cells LB.toArray 31)) ∧
   Has W1 (w.heap.size) 31 LB.toArray ∧ Below w.heap.size w W1 := by
 refine ⟨_, rfl, ?_, ?_⟩
 · have := Has.new w 31 LB.toArray
   exact this
 · exact (Below.refl _ _).alloc (Nat.le_refl _) _

theorem build_ro (o : Off) (h : o.ok) (w : World) : (Instr.build 52 #[(0, .int .i64 o.no), (1, .int .i64 o.frm), (2, .agg (bcells o.id).toArray), (3, .int .u64 (o.am : Int)), (4, .agg (bcells o.lock).toArray), (5, .int .i64 o.til)]).run Tryd.prog w = .ok (.agg o.cells.toArray) w := by
 obtain ⟨no, frm, id, am, lock, til⟩ := o
 have h1 : id.length = 32 := h.1.1
 have h2 : lock.length = 32 := h.2.1.1
 clear h
 obtain ⟨d0, d1, d2, d3, d4, d5, d6, d7, d8, d9, d10, d11, d12, d13, d14, d15, d16, d17, d18, d19, d20, d21, d22, d23, d24, d25, d26, d27, d28, d29, d30, d31, rfl⟩ := thirty_twoR id h1
 obtain ⟨e0, e1, e2, e3, e4, e5, e6, e7, e8, e9, e10, e11, e12, e13, e14, e15, e16, e17, e18, e19, e20, e21, e22, e23, e24, e25, e26, e27, e28, e29, e30, e31, rfl⟩ := thirty_twoR lock h2
 exact run_build w 52 _ _ (by kernel_rfl)
theorem zero_bo : ∃ Z : Array Value, (∀ w, (zeroValue 42).run Tryd.prog w = .ok (.agg Z) w) ∧ Z.size = 68 ∧ ¬ Z = #[] := by
 have hs : (Off.cells ⟨0, 0, List.replicate 32 0, 0, List.replicate 32 0, 0⟩).toArray.size = 68 := by kernel_rfl
 exact ⟨_, fun w => by kernel_rfl, hs, fun e => (by rw [e] at hs; cases hs)⟩
theorem zero_bsum : ∃ Z : Array Value, (∀ w, (zeroValue 94).run Tryd.prog w = .ok (.agg Z) w) ∧ Z.size = 33 ∧ ¬ Z = #[] := by
 have hs : (HV.enc ⟨Z32, 0, z32_is⟩).toArray.size = 33 := by kernel_rfl
 exact ⟨_, fun w => by kernel_rfl, hs, fun e => (by rw [e] at hs; cases hs)⟩
theorem sums_len {l : List Ent} {ys : List HV} (hn : Neat l) (h : IsSums l ys) : ys.length = l.length := by
 have hp : (ys.map (·.k)).Perm (l.map (·.1)) := by
  refine (List.perm_ext_iff_of_nodup (rising_nodup h.rise) hn.nodup).2 fun q => ?_
  rw [List.mem_map, List.mem_map]
  constructor
  · rintro ⟨x, hx, rfl⟩
    exact ⟨_, h.of x hx, rfl⟩
  · rintro ⟨p, hp, rfl⟩
    obtain ⟨x, hx, e⟩ := h.all p hp
    exact ⟨x, hx, e.symm⟩
 have := hp.length_eq
 rwa [List.length_map, List.length_map] at this
def CntOk (b : Bk) : Nat → Nat → Prop
 | 0, c => c = 0
 | 1, c => ∃ y0, IsSums (b.side 0) y0 ∧ c = y0.length
 | _, c => ∃ y0 y1, IsSums (b.side 0) y0 ∧ IsSums (b.side 1) y1 ∧ c = y0.length + y1.length
theorem CntOk.le {b : Bk} (ht : Tidy b) (hs : Small b 90000) {s c : Nat} (h : CntOk b s c) : c ≤ 180000 := by
 have l0 := hs 0
 have l1 := hs 1
 match s, h with
 | 0, h => have : c = 0 := h; omega
 | 1, h =>
  obtain ⟨y0, h0, e⟩ := h
  have := sums_len (ht.side 0) h0
  omega
 | _ + 2, h =>
  obtain ⟨y0, y1, h0, h1, e⟩ := h
  have e0 := sums_len (ht.side 0) h0
  have e1 := sums_len (ht.side 1) h1
  omega
theorem CntOk.step {b : Bk} {s c : Nat} (h : CntOk b s c) (hs : s < 2) {ys : List HV} (hy : IsSums (b.side (s : Int)) ys) : CntOk b (s + 1) (c + ys.length) := by
 match s, h, hs, hy with
 | 0, h, _, hy =>
  have e : c = 0 := h
  exact ⟨ys, hy, by rw [e, Nat.zero_add]⟩
 | 1, h, _, hy =>
  obtain ⟨y0, h0, e⟩ := h
  exact ⟨y0, ys, h0, hy, by rw [e]⟩
theorem hv_cell (x : HV) {w : World} {G : Nat} {t : TypeId} (h : Has w G t x.enc.toArray) : w.cell? ⟨G, 32, none⟩ = some (.int .u64 (x.n : Int)) ∧ w.rangeAt G 0 (bcells x.k) := by
 refine ⟨h.cell_is ?_, fun j u hu => h.cell_is ?_⟩
 · rw [List.getElem?_toArray, HV.enc, List.getElem?_append_right (by rw [bcells_length, x.h.1]; exact Nat.le_refl _), bcells_length, x.h.1]; rfl
 · have hj := (List.getElem?_eq_some_iff.1 hu).1
   rw [List.getElem?_toArray, Nat.zero_add, HV.enc, List.getElem?_append_left hj]; exact hu
theorem hv_bytes {w : World} {b o : Nat} {k : List Nat} (hk : k.length = 32) (h : w.rangeAt b o (bcells k)) : ∀ i, i < 32 → w.cell? ⟨b, o + i, none⟩ = some (.int .u8 ((k.getD i 0 : Nat) : Int)) := fun i hi => h i _ (bcells_get _ i (by rw [hk]; exact hi))
set_option maxRecDepth 100000 in
set_option maxHeartbeats 16000000 in
theorem is_is (w : World) (S : Nat → Prop) (g : Nat) (b : Bk) (hlv : Lv S w g b) (ht : Tidy b) (hsm : Small b 90000) (L : List Value) (r : RB) (hr : RbAt w L r) (hlk : Like b r) (A0 : Option Addr) (n0 c0 : Nat) (ids : List (List Nat)) (hids : RowsAt bcells 32 w A0 n0 ids) (hih : ∀ i ∈ ids, IsHash i) (hn0 : n0 ≤ 1000) :
  Calls Tryd.prog 16 #[.pointer (some ⟨g, 0, none⟩), .agg L.toArray, .slice A0 n0 c0] w fun e w' => e = .returned (.bool true) ∧ Below w.heap.size w w' := by
 obtain ⟨ZO, hzo, hzos, hzon⟩ := zero_bo
 obtain ⟨ZS, hzs, hzss, hzsn⟩ := zero_bsum
 obtain ⟨ZH, hzh, hzhs, hzhn⟩ := zero_hash
 obtain ⟨A, n, c, B, m, d, hL, hrows, hoffs, hmd, hn, hm⟩ := hr.ex
 have hm60 : m ≤ 60 := by rw [← hoffs.rows.len, hlk.off]; exact ht.len
 obtain ⟨W1, hW1, h1, hb1⟩ := boxes_is w L
 have HR := Lib.hid hr
 have HLV := Lib.hid hlv
 have HT := Lib.hid ht
 have HSM := Lib.hid hsm
 have HLK := Lib.hid hlk
 have HB1 := Lib.hid hb1
 have EW := Lib.hid hW1
 have H1 := Lib.hid h1
 have HZO := Lib.hid hzos
 have HZS := Lib.hid hzss
 have HZH := Lib.hid hzhs
 have HLL := Lib.hid hL
 have HIDS := Lib.hid (hids.below hb1)
 have HIH := Lib.hid hih
 have HN0 := Lib.hid hn0
 have HM := Lib.hid hm60
 have HROW := Lib.hid (hoffs.rows.below hb1)
 have HLEN := Lib.hid (show r.has.length = n ∧ b.offers.length = m from ⟨hrows.rows.len, by rw [← hlk.off]; exact hoffs.rows.len⟩)
 have SZB := Lib.hid (size_rb hr.len)
 have HLEN2 := Lib.hid (show r.offers = b.offers from hlk.off)
 have HOOK := Lib.hid (show ∀ o ∈ b.offers, o.ok from fun o ho => (ht.off o ho).1)
 have HOF := Lib.hid (show ∀ v, Below w.heap.size w v → Calls Tryd.prog 19 #[.pointer (some ⟨g, 0, none⟩)] v fun e w' => ∃ v', e = .returned v' ∧ w'.ownsRow v.heap.size 42 68 v' b.offers.length (b.offers.flatMap Off.cells) ∧ Below v.heap.size v w' from fun v hv => lv_offs (hlv.quiet hv) ht.ok)
 have HC := Lib.hid (show ∀ v, Below W1.heap.size W1 v → v.cell? ⟨w.heap.size, 0, none⟩ = some (.slice A n c) ∧ v.cell? ⟨w.heap.size, 1, none⟩ = some (.slice B m d) from fun v hv => by
  have h := h1.below hv h1.lt
  rw [hL] at h
  exact ⟨h.cell_is rfl, h.cell_is rfl⟩)
 have HX := Lib.hid (show ∀ v, Below W1.heap.size W1 v → v.rangeAt w.heap.size 0 L from fun v hv => (H1.out.below hv H1.out.lt).row0)
 have HSU := Lib.hid (show ∀ (v : World) (f : Int), isSide f → Below w.heap.size w v → Calls Tryd.prog 20 #[.pointer (some ⟨g, 0, none⟩), .int .i64 f] v fun e w' => ∃ v' ys, e = .returned v' ∧ IsSums (b.side f) ys ∧ w'.ownsRow v.heap.size 94 33 v' ys.length (ys.flatMap HV.enc) ∧ Below v.heap.size v w' from fun v f hf hv => lv_sums (hlv.quiet hv) ht.ok (fun q => Nat.le_trans (hsm q) (by decide)) f hf)
 have HBH := Lib.hid (show ∀ (v : World) (f : Int) (id : List Nat), isSide f → IsHash id → Below w.heap.size w v → Calls Tryd.prog 17 #[.pointer (some ⟨g, 0, none⟩), .int .i64 f, .agg (bcells id).toArray] v fun e w' => e = .returned (.int .u64 (b.has f id : Int)) ∧ Below v.heap.size v w' from fun v f id hf hi hv => lv_has (hlv.quiet hv) ht.ok f id hi hf)
 have HRG := Lib.hid (show ∀ (v : World) (f : Int) (id : List Nat), isSide f → IsHash id → Below w.heap.size w v → Calls Tryd.prog 28 #[.agg L.toArray, .int .i64 f, .agg (bcells id).toArray] v fun e w' => e = .returned (.int .u64 (b.has f id : Int)) ∧ Below v.heap.size v w' from fun v f id hf hi hv => by
  have := rbGet_is v L r (hr.below hv) f id hi
  rw [hlk.get f hf] at this
  exact this)
 have HAT9 := Lib.hid (show ∀ (f : Int) (ys : List HV), IsSums (b.side f) ys → ∀ x ∈ ys, b.has f x.k = x.n ∧ 0 < x.n from fun f ys hy x hx => ⟨(sums_at (ht.side f) hy x hx).1, (sums_at (ht.side f) hy x hx).2.1⟩)
 have HTR := Lib.hid (show ∀ (v : World) (id : List Nat), IsHash id → Below w.heap.size w v → Calls Tryd.prog 25 #[.agg L.toArray, .agg (bcells id).toArray] v fun e w' => e = .returned (.tuple #[.int .u64 (tot b id : Int), .bool true]) ∧ Below v.heap.size v w' from fun v id hi hv => by
  have := rbTotal_is v L r (hr.below hv) (by rw [hlk.off]; have := ht.len; omega) id hi
  unfold arr totV at this
  rw [hlk.list id] at this
  have hf : (amounts b id).sum < 18446744073709551616 := ht.fit id
  rw [if_pos hf] at this
  exact this)
 have HBT := Lib.hid (show ∀ (v : World) (id : List Nat), IsHash id → Below w.heap.size w v → Calls Tryd.prog 18 #[.pointer (some ⟨g, 0, none⟩), .agg (bcells id).toArray] v fun e w' => e = .returned (.int .u64 (tot b id : Int)) ∧ Below v.heap.size v w' from fun v id hi hv => lv_total (hlv.quiet hv) ht.ok id hi (ht.fit id))
 have HCNT := Lib.hid (show ∀ c, CntOk b 2 c → c = r.has.length from fun c h => by
  obtain ⟨y0, y1, h0, h1, e⟩ := h
  rw [e]
  exact like_count hlk ht h0 h1)
 have HCB := Lib.hid (show ∀ s c, CntOk b s c → c ≤ 180000 from fun s c h => h.le ht hsm)
 have HSL := Lib.hid (show ∀ (f : Int) (ys : List HV), IsSums (b.side f) ys → ys.length ≤ 90000 from fun f ys hy => by rw [sums_len (ht.side f) hy]; exact hsm f)
 clear hr hlv ht hsm hlk hb1 hW1 h1 hzos hzss hzhs hL hids hih hn0 hm60 hrows hoffs hmd hn hm
 go_enter Tryd.func16, Tryd.ntmps16
 go_upto_region 1 with (fail)
 rw [← EW.out]
 obtain ⟨b0, hb0⟩ : ∃ y, y = w.heap.size := ⟨_, rfl⟩
 rw [← hb0] at H1 HC HX ⊢
 have HBQ := Lib.hid hb0
 clear hb0 EW
 go_wp2_with fail
 refine (HOF.out W1 HB1.out).mono ?_
 rintro _ w8 ⟨v8, rfl, hown8, hb8⟩
 obtain ⟨oa8, oc8, rfl⟩ := own_form hown8
 obtain ⟨hrow8, -⟩ := own_rows hown8 rfl (fun x hx => Off.length x (HOOK.out x hx))
 rw [HLEN.out.2] at hrow8 ⊢
 have HROW8 := Lib.hid hrow8
 have HB8 := Lib.hid hb8
 have hc1 : w8.cell? ⟨b0, 1, none⟩ = some (.slice B m d) := (HC.out w8 hb8).2
 clear hown8 hb8 hrow8 HOF
 have hmb : m ≤ 60 := HM.out
 go_wp2_with fail
 clear hc1
 go_loopw [29] (fun iv wr => ∃ k : Nat, iv = .int .i64 (k : Int) ∧ k ≤ m ∧ Below w8.heap.size w8 wr) (fun iv _ => m - (intOf iv).toNat)
 case atStart => exact ⟨0, rfl, Nat.zero_le _, Below.refl _ _⟩
 case round =>
  obtain ⟨k, rfl, hk, hbel⟩ := hrel
  have HBE := Lib.hid hbel
  clear hbel
  by_cases hlt : k < m
  · have hlt' : (k : Int) < (m : Int) := by omega
    obtain ⟨sa, sq, hA1, hA2, hrr8⟩ := HROW8.out.at_ (by omega)
    subst hA1
    obtain ⟨sb, so, hA3, hA4, hrr⟩ := HROW.out.at_ (by omega)
    subst hA3
    obtain ⟨x, hx⟩ : ∃ x, b.offers[k]? = some x := ⟨_, List.getElem?_eq_getElem (by rw [HLEN.out.2]; exact hlt)⟩
    have hxok := HOOK.out x (List.mem_of_getElem? hx)
    have hrw := rangeAt_kept (hrr8 k x hx) (Kept.of_below (S := fun _ => False) HBE.out) (fun h => h)
    obtain ⟨XC, hXC⟩ : ∃ L, L = x.cells := ⟨_, rfl⟩
    have HRF := Lib.hid (show ∀ v, Below W1.heap.size W1 v → v.rangeAt sb (so + k * 68) XC from fun v hv => by
     rw [hXC]
     exact rangeAt_kept (hrr k x (by rw [HLEN2.out]; exact hx)) (Kept.of_below (S := fun _ => False) hv) (fun h => h))
    rw [← hXC] at hrw
    have LXC := Lib.hid (show XC.length = 68 by rw [hXC]; exact Off.length x hxok)
    have HRW := Lib.hid hrw
    have SZ1 := Lib.hid (show (Tryd.prog.info? 42).map (·.size) = some XC.length by rw [LXC.out]; kernel_rfl)
    have SZR := Lib.hid (show (Tryd.prog.info? 52).map (·.size) = some XC.length by rw [LXC.out]; kernel_rfl)
    have SZXA := Lib.hid (show (Tryd.prog.info? 42).map (·.size) = some XC.toArray.size by rw [List.size_toArray]; exact SZ1.out)
    have HZZ := Lib.hid (show ZO.size = XC.toArray.size by rw [HZO.out, List.size_toArray, LXC.out])
    have HONEX := Lib.hid (show XC.toArray.all (·.oneCell') = true by rw [hXC]; exact all_oneCell_toArray (off_one x))
    have HNW := Lib.hid (show ∀ C, Has ((wr.alloc (.cells ZO 42)).setRow wr.heap.size C) wr.heap.size 42 C ∧ Below wr.heap.size wr ((wr.alloc (.cells ZO 42)).setRow wr.heap.size C) from fun C => by
     rw [World.setRow_alloc_new]
     exact ⟨Has.new wr _ _, (Below.refl _ _).alloc (Nat.le_refl _) _⟩)
    have HXOK := Lib.hid hxok
    have EXC := Lib.hid hXC
    have hat := at_bo sa sq m oc8 k hlt
    have HAT2 := Lib.hid (fun v => at_ro sb so m d k hlt v)
    have HLTK := Lib.hid hlt
    have HEQ := Lib.hid (show ∀ v, (Op.equalIn 10000 52 (.agg XC.toArray) (.agg XC.toArray)).run Tryd.prog v = .ok true v from fun v => by rw [hXC, roff_eq x x hxok hxok v, decide_eq_true rfl])
    have HBLD := Lib.hid (show ∀ v, (Instr.build 52 #[(0, .int .i64 x.no), (1, .int .i64 x.frm), (2, .agg (bcells x.id).toArray), (3, .int .u64 (x.am : Int)), (4, .agg (bcells x.lock).toArray), (5, .int .i64 x.til)]).run Tryd.prog v = .ok (.agg XC.toArray) v from fun v => by rw [hXC]; exact build_ro x hxok v)
    clear hrw hxok hx hXC hrr hrr8 hA2 hA4 hlt
    go_upto_region 7 with (first
     | (refine wpList_load_mid rfl 42 (.tmp 32) rfl sa (sq + k * 68) rfl XC _ HRW.out Tryd.underlying42 rfl SZ1.out ?_)
     | (refine wpList_store_row rfl 42 (.tmp 9) (.tmp 33) rfl wr.heap.size XC.toArray rfl rfl 42 ZO (heap_alloc_new wr _) SZXA.out HZZ.out HONEX.out ?_))
    obtain ⟨h4, hk4⟩ := HNW.out XC.toArray
    have hb4 := HBE.out.trans (hk4.mono HBE.out.size)
    clear HNW hk4 hat
    generalize (wr.alloc (.cells ZO 42)).setRow wr.heap.size XC.toArray = W9 at h4 hb4 ⊢
    generalize wr.heap.size = G8 at h4 ⊢
    rw [EXC.out] at h4
    have HB4 := Lib.hid hb4
    have H4 := Lib.hid h4
    have HC9 := Lib.hid (show ∀ v, Below W9.heap.size W9 v → v.cell? ⟨G8, 0, none⟩ = some (.int .i64 x.no) ∧ v.cell? ⟨G8, 1, none⟩ = some (.int .i64 x.frm) ∧ v.cell? ⟨G8, 34, none⟩ = some (.int .u64 (x.am : Int)) ∧ v.cell? ⟨G8, 67, none⟩ = some (.int .i64 x.til) ∧ v.cell? ⟨b0, 1, none⟩ = some (.slice (some ⟨sb, so, none⟩) m d) from fun v hv => by
     have h := H4.out.below hv H4.out.lt
     obtain ⟨e0, e1, e34, e67⟩ := off_cells x HXOK.out
     exact ⟨h.cell_is (by rw [List.getElem?_toArray]; exact e0), h.cell_is (by rw [List.getElem?_toArray]; exact e1), h.cell_is (by rw [List.getElem?_toArray]; exact e34), h.cell_is (by rw [List.getElem?_toArray]; exact e67), (HC.out v (HB8.out.trans ((HB4.out.trans (hv.mono HB4.out.size)).mono HB8.out.size))).2⟩)
    obtain ⟨XI, hXI⟩ : ∃ y, y = bcells x.id := ⟨_, rfl⟩
    obtain ⟨XK, hXK⟩ : ∃ y, y = bcells x.lock := ⟨_, rfl⟩
    have HRI := Lib.hid (show ∀ v, Below W9.heap.size W9 v → v.rangeAt G8 2 XI ∧ v.rangeAt G8 35 XK from fun v hv => by
     have h := H4.out.below hv H4.out.lt
     rw [hXI, hXK]
     exact ⟨off_id h, off_lock HXOK.out h⟩)
    have SZI := Lib.hid (show (Tryd.prog.info? 39).map (·.size) = some XI.length by rw [hXI, bcells_length, HXOK.out.1.1]; kernel_rfl)
    have SZK := Lib.hid (show (Tryd.prog.info? 39).map (·.size) = some XK.length by rw [hXK, bcells_length, HXOK.out.2.1.1]; kernel_rfl)
    have HRF9 := Lib.hid (show ∀ v, Below W9.heap.size W9 v → v.rangeAt sb (so + k * 68) XC from fun v hv => HRF.out v (HB8.out.trans ((HB4.out.trans (hv.mono HB4.out.size)).mono HB8.out.size)))
    rw [← hXI, ← hXK] at HBLD
    obtain ⟨xn, hxn⟩ : ∃ v, v = x.no := ⟨_, rfl⟩
    obtain ⟨xf, hxf⟩ : ∃ v, v = x.frm := ⟨_, rfl⟩
    obtain ⟨xa, hxa⟩ : ∃ v, v = x.am := ⟨_, rfl⟩
    obtain ⟨xt, hxt⟩ : ∃ v, v = x.til := ⟨_, rfl⟩
    rw [← hxn, ← hxf, ← hxa, ← hxt] at HBLD HC9
    have HNE := Lib.hid (show ∀ v, (binOp .neq 52 (.agg XC.toArray) (.agg XC.toArray)).run Tryd.prog v = .ok (.bool false) v from fun v => by rw [run_neq_struct, HEQ.out]; rfl)
    have HEG := Lib.hid (show ∀ v, (eqGuard .neq 52 (.tmp 46) (.tmp 51) (.agg XC.toArray) (.agg XC.toArray)).run Tryd.prog v = .ok () v from fun v => by first | rfl | simp [eqGuard])
    clear h4 hb4 hXI hXK hxn hxf hxa hxt
    have hS0 : Below W9.heap.size W9 W9.drew := (Below.refl _ _).drew
    refine wp_region_noPanic ?_
    refine wp_region_held_drew (S := (fun v => Below W9.heap.size W9 v)) (by kernel_rfl) hS0 (fun hH0 => ?_)
    apply tk 0 (v := _) rfl (Or.inl ⟨by kernel_rfl, ?hv⟩) hH0 ?_
    case hv => intro w' hS; have z0 := HC9.out w' hS; have z1 := z0.1; have z2 := z0.2.1; have z3 := z0.2.2.1; have z4 := z0.2.2.2.1; have z5 := z0.2.2.2.2; have z6 := HAT2.out w'; clear z0; go_simp; try exact rfl
    simp only [Act.put, qa]
    apply tk 1 (v := _) rfl (Or.inl ⟨by kernel_rfl, ?hv⟩) hH0 ?_
    case hv => intro w' hS; have z0 := HC9.out w' hS; have z1 := z0.1; have z2 := z0.2.1; have z3 := z0.2.2.1; have z4 := z0.2.2.2.1; have z5 := z0.2.2.2.2; have z6 := HAT2.out w'; clear z0; go_simp; try exact rfl
    simp only [Act.put, qa]
    apply tk 2 (v := _) rfl (Or.inl ⟨by kernel_rfl, ?hv⟩) hH0 ?_
    case hv => intro w' hS; have z0 := HC9.out w' hS; have z1 := z0.1; have z2 := z0.2.1; have z3 := z0.2.2.1; have z4 := z0.2.2.2.1; have z5 := z0.2.2.2.2; have z6 := HAT2.out w'; clear z0; go_simp; try exact rfl
    simp only [Act.put, qa]
    apply tk 3 (v := _) rfl (Or.inl ⟨by kernel_rfl, ?hv⟩) hH0 ?_
    case hv => intro w' hS; have z0 := HC9.out w' hS; have z1 := z0.1; have z2 := z0.2.1; have z3 := z0.2.2.1; have z4 := z0.2.2.2.1; have z5 := z0.2.2.2.2; have z6 := HAT2.out w'; clear z0; go_simp; try exact rfl
    simp only [Act.put, qa]
    apply tk 4 (v := _) rfl (Or.inl ⟨by kernel_rfl, ?hv⟩) hH0 ?_
    case hv => intro w' hS; have z0 := HC9.out w' hS; have z1 := z0.1; have z2 := z0.2.1; have z3 := z0.2.2.1; have z4 := z0.2.2.2.1; have z5 := z0.2.2.2.2; have z6 := HAT2.out w'; clear z0; go_simp; try exact rfl
    simp only [Act.put, qa]
    refine tk 5 (v := (.agg XI.toArray)) rfl (yieldsIf_load_mid (by kernel_rfl) 39 (.tmp 38) rfl G8 2 rfl XI _ (fun w' h => (HRI.out _ h).1) Tryd.underlying39 rfl SZI.out) hH0 ?_
    simp only [Act.put, qa]
    apply tk 6 (v := _) rfl (Or.inl ⟨by kernel_rfl, ?hv⟩) hH0 ?_
    case hv => intro w' hS; have z0 := HC9.out w' hS; have z1 := z0.1; have z2 := z0.2.1; have z3 := z0.2.2.1; have z4 := z0.2.2.2.1; have z5 := z0.2.2.2.2; have z6 := HAT2.out w'; clear z0; go_simp; try exact rfl
    simp only [Act.put, qa]
    apply tk 7 (v := _) rfl (Or.inl ⟨by kernel_rfl, ?hv⟩) hH0 ?_
    case hv => intro w' hS; have z0 := HC9.out w' hS; have z1 := z0.1; have z2 := z0.2.1; have z3 := z0.2.2.1; have z4 := z0.2.2.2.1; have z5 := z0.2.2.2.2; have z6 := HAT2.out w'; clear z0; go_simp; try exact rfl
    simp only [Act.put, qa]
    apply tk 8 (v := _) rfl (Or.inl ⟨by kernel_rfl, ?hv⟩) hH0 ?_
    case hv => intro w' hS; have z0 := HC9.out w' hS; have z1 := z0.1; have z2 := z0.2.1; have z3 := z0.2.2.1; have z4 := z0.2.2.2.1; have z5 := z0.2.2.2.2; have z6 := HAT2.out w'; clear z0; go_simp; try exact rfl
    simp only [Act.put, qa]
    refine tk 9 (v := (.agg XK.toArray)) rfl (yieldsIf_load_mid (by kernel_rfl) 39 (.tmp 42) rfl G8 35 rfl XK _ (fun w' h => (HRI.out _ h).2) Tryd.underlying39 rfl SZK.out) hH0 ?_
    simp only [Act.put, qa]
    apply tk 10 (v := _) rfl (Or.inl ⟨by kernel_rfl, ?hv⟩) hH0 ?_
    case hv => intro w' hS; have z0 := HC9.out w' hS; have z1 := z0.1; have z2 := z0.2.1; have z3 := z0.2.2.1; have z4 := z0.2.2.2.1; have z5 := z0.2.2.2.2; have z6 := HAT2.out w'; clear z0; go_simp; try exact rfl
    simp only [Act.put, qa]
    apply tk 11 (v := _) rfl (Or.inl ⟨by kernel_rfl, ?hv⟩) hH0 ?_
    case hv => intro w' hS; have z0 := HC9.out w' hS; have z1 := z0.1; have z2 := z0.2.1; have z3 := z0.2.2.1; have z4 := z0.2.2.2.1; have z5 := z0.2.2.2.2; have z6 := HAT2.out w'; clear z0; go_simp; try exact rfl
    simp only [Act.put, qa]
    refine tk 12 (v := (.agg XC.toArray)) rfl (yieldsIf_build (by kernel_rfl) 52 #[(0, .tmp 35), (1, .tmp 37), (2, .tmp 39), (3, .tmp 41), (4, .tmp 43), (5, .tmp 45)] rfl #[(0, .int .i64 xn), (1, .int .i64 xf), (2, .agg XI.toArray), (3, .int .u64 (xa : Int)), (4, .agg XK.toArray), (5, .int .i64 xt)] (by kernel_rfl) _ (fun w' _ => HBLD.out w')) hH0 ?_
    simp only [Act.put, qa]
    apply tk 13 (v := _) rfl (Or.inl ⟨by kernel_rfl, ?hv⟩) hH0 ?_
    case hv => intro w' hS; have z0 := HC9.out w' hS; have z1 := z0.1; have z2 := z0.2.1; have z3 := z0.2.2.1; have z4 := z0.2.2.2.1; have z5 := z0.2.2.2.2; have z6 := HAT2.out w'; clear z0; go_simp; try exact rfl
    simp only [Act.put, qa]
    apply tk 14 (v := _) rfl (Or.inl ⟨by kernel_rfl, ?hv⟩) hH0 ?_
    case hv => intro w' hS; have z0 := HC9.out w' hS; have z1 := z0.1; have z2 := z0.2.1; have z3 := z0.2.2.1; have z4 := z0.2.2.2.1; have z5 := z0.2.2.2.2; have z6 := HAT2.out w'; clear z0; go_simp; try exact rfl
    simp only [Act.put, qa]
    apply tk 15 (v := _) rfl (Or.inl ⟨by kernel_rfl, ?hv⟩) hH0 ?_
    case hv => intro w' hS; have z0 := HC9.out w' hS; have z1 := z0.1; have z2 := z0.2.1; have z3 := z0.2.2.1; have z4 := z0.2.2.2.1; have z5 := z0.2.2.2.2; have z6 := HAT2.out w'; clear z0; go_simp; try exact rfl
    simp only [Act.put, qa]
    apply tk 16 (v := _) rfl (Or.inl ⟨by kernel_rfl, ?hv⟩) hH0 ?_
    case hv => intro w' hS; have z0 := HC9.out w' hS; have z1 := z0.1; have z2 := z0.2.1; have z3 := z0.2.2.1; have z4 := z0.2.2.2.1; have z5 := z0.2.2.2.2; have z6 := HAT2.out w'; clear z0; go_simp; try exact rfl
    simp only [Act.put, qa]
    refine tk 17 (v := (.agg XC.toArray)) rfl (yieldsIf_load_mid (by kernel_rfl) 52 (.tmp 50) rfl sb (so + k * 68) rfl XC _ (fun w' h => (HRF9.out _ h)) Tryd.underlying52 rfl SZR.out) hH0 ?_
    simp only [Act.put, qa]
    refine tk 18 (v := (.bool false)) rfl (Or.inl ⟨by kernel_rfl, by intro w' hS; have z7 := HNE.out w'; have z8 := HEG.out w'; revert z7 z8; generalize Value.agg XC.toArray = VX; intro z7 z8; go_simp; try rfl⟩) hH0 ?_
    simp only [Act.put, qa]
    refine wpAnyH_done (by kernel_rfl) ?_ _
    refine NoPanic.normal ?_
    have HB5 := Lib.hid (show Below w8.heap.size w8 W9.drew from HB4.out.drew)
    clear hS0
    go_wp2_with fail
    go_roundw
    case rel => exact ⟨k + 1, by go_num, HLTK.out, HB5.out⟩
    case measure => have := HLTK.out; simp [intOf]; omega
  · obtain rfl : k = m := by omega
    have hno : ¬ (k : Int) < (k : Int) := by omega
    have HBW := Lib.hid (show Below W1.heap.size W1 wr from HB8.out.trans (HBE.out.mono HB8.out.size))
    clear hlt
    go_wp2_with fail
    go_loopw [10, 11] (fun nv sv wr => ∃ s ct : Nat, sv = .int .i64 (s : Int) ∧ s ≤ 2 ∧ nv = .int .i64 (ct : Int) ∧ CntOk b s ct ∧ Below W1.heap.size W1 wr) (fun _ sv _ => 2 - (intOf sv).toNat)
    case atStart => exact ⟨0, 0, rfl, by decide, rfl, rfl, HBW.out⟩
    case round =>
     clear HBW HBE
     obtain ⟨s, ct, rfl, hs2, rfl, hct, hbel⟩ := hrel
     have HBX := Lib.hid hbel
     have HCT := Lib.hid hct
     have hctb : ct ≤ 180000 := HCB.out s ct hct
     clear hbel hct
     by_cases hlts : s < 2
     · have hlts' : (s : Int) < 2 := by omega
       have HS2 := Lib.hid hlts
       have HSD := Lib.hid (show isSide (s : Int) by unfold isSide; omega)
       clear hlts
       go_wp2_with fail
       refine (HSU.out _ (s : Int) HSD.out (HB1.out.trans (HBX.out.mono HB1.out.size))).mono ?_
       rintro _ w20 ⟨v20, ys, rfl, hsum, hown20, hb20⟩
       obtain ⟨oa20, oc20, rfl⟩ := own_form hown20
       obtain ⟨hrow20, -⟩ := own_rows hown20 rfl (fun x _ => HV.len x)
       obtain ⟨N, hN⟩ : ∃ N, N = ys.length := ⟨_, rfl⟩
       have hNb : N ≤ 90000 := by rw [hN]; exact HSL.out _ ys hsum
       rw [← hN] at hrow20 ⊢
       have HROW20 := Lib.hid hrow20
       have HSUM := Lib.hid hsum
       have HB20 := Lib.hid (HBX.out.trans (hb20.mono HBX.out.size))
       have HNN := Lib.hid hN
       clear hown20 hb20 hrow20 hsum hN
       have hwn : IntKind.i64.wrap ((ct : Int) + (N : Int)) = ((ct + N : Nat) : Int) := by rw [IntKind.wrap_i64]; omega
       go_wp2_with fail
       go_loopw [67] (fun iv wr => ∃ k : Nat, iv = .int .i64 (k : Int) ∧ k ≤ N ∧ Below w20.heap.size w20 wr) (fun iv _ => N - (intOf iv).toNat)
       case atStart => exact ⟨0, rfl, Nat.zero_le _, Below.refl _ _⟩
       case round =>
        obtain ⟨k, rfl, hk, hbel⟩ := hrel
        have HBE := Lib.hid hbel
        clear hbel
        by_cases hlt : k < N
        · have hlt' : (k : Int) < (N : Int) := by omega
          obtain ⟨sa, sq, hA1, hA2, hrr⟩ := HROW20.out.at_ (by omega)
          subst hA1
          obtain ⟨x, hx⟩ : ∃ x, ys[k]? = some x := ⟨_, List.getElem?_eq_getElem (by rw [← HNN.out]; exact hlt)⟩
          have hrw := rangeAt_kept (hrr k x hx) (Kept.of_below (S := fun _ => False) HBE.out) (fun h => h)
          obtain ⟨XC, hXC⟩ : ∃ L, L = x.enc := ⟨_, rfl⟩
          rw [← hXC] at hrw
          have LXC := Lib.hid (show XC.length = 33 by rw [hXC]; exact HV.len x)
          have HRW := Lib.hid hrw
          have SZ1 := Lib.hid (show (Tryd.prog.info? 94).map (·.size) = some XC.length by rw [LXC.out]; kernel_rfl)
          have SZXA := Lib.hid (show (Tryd.prog.info? 94).map (·.size) = some XC.toArray.size by rw [List.size_toArray]; exact SZ1.out)
          have HZZ := Lib.hid (show ZS.size = XC.toArray.size by rw [HZS.out, List.size_toArray, LXC.out])
          have HONEX := Lib.hid (show XC.toArray.all (·.oneCell') = true by rw [hXC]; exact all_oneCell_toArray (HV.one x))
          have HNW := Lib.hid (show ∀ C, Has ((wr.alloc (.cells ZS 94)).setRow wr.heap.size C) wr.heap.size 94 C ∧ Below wr.heap.size wr ((wr.alloc (.cells ZS 94)).setRow wr.heap.size C) from fun C => by
            rw [World.setRow_alloc_new]
            exact ⟨Has.new wr _ _, (Below.refl _ _).alloc (Nat.le_refl _) _⟩)
          have EXC := Lib.hid hXC
          have hat := at_bsum sa sq N oc20 k hlt
          have HLTK := Lib.hid hlt
          have hmem := List.mem_of_getElem? hx
          obtain ⟨hbx, hpos⟩ := HAT9.out (s : Int) ys HSUM.out x hmem
          obtain ⟨XI, hXI⟩ : ∃ y, y = bcells x.k := ⟨_, rfl⟩
          have HGT := Lib.hid (show ∀ v, Below w.heap.size w v → Calls Tryd.prog 28 #[.agg L.toArray, .int .i64 (s : Int), .agg XI.toArray] v fun e w' => e = .returned (.int .u64 (x.n : Int)) ∧ Below v.heap.size v w' from fun v hv => by
            have := HRG.out v (s : Int) x.k HSD.out x.h hv
            rw [hbx, ← hXI] at this
            exact this)
          have HHS := Lib.hid (show ∀ v, Below w.heap.size w v → Calls Tryd.prog 17 #[.pointer (some ⟨g, 0, none⟩), .int .i64 (s : Int), .agg XI.toArray] v fun e w' => e = .returned (.int .u64 (x.n : Int)) ∧ Below v.heap.size v w' from fun v hv => by
            have := HBH.out v (s : Int) x.k HSD.out x.h hv
            rw [hbx, ← hXI] at this
            exact this)
          have SZI := Lib.hid (show (Tryd.prog.info? 39).map (·.size) = some XI.length by rw [hXI, bcells_length, x.h.1]; kernel_rfl)
          have HPRV := Lib.hid (show 0 < k → ∃ p, ys[k - 1]? = some p ∧ lexC p.k x.k < 0 ∧ ∀ v, Below w20.heap.size w20 v → v.rangeAt sa (sq + (k - 1) * 33) (bcells p.k) from fun hk0 => by
            have hk1 : k - 1 < ys.length := by rw [← HNN.out]; omega
            refine ⟨ys[k - 1], List.getElem?_eq_getElem hk1, ?_, fun v hv j u hu => ?_⟩
            · have hkl : k < ys.length := by rw [← HNN.out]; exact hlt
              have e : ys[k] = x := by rw [List.getElem?_eq_getElem hkl] at hx; exact Option.some.inj hx
              rw [← e]
              exact List.pairwise_iff_getElem.1 HSUM.out.rise (k - 1) k hk1 hkl (by omega)
            · have := rangeAt_kept (hrr (k - 1) _ (List.getElem?_eq_getElem hk1)) (Kept.of_below (S := fun _ => False) hv) (fun h => h)
              have hj := (List.getElem?_eq_some_iff.1 hu).1
              exact this j u (by rw [HV.enc, List.getElem?_append_left hj]; exact hu))
          clear hrw hx hXC hrr hA2 hlt hmem hbx
          go_upto_region 19 with (first
            | (refine wpList_load_mid rfl 94 (.tmp 70) rfl sa (sq + k * 33) rfl XC _ HRW.out Tryd.underlying94 rfl SZ1.out ?_)
            | (refine wpList_store_row rfl 94 (.tmp 14) (.tmp 71) rfl wr.heap.size XC.toArray rfl rfl 94 ZS (heap_alloc_new wr _) SZXA.out HZZ.out HONEX.out ?_))
          obtain ⟨h4, hk4⟩ := HNW.out XC.toArray
          have hb4 := HBE.out.trans (hk4.mono HBE.out.size)
          have hgl : w20.heap.size ≤ wr.heap.size := HBE.out.size
          clear HNW hk4 hat
          generalize (wr.alloc (.cells ZS 94)).setRow wr.heap.size XC.toArray = W22 at h4 hb4 ⊢
          generalize wr.heap.size = G8 at h4 hgl ⊢
          rw [EXC.out] at h4
          have HB4 := Lib.hid hb4
          have H4 := Lib.hid h4
          have HW22 := Lib.hid (show ∀ v, Below W22.heap.size W22 v → Below w.heap.size w v ∧ Below W1.heap.size W1 v ∧ Below w20.heap.size w20 v from fun v hv => by
            have hq := HB4.out.trans (hv.mono HB4.out.size)
            have hq1 := HB20.out.trans (hq.mono HB20.out.size)
            exact ⟨HB1.out.trans (hq1.mono HB1.out.size), hq1, hq⟩)
          have HC22 := Lib.hid (show ∀ v, Below W22.heap.size W22 v → v.cell? ⟨G8, 32, none⟩ = some (.int .u64 (x.n : Int)) ∧ v.rangeAt G8 0 XI from fun v hv => by rw [hXI]; exact hv_cell x (H4.out.below hv H4.out.lt))
          have EXI := Lib.hid hXI
          obtain ⟨xm, hxm⟩ : ∃ v, v = x.n := ⟨_, rfl⟩
          rw [← hxm] at HGT HHS HC22 hpos
          have hx0 : ((xm : Int) == 0) = false := by rw [beq_eq_false_iff_ne]; omega
          clear h4 hb4 hXI hxm hgl
          have hS0 : Below W22.heap.size W22 W22.drew := (Below.refl _ _).drew
          by_cases hk0 : 0 < k
          · obtain ⟨p, hp, hlex, hpr⟩ := HPRV.out hk0
            obtain ⟨cv, hcv⟩ : ∃ y, y = lexC p.k x.k := ⟨_, rfl⟩
            have HCMP := Lib.hid (show ∀ v, Below W22.heap.size W22 v → Calls Tryd.prog 40 #[.slice (some ⟨sa, sq + (k - 1) * 33, none⟩) 32 32, .slice (some ⟨G8, 0, none⟩) 32 32] v fun e w' => e = .returned (.int .i64 cv) ∧ v = w' from fun v hv => by
              rw [hcv]
              refine bytesCompare_is v sa (sq + (k - 1) * 33) 32 G8 0 32 32 32 p.k x.k p.h.1 x.h.1 (hv_bytes p.h.1 (hpr v (HW22.out v hv).2.2)) (fun i hi => ?_) p.h.2 x.h.2
              have := hv_bytes x.h.1 (hv_cell x (H4.out.below hv H4.out.lt)).2 i hi
              exact this)
            have hcv0 : ¬ 0 ≤ cv := by rw [hcv]; omega
            have hcvd : decide (0 ≤ cv) = false := decide_eq_false hcv0
            have hwk : IntKind.i64.wrap ((k : Int) - 1) = ((k - 1 : Nat) : Int) := by rw [IntKind.wrap_i64]; omega
            have HATP := Lib.hid (fun v => at_bsum sa sq N oc20 (k - 1) (by omega) v)
            have hkd : decide (0 < (k : Int)) = true := decide_eq_true (by omega)
            have hkp : 0 < (k : Int) := by omega
            clear hp hlex hpr hcv HPRV
            refine wp_region_noPanic ?_
            refine wp_region_held_drew (S := (fun v => Below W22.heap.size W22 v)) (by kernel_rfl) hS0 (fun hH0 => ?_)
            apply tk 0 (v := _) rfl (Or.inl ⟨by kernel_rfl, ?hv⟩) hH0 ?_
            case hv => intro w' hS; have z0 := (HC22.out w' hS).1; have z1 := HATP.out w'; go_simp; try exact rfl
            simp only [Act.put, qa]
            apply tk 1 (v := _) rfl (Or.inl ⟨by kernel_rfl, ?hv⟩) hH0 ?_
            case hv => intro w' hS; have z0 := (HC22.out w' hS).1; have z1 := HATP.out w'; go_simp; try exact rfl
            simp only [Act.put, qa]
            apply tk 2 (v := _) rfl (Or.inl ⟨by kernel_rfl, ?hv⟩) hH0 ?_
            case hv => intro w' hS; have z0 := (HC22.out w' hS).1; have z1 := HATP.out w'; go_simp; try exact rfl
            simp only [Act.put, qa]
            apply tk 3 (v := _) rfl (Or.inl ⟨by kernel_rfl, ?hv⟩) hH0 ?_
            case hv => intro w' hS; have z0 := (HC22.out w' hS).1; have z1 := HATP.out w'; go_simp; try exact rfl
            simp only [Act.put, qa]
            apply tk 4 (v := _) rfl (Or.inl ⟨by kernel_rfl, ?hv⟩) hH0 ?_
            case hv => intro w' hS; have z0 := (HC22.out w' hS).1; have z1 := HATP.out w'; go_simp; try exact rfl
            simp only [Act.put, qa]
            apply tk 5 (v := _) rfl (Or.inl ⟨by kernel_rfl, ?hv⟩) hH0 ?_
            case hv => intro w' hS; have z0 := (HC22.out w' hS).1; have z1 := HATP.out w'; go_simp; try exact rfl
            simp only [Act.put, qa]
            apply tk 6 (v := _) rfl (Or.inl ⟨by kernel_rfl, ?hv⟩) hH0 ?_
            case hv => intro w' hS; have z0 := (HC22.out w' hS).1; have z1 := HATP.out w'; go_simp; try exact rfl
            simp only [Act.put, qa]
            apply tk 7 (v := _) rfl (Or.inl ⟨by kernel_rfl, ?hv⟩) hH0 ?_
            case hv => intro w' hS; have z0 := (HC22.out w' hS).1; have z1 := HATP.out w'; go_simp; try exact rfl
            simp only [Act.put, qa]
            apply tk 8 (v := _) rfl (Or.inl ⟨by kernel_rfl, ?hv⟩) hH0 ?_
            case hv => intro w' hS; have z0 := (HC22.out w' hS).1; have z1 := HATP.out w'; go_simp; try exact rfl
            simp only [Act.put, qa]
            apply tk 9 (v := _) rfl (Or.inl ⟨by kernel_rfl, ?hv⟩) hH0 ?_
            case hv => intro w' hS; have z0 := (HC22.out w' hS).1; have z1 := HATP.out w'; go_simp; try exact rfl
            simp only [Act.put, qa]
            apply tk 10 (v := _) rfl (Or.inl ⟨by kernel_rfl, ?hv⟩) hH0 ?_
            case hv => intro w' hS; have z0 := (HC22.out w' hS).1; have z1 := HATP.out w'; go_simp; try exact rfl
            simp only [Act.put, qa]
            refine wpAnyH_ready (rs := [11]) (by kernel_rfl) (by simp) ?_
            refine AllReadyH.cons rfl (fun KK hKK => ?_) AllReadyH.nil
            go_simp
            refine (HCMP.out _ hH0).mono ?_
            rintro _ x11 ⟨rfl, hx11⟩
            have hs11 : Below W22.heap.size W22 x11 := by rw [← hx11]; exact hH0
            clear hx11
            refine Shut.out hKK _ _ hs11 (fun hH1 => ?_)
            clear hKK KK
            try simp only [Act.put, qa]
            apply tk 12 (v := _) rfl (Or.inl ⟨by kernel_rfl, ?hv⟩) hH1 ?_
            case hv => intro w' hS; have z0 := (HC22.out w' hS).1; have z1 := HATP.out w'; go_simp; try exact rfl
            simp only [Act.put, qa]
            apply tk 13 (v := _) rfl (Or.inl ⟨by kernel_rfl, ?hv⟩) hH1 ?_
            case hv => intro w' hS; have z0 := (HC22.out w' hS).1; have z1 := HATP.out w'; go_simp; try exact rfl
            simp only [Act.put, qa]
            apply tk 14 (v := _) rfl (Or.inl ⟨by kernel_rfl, ?hv⟩) hH1 ?_
            case hv => intro w' hS; have z0 := (HC22.out w' hS).1; have z1 := HATP.out w'; go_simp; try exact rfl
            simp only [Act.put, qa]
            apply tk 15 (v := _) rfl (Or.inl ⟨by kernel_rfl, ?hv⟩) hH1 ?_
            case hv => intro w' hS; have z0 := (HC22.out w' hS).1; have z1 := HATP.out w'; go_simp; try exact rfl
            simp only [Act.put, qa]
            apply tk 16 (v := _) rfl (Or.inl ⟨by kernel_rfl, ?hv⟩) hH1 ?_
            case hv => intro w' hS; have z0 := (HC22.out w' hS).1; have z1 := HATP.out w'; go_simp; try exact rfl
            simp only [Act.put, qa]
            apply tk 17 (v := _) rfl (Or.inl ⟨by kernel_rfl, ?hv⟩) hH1 ?_
            case hv => intro w' hS; have z0 := (HC22.out w' hS).1; have z1 := HATP.out w'; go_simp; try exact rfl
            simp only [Act.put, qa]
            apply tk 18 (v := _) rfl (Or.inl ⟨by kernel_rfl, ?hv⟩) hH1 ?_
            case hv => intro w' hS; have z0 := (HC22.out w' hS).1; have z1 := HATP.out w'; go_simp; try exact rfl
            simp only [Act.put, qa]
            apply tk 19 (v := _) rfl (Or.inl ⟨by kernel_rfl, ?hv⟩) hH1 ?_
            case hv => intro w' hS; have z0 := (HC22.out w' hS).1; have z1 := HATP.out w'; go_simp; try exact rfl
            simp only [Act.put, qa]
            refine tk 20 (v := (.agg L.toArray)) rfl (yieldsIf_load_mid (by kernel_rfl) 31 (.tmp 4) rfl b0 0 rfl L _ (fun w' h => (HX.out _ (HW22.out _ h).2.1)) Tryd.underlying31 rfl SZB.out) hH1 ?_
            simp only [Act.put, qa]
            apply tk 21 (v := _) rfl (Or.inl ⟨by kernel_rfl, ?hv⟩) hH1 ?_
            case hv => intro w' hS; have z0 := (HC22.out w' hS).1; have z1 := HATP.out w'; go_simp; try exact rfl
            simp only [Act.put, qa]
            apply tk 22 (v := _) rfl (Or.inl ⟨by kernel_rfl, ?hv⟩) hH1 ?_
            case hv => intro w' hS; have z0 := (HC22.out w' hS).1; have z1 := HATP.out w'; go_simp; try exact rfl
            simp only [Act.put, qa]
            refine tk 23 (v := (.agg XI.toArray)) rfl (yieldsIf_load_mid (by kernel_rfl) 39 (.tmp 94) rfl G8 0 rfl XI _ (fun w' h => (HC22.out _ h).2) Tryd.underlying39 rfl SZI.out) hH1 ?_
            simp only [Act.put, qa]
            apply tk 25 (v := _) rfl (Or.inl ⟨by kernel_rfl, ?hv⟩) hH1 ?_
            case hv => intro w' hS; have z0 := (HC22.out w' hS).1; have z1 := HATP.out w'; go_simp; try exact rfl
            simp only [Act.put, qa]
            apply tk 26 (v := _) rfl (Or.inl ⟨by kernel_rfl, ?hv⟩) hH1 ?_
            case hv => intro w' hS; have z0 := (HC22.out w' hS).1; have z1 := HATP.out w'; go_simp; try exact rfl
            simp only [Act.put, qa]
            refine wpAnyH_ready (rs := [24]) (by kernel_rfl) (by simp) ?_
            refine AllReadyH.cons rfl (fun KK hKK => ?_) AllReadyH.nil
            go_simp
            refine (HGT.out _ (HW22.out _ hH1).1).mono ?_
            rintro _ x24 ⟨rfl, hx24⟩
            have hs24 : Below W22.heap.size W22 x24 := hH1.trans (hx24.mono hH1.size)
            clear hx24
            refine Shut.out hKK _ _ hs24 (fun hH2 => ?_)
            clear hKK KK
            try simp only [Act.put, qa]
            apply tk 27 (v := _) rfl (Or.inl ⟨by kernel_rfl, ?hv⟩) hH2 ?_
            case hv => intro w' hS; have z0 := (HC22.out w' hS).1; have z1 := HATP.out w'; go_simp; try exact rfl
            simp only [Act.put, qa]
            apply tk 28 (v := _) rfl (Or.inl ⟨by kernel_rfl, ?hv⟩) hH2 ?_
            case hv => intro w' hS; have z0 := (HC22.out w' hS).1; have z1 := HATP.out w'; go_simp; try exact rfl
            simp only [Act.put, qa]
            apply tk 29 (v := _) rfl (Or.inl ⟨by kernel_rfl, ?hv⟩) hH2 ?_
            case hv => intro w' hS; have z0 := (HC22.out w' hS).1; have z1 := HATP.out w'; go_simp; try exact rfl
            simp only [Act.put, qa]
            apply tk 30 (v := _) rfl (Or.inl ⟨by kernel_rfl, ?hv⟩) hH2 ?_
            case hv => intro w' hS; have z0 := (HC22.out w' hS).1; have z1 := HATP.out w'; go_simp; try exact rfl
            simp only [Act.put, qa]
            apply tk 31 (v := _) rfl (Or.inl ⟨by kernel_rfl, ?hv⟩) hH2 ?_
            case hv => intro w' hS; have z0 := (HC22.out w' hS).1; have z1 := HATP.out w'; go_simp; try exact rfl
            simp only [Act.put, qa]
            apply tk 32 (v := _) rfl (Or.inl ⟨by kernel_rfl, ?hv⟩) hH2 ?_
            case hv => intro w' hS; have z0 := (HC22.out w' hS).1; have z1 := HATP.out w'; go_simp; try exact rfl
            simp only [Act.put, qa]
            refine tk 33 (v := (.agg XI.toArray)) rfl (yieldsIf_load_mid (by kernel_rfl) 39 (.tmp 104) rfl G8 0 rfl XI _ (fun w' h => (HC22.out _ h).2) Tryd.underlying39 rfl SZI.out) hH2 ?_
            simp only [Act.put, qa]
            apply tk 35 (v := _) rfl (Or.inl ⟨by kernel_rfl, ?hv⟩) hH2 ?_
            case hv => intro w' hS; have z0 := (HC22.out w' hS).1; have z1 := HATP.out w'; go_simp; try exact rfl
            simp only [Act.put, qa]
            apply tk 36 (v := _) rfl (Or.inl ⟨by kernel_rfl, ?hv⟩) hH2 ?_
            case hv => intro w' hS; have z0 := (HC22.out w' hS).1; have z1 := HATP.out w'; go_simp; try exact rfl
            simp only [Act.put, qa]
            refine wpAnyH_ready (rs := [34]) (by kernel_rfl) (by simp) ?_
            refine AllReadyH.cons rfl (fun KK hKK => ?_) AllReadyH.nil
            go_simp
            refine (HHS.out _ (HW22.out _ hH2).1).mono ?_
            rintro _ x34 ⟨rfl, hx34⟩
            have hs34 : Below W22.heap.size W22 x34 := hH2.trans (hx34.mono hH2.size)
            clear hx34
            refine Shut.out hKK _ _ hs34 (fun hH3 => ?_)
            clear hKK KK
            try simp only [Act.put, qa]
            apply tk 37 (v := _) rfl (Or.inl ⟨by kernel_rfl, ?hv⟩) hH3 ?_
            case hv => intro w' hS; have z0 := (HC22.out w' hS).1; have z1 := HATP.out w'; go_simp; try exact rfl
            simp only [Act.put, qa]
            apply tk 38 (v := _) rfl (Or.inl ⟨by kernel_rfl, ?hv⟩) hH3 ?_
            case hv => intro w' hS; have z0 := (HC22.out w' hS).1; have z1 := HATP.out w'; go_simp; try exact rfl
            simp only [Act.put, qa]
            refine wpAnyH_done (by kernel_rfl) ?_ _
            refine NoPanic.normal ?_
            have HB5 := Lib.hid (HW22.out _ hs34).2.2
            clear hS0 hs34 hs24 hs11
            go_wp2_with fail
            go_roundw
            case rel => exact ⟨k + 1, by go_num, HLTK.out, HB5.out⟩
            case measure => have := HLTK.out; simp [intOf]; omega
          · have hkd : decide (0 < (k : Int)) = false := decide_eq_false (by omega)
            have hkp : ¬ 0 < (k : Int) := by omega
            clear HPRV
            refine wp_region_noPanic ?_
            refine wp_region_held_drew (S := (fun v => Below W22.heap.size W22 v)) (by kernel_rfl) hS0 (fun hH0 => ?_)
            apply tk 0 (v := _) rfl (Or.inl ⟨by kernel_rfl, ?hv⟩) hH0 ?_
            case hv => intro w' hS; have z0 := (HC22.out w' hS).1; go_simp; try exact rfl
            simp only [Act.put, qa]
            apply tk 1 (v := _) rfl (Or.inl ⟨by kernel_rfl, ?hv⟩) hH0 ?_
            case hv => intro w' hS; have z0 := (HC22.out w' hS).1; go_simp; try exact rfl
            simp only [Act.put, qa]
            apply tk 2 (v := _) rfl (Or.inl ⟨by kernel_rfl, ?hv⟩) hH0 ?_
            case hv => intro w' hS; have z0 := (HC22.out w' hS).1; go_simp; try exact rfl
            simp only [Act.put, qa]
            refine tk 3 (v := undef) rfl (Or.inr ⟨by kernel_rfl, rfl⟩) hH0 ?_
            simp only [Act.put, qa]
            refine tk 4 (v := undef) rfl (Or.inr ⟨by kernel_rfl, rfl⟩) hH0 ?_
            simp only [Act.put, qa]
            refine tk 5 (v := undef) rfl (Or.inr ⟨by kernel_rfl, rfl⟩) hH0 ?_
            simp only [Act.put, qa]
            refine tk 6 (v := undef) rfl (Or.inr ⟨by kernel_rfl, rfl⟩) hH0 ?_
            simp only [Act.put, qa]
            refine tk 7 (v := undef) rfl (Or.inr ⟨by kernel_rfl, rfl⟩) hH0 ?_
            simp only [Act.put, qa]
            refine tk 8 (v := undef) rfl (Or.inr ⟨by kernel_rfl, rfl⟩) hH0 ?_
            simp only [Act.put, qa]
            refine tk 9 (v := undef) rfl (Or.inr ⟨by kernel_rfl, rfl⟩) hH0 ?_
            simp only [Act.put, qa]
            refine tk 10 (v := undef) rfl (Or.inr ⟨by kernel_rfl, rfl⟩) hH0 ?_
            simp only [Act.put, qa]
            refine tk 11 (v := undef) rfl (Or.inr ⟨by kernel_rfl, rfl⟩) hH0 ?_
            simp only [Act.put, qa]
            refine tk 12 (v := undef) rfl (Or.inr ⟨by kernel_rfl, rfl⟩) hH0 ?_
            simp only [Act.put, qa]
            apply tk 13 (v := _) rfl (Or.inl ⟨by kernel_rfl, ?hv⟩) hH0 ?_
            case hv => intro w' hS; have z0 := (HC22.out w' hS).1; go_simp; try exact rfl
            simp only [Act.put, qa]
            apply tk 14 (v := _) rfl (Or.inl ⟨by kernel_rfl, ?hv⟩) hH0 ?_
            case hv => intro w' hS; have z0 := (HC22.out w' hS).1; go_simp; try exact rfl
            simp only [Act.put, qa]
            apply tk 15 (v := _) rfl (Or.inl ⟨by kernel_rfl, ?hv⟩) hH0 ?_
            case hv => intro w' hS; have z0 := (HC22.out w' hS).1; go_simp; try exact rfl
            simp only [Act.put, qa]
            apply tk 16 (v := _) rfl (Or.inl ⟨by kernel_rfl, ?hv⟩) hH0 ?_
            case hv => intro w' hS; have z0 := (HC22.out w' hS).1; go_simp; try exact rfl
            simp only [Act.put, qa]
            apply tk 17 (v := _) rfl (Or.inl ⟨by kernel_rfl, ?hv⟩) hH0 ?_
            case hv => intro w' hS; have z0 := (HC22.out w' hS).1; go_simp; try exact rfl
            simp only [Act.put, qa]
            apply tk 18 (v := _) rfl (Or.inl ⟨by kernel_rfl, ?hv⟩) hH0 ?_
            case hv => intro w' hS; have z0 := (HC22.out w' hS).1; go_simp; try exact rfl
            simp only [Act.put, qa]
            apply tk 19 (v := _) rfl (Or.inl ⟨by kernel_rfl, ?hv⟩) hH0 ?_
            case hv => intro w' hS; have z0 := (HC22.out w' hS).1; go_simp; try exact rfl
            simp only [Act.put, qa]
            refine tk 20 (v := (.agg L.toArray)) rfl (yieldsIf_load_mid (by kernel_rfl) 31 (.tmp 4) rfl b0 0 rfl L _ (fun w' h => (HX.out _ (HW22.out _ h).2.1)) Tryd.underlying31 rfl SZB.out) hH0 ?_
            simp only [Act.put, qa]
            apply tk 21 (v := _) rfl (Or.inl ⟨by kernel_rfl, ?hv⟩) hH0 ?_
            case hv => intro w' hS; have z0 := (HC22.out w' hS).1; go_simp; try exact rfl
            simp only [Act.put, qa]
            apply tk 22 (v := _) rfl (Or.inl ⟨by kernel_rfl, ?hv⟩) hH0 ?_
            case hv => intro w' hS; have z0 := (HC22.out w' hS).1; go_simp; try exact rfl
            simp only [Act.put, qa]
            refine tk 23 (v := (.agg XI.toArray)) rfl (yieldsIf_load_mid (by kernel_rfl) 39 (.tmp 94) rfl G8 0 rfl XI _ (fun w' h => (HC22.out _ h).2) Tryd.underlying39 rfl SZI.out) hH0 ?_
            simp only [Act.put, qa]
            apply tk 25 (v := _) rfl (Or.inl ⟨by kernel_rfl, ?hv⟩) hH0 ?_
            case hv => intro w' hS; have z0 := (HC22.out w' hS).1; go_simp; try exact rfl
            simp only [Act.put, qa]
            apply tk 26 (v := _) rfl (Or.inl ⟨by kernel_rfl, ?hv⟩) hH0 ?_
            case hv => intro w' hS; have z0 := (HC22.out w' hS).1; go_simp; try exact rfl
            simp only [Act.put, qa]
            refine wpAnyH_ready (rs := [24]) (by kernel_rfl) (by simp) ?_
            refine AllReadyH.cons rfl (fun KK hKK => ?_) AllReadyH.nil
            go_simp
            refine (HGT.out _ (HW22.out _ hH0).1).mono ?_
            rintro _ x24 ⟨rfl, hx24⟩
            have hs24 : Below W22.heap.size W22 x24 := hH0.trans (hx24.mono hH0.size)
            clear hx24
            refine Shut.out hKK _ _ hs24 (fun hH1 => ?_)
            clear hKK KK
            try simp only [Act.put, qa]
            apply tk 27 (v := _) rfl (Or.inl ⟨by kernel_rfl, ?hv⟩) hH1 ?_
            case hv => intro w' hS; have z0 := (HC22.out w' hS).1; go_simp; try exact rfl
            simp only [Act.put, qa]
            apply tk 28 (v := _) rfl (Or.inl ⟨by kernel_rfl, ?hv⟩) hH1 ?_
            case hv => intro w' hS; have z0 := (HC22.out w' hS).1; go_simp; try exact rfl
            simp only [Act.put, qa]
            apply tk 29 (v := _) rfl (Or.inl ⟨by kernel_rfl, ?hv⟩) hH1 ?_
            case hv => intro w' hS; have z0 := (HC22.out w' hS).1; go_simp; try exact rfl
            simp only [Act.put, qa]
            apply tk 30 (v := _) rfl (Or.inl ⟨by kernel_rfl, ?hv⟩) hH1 ?_
            case hv => intro w' hS; have z0 := (HC22.out w' hS).1; go_simp; try exact rfl
            simp only [Act.put, qa]
            apply tk 31 (v := _) rfl (Or.inl ⟨by kernel_rfl, ?hv⟩) hH1 ?_
            case hv => intro w' hS; have z0 := (HC22.out w' hS).1; go_simp; try exact rfl
            simp only [Act.put, qa]
            apply tk 32 (v := _) rfl (Or.inl ⟨by kernel_rfl, ?hv⟩) hH1 ?_
            case hv => intro w' hS; have z0 := (HC22.out w' hS).1; go_simp; try exact rfl
            simp only [Act.put, qa]
            refine tk 33 (v := (.agg XI.toArray)) rfl (yieldsIf_load_mid (by kernel_rfl) 39 (.tmp 104) rfl G8 0 rfl XI _ (fun w' h => (HC22.out _ h).2) Tryd.underlying39 rfl SZI.out) hH1 ?_
            simp only [Act.put, qa]
            apply tk 35 (v := _) rfl (Or.inl ⟨by kernel_rfl, ?hv⟩) hH1 ?_
            case hv => intro w' hS; have z0 := (HC22.out w' hS).1; go_simp; try exact rfl
            simp only [Act.put, qa]
            apply tk 36 (v := _) rfl (Or.inl ⟨by kernel_rfl, ?hv⟩) hH1 ?_
            case hv => intro w' hS; have z0 := (HC22.out w' hS).1; go_simp; try exact rfl
            simp only [Act.put, qa]
            refine wpAnyH_ready (rs := [34]) (by kernel_rfl) (by simp) ?_
            refine AllReadyH.cons rfl (fun KK hKK => ?_) AllReadyH.nil
            go_simp
            refine (HHS.out _ (HW22.out _ hH1).1).mono ?_
            rintro _ x34 ⟨rfl, hx34⟩
            have hs34 : Below W22.heap.size W22 x34 := hH1.trans (hx34.mono hH1.size)
            clear hx34
            refine Shut.out hKK _ _ hs34 (fun hH2 => ?_)
            clear hKK KK
            try simp only [Act.put, qa]
            apply tk 37 (v := _) rfl (Or.inl ⟨by kernel_rfl, ?hv⟩) hH2 ?_
            case hv => intro w' hS; have z0 := (HC22.out w' hS).1; go_simp; try exact rfl
            simp only [Act.put, qa]
            apply tk 38 (v := _) rfl (Or.inl ⟨by kernel_rfl, ?hv⟩) hH2 ?_
            case hv => intro w' hS; have z0 := (HC22.out w' hS).1; go_simp; try exact rfl
            simp only [Act.put, qa]
            refine wpAnyH_done (by kernel_rfl) ?_ _
            refine NoPanic.normal ?_
            have HB5 := Lib.hid (HW22.out _ hs34).2.2
            clear hS0 hs34 hs24
            go_wp2_with fail
            go_roundw
            case rel => exact ⟨k + 1, by go_num, HLTK.out, HB5.out⟩
            case measure => have := HLTK.out; simp [intOf]; omega
        · obtain rfl : k = N := by omega
          have hno : ¬ (k : Int) < (k : Int) := by omega
          have HBF := Lib.hid (HB20.out.trans (HBE.out.mono HB20.out.size))
          have HCS := Lib.hid (show CntOk b (s + 1) (ct + k) by rw [HNN.out]; exact HCT.out.step HS2.out HSUM.out)
          go_wp2_with fail
          go_roundw
          case rel => exact ⟨s + 1, ct + k, by go_num, by have := HS2.out; omega, rfl, HCS.out, HBF.out⟩
          case measure => have := HS2.out; simp [intOf]; omega
     · obtain rfl : s = 2 := by omega
       have hlts' : ¬ ((2 : Nat) : Int) < 2 := by omega
       have HCE := Lib.hid (show ct = n by rw [← HLEN.out.1]; exact HCNT.out ct HCT.out)
       have hn0b : n0 ≤ 1000 := HN0.out
       clear hlts
       go_wp2_with fail
       go_loopw [114] (fun iv wr => ∃ k : Nat, iv = .int .i64 (k : Int) ∧ k ≤ n0 ∧ Below W1.heap.size W1 wr) (fun iv _ => n0 - (intOf iv).toNat)
       case atStart => exact ⟨0, rfl, Nat.zero_le _, HBX.out⟩
       case round =>
        clear HBX
        obtain ⟨k, rfl, hk, hbel⟩ := hrel
        have HBE := Lib.hid hbel
        clear hbel
        by_cases hlt : k < n0
        · have hlt' : (k : Int) < (n0 : Int) := by omega
          obtain ⟨sa, sq, hA1, hA2, hrr⟩ := HIDS.out.at_ (by omega)
          subst hA1
          obtain ⟨x, hx⟩ : ∃ x, ids[k]? = some x := ⟨_, List.getElem?_eq_getElem (by rw [HIDS.out.len]; exact hlt)⟩
          have hxok := HIH.out x (List.mem_of_getElem? hx)
          have hrw := rangeAt_kept (hrr k x hx) (Kept.of_below (S := fun _ => False) HBE.out) (fun h => h)
          obtain ⟨XI, hXI⟩ : ∃ y, y = bcells x := ⟨_, rfl⟩
          rw [← hXI] at hrw
          have LXC := Lib.hid (show XI.length = 32 by rw [hXI, bcells_length, hxok.1])
          have HRW := Lib.hid hrw
          have SZI := Lib.hid (show (Tryd.prog.info? 39).map (·.size) = some XI.length by rw [LXC.out]; kernel_rfl)
          have SZXA := Lib.hid (show (Tryd.prog.info? 39).map (·.size) = some XI.toArray.size by rw [List.size_toArray]; exact SZI.out)
          have HZZ := Lib.hid (show ZH.size = XI.toArray.size by rw [HZH.out, List.size_toArray, LXC.out])
          have HONEX := Lib.hid (show XI.toArray.all (·.oneCell') = true by rw [hXI]; exact all_oneCell_toArray (bcells_one x))
          have HNW := Lib.hid (show ∀ C, Has ((wr.alloc (.cells ZH 39)).setRow wr.heap.size C) wr.heap.size 39 C ∧ Below wr.heap.size wr ((wr.alloc (.cells ZH 39)).setRow wr.heap.size C) from fun C => by
            rw [World.setRow_alloc_new]
            exact ⟨Has.new wr _ _, (Below.refl _ _).alloc (Nat.le_refl _) _⟩)
          have hat := at_bh sa sq n0 c0 k hlt
          have HLTK := Lib.hid hlt
          obtain ⟨tt, htt⟩ : ∃ y, y = tot b x := ⟨_, rfl⟩
          obtain ⟨g0, hg0⟩ : ∃ y, y = b.has 0 x := ⟨_, rfl⟩
          obtain ⟨g1, hg1⟩ : ∃ y, y = b.has 1 x := ⟨_, rfl⟩
          have HTR' := Lib.hid (show ∀ v, Below w.heap.size w v → Calls Tryd.prog 25 #[.agg L.toArray, .agg XI.toArray] v fun e w' => e = .returned (.tuple #[.int .u64 (tt : Int), .bool true]) ∧ Below v.heap.size v w' from fun v hv => by rw [hXI, htt]; exact HTR.out v x hxok hv)
          have HBT' := Lib.hid (show ∀ v, Below w.heap.size w v → Calls Tryd.prog 18 #[.pointer (some ⟨g, 0, none⟩), .agg XI.toArray] v fun e w' => e = .returned (.int .u64 (tt : Int)) ∧ Below v.heap.size v w' from fun v hv => by rw [hXI, htt]; exact HBT.out v x hxok hv)
          have HG0 := Lib.hid (show ∀ v, Below w.heap.size w v → Calls Tryd.prog 28 #[.agg L.toArray, .int .i64 0, .agg XI.toArray] v fun e w' => e = .returned (.int .u64 (g0 : Int)) ∧ Below v.heap.size v w' from fun v hv => by rw [hXI, hg0]; exact HRG.out v 0 x (.inl rfl) hxok hv)
          have HG1 := Lib.hid (show ∀ v, Below w.heap.size w v → Calls Tryd.prog 28 #[.agg L.toArray, .int .i64 1, .agg XI.toArray] v fun e w' => e = .returned (.int .u64 (g1 : Int)) ∧ Below v.heap.size v w' from fun v hv => by rw [hXI, hg1]; exact HRG.out v 1 x (.inr rfl) hxok hv)
          have HH0 := Lib.hid (show ∀ v, Below w.heap.size w v → Calls Tryd.prog 17 #[.pointer (some ⟨g, 0, none⟩), .int .i64 0, .agg XI.toArray] v fun e w' => e = .returned (.int .u64 (g0 : Int)) ∧ Below v.heap.size v w' from fun v hv => by rw [hXI, hg0]; exact HBH.out v 0 x (.inl rfl) hxok hv)
          have HH1 := Lib.hid (show ∀ v, Below w.heap.size w v → Calls Tryd.prog 17 #[.pointer (some ⟨g, 0, none⟩), .int .i64 1, .agg XI.toArray] v fun e w' => e = .returned (.int .u64 (g1 : Int)) ∧ Below v.heap.size v w' from fun v hv => by rw [hXI, hg1]; exact HBH.out v 1 x (.inr rfl) hxok hv)
          clear hrw hxok hx hXI hrr hA2 hlt htt hg0 hg1
          go_upto_region 25 with (first
            | (refine wpList_load_mid rfl 39 (.tmp 116) rfl sa (sq + k * 32) rfl XI _ HRW.out Tryd.underlying39 rfl SZI.out ?_)
            | (refine wpList_store_row rfl 39 (.tmp 16) (.tmp 117) rfl wr.heap.size XI.toArray rfl rfl 39 ZH (heap_alloc_new wr _) SZXA.out HZZ.out HONEX.out ?_))
          obtain ⟨h4, hk4⟩ := HNW.out XI.toArray
          have hb4 := HBE.out.trans (hk4.mono HBE.out.size)
          clear HNW hk4 hat
          generalize (wr.alloc (.cells ZH 39)).setRow wr.heap.size XI.toArray = W9 at h4 hb4 ⊢
          generalize wr.heap.size = G8 at h4 ⊢
          have H4 := Lib.hid h4
          have HB4 := Lib.hid hb4
          have HW9 := Lib.hid (show ∀ v, Below W9.heap.size W9 v → Below w.heap.size w v ∧ Below W1.heap.size W1 v ∧ v.rangeAt G8 0 XI from fun v hv => by
            have hq1 := HB4.out.trans (hv.mono HB4.out.size)
            exact ⟨HB1.out.trans (hq1.mono HB1.out.size), hq1, (H4.out.below hv H4.out.lt).row0⟩)
          have HI25 := Lib.hid (And.intro (HX.out W9 hb4) h4.row0)
          clear h4 hb4
          go_wp2_with (first
            | (refine wpList_load_mid rfl 31 (.tmp 4) rfl b0 0 rfl L _ HI25.out.1 Tryd.underlying31 rfl SZB.out ?_)
            | (refine wpList_load_mid rfl 39 (.tmp 16) rfl G8 0 rfl XI _ HI25.out.2 Tryd.underlying39 rfl SZI.out ?_))
          refine (HTR'.out W9 (HW9.out W9 (Below.refl _ _)).1).mono ?_
          rintro _ w25 ⟨rfl, hb25⟩
          have HB25 := Lib.hid hb25
          clear hb25
          go_upto_region 26 with (fail)
          have hS0 : Below W9.heap.size W9 w25.drew := HB25.out.drew
          refine wp_region_noPanic ?_
          refine wp_region_held_drew (S := (fun v => Below W9.heap.size W9 v)) (by kernel_rfl) hS0 (fun hH0 => ?_)
          apply tk 0 (v := _) rfl (Or.inl ⟨by kernel_rfl, ?hv⟩) hH0 ?_
          case hv => intro w' hS; go_simp; try exact rfl
          simp only [Act.put, qa]
          refine tk 1 (v := (.agg XI.toArray)) rfl (yieldsIf_load_mid (by kernel_rfl) 39 (.tmp 16) rfl G8 0 rfl XI _ (fun w' h => (HW9.out _ h).2.2) Tryd.underlying39 rfl SZI.out) hH0 ?_
          simp only [Act.put, qa]
          apply tk 3 (v := _) rfl (Or.inl ⟨by kernel_rfl, ?hv⟩) hH0 ?_
          case hv => intro w' hS; go_simp; try exact rfl
          simp only [Act.put, qa]
          refine wpAnyH_ready (rs := [2]) (by kernel_rfl) (by simp) ?_
          refine AllReadyH.cons rfl (fun KK hKK => ?_) AllReadyH.nil
          go_simp
          refine (HBT'.out _ (HW9.out _ hH0).1).mono ?_
          rintro _ x2 ⟨rfl, hx2⟩
          have hs2 : Below W9.heap.size W9 x2 := hH0.trans (hx2.mono hH0.size)
          clear hx2
          refine Shut.out hKK _ _ hs2 (fun hH1 => ?_)
          clear hKK KK
          try simp only [Act.put, qa]
          apply tk 4 (v := _) rfl (Or.inl ⟨by kernel_rfl, ?hv⟩) hH1 ?_
          case hv => intro w' hS; go_simp; try exact rfl
          simp only [Act.put, qa]
          apply tk 5 (v := _) rfl (Or.inl ⟨by kernel_rfl, ?hv⟩) hH1 ?_
          case hv => intro w' hS; go_simp; try exact rfl
          simp only [Act.put, qa]
          apply tk 6 (v := _) rfl (Or.inl ⟨by kernel_rfl, ?hv⟩) hH1 ?_
          case hv => intro w' hS; go_simp; try exact rfl
          simp only [Act.put, qa]
          refine tk 7 (v := (.agg XI.toArray)) rfl (yieldsIf_load_mid (by kernel_rfl) 39 (.tmp 16) rfl G8 0 rfl XI _ (fun w' h => (HW9.out _ h).2.2) Tryd.underlying39 rfl SZI.out) hH1 ?_
          simp only [Act.put, qa]
          refine tk 9 (v := (.agg L.toArray)) rfl (yieldsIf_load_mid (by kernel_rfl) 31 (.tmp 4) rfl b0 0 rfl L _ (fun w' h => (HX.out _ (HW9.out _ h).2.1)) Tryd.underlying31 rfl SZB.out) hH1 ?_
          simp only [Act.put, qa]
          refine tk 10 (v := (.agg XI.toArray)) rfl (yieldsIf_load_mid (by kernel_rfl) 39 (.tmp 16) rfl G8 0 rfl XI _ (fun w' h => (HW9.out _ h).2.2) Tryd.underlying39 rfl SZI.out) hH1 ?_
          simp only [Act.put, qa]
          refine wpAnyH_ready (rs := [8]) (by kernel_rfl) (by simp) ?_
          refine AllReadyH.cons rfl (fun KK hKK => ?_) AllReadyH.nil
          go_simp
          refine (HH0.out _ (HW9.out _ hH1).1).mono ?_
          rintro _ x8 ⟨rfl, hx8⟩
          have hs8 : Below W9.heap.size W9 x8 := hH1.trans (hx8.mono hH1.size)
          clear hx8
          refine Shut.out hKK _ _ hs8 (fun hH2 => ?_)
          clear hKK KK
          try simp only [Act.put, qa]
          refine wpAnyH_ready (rs := [11]) (by kernel_rfl) (by simp) ?_
          refine AllReadyH.cons rfl (fun KK hKK => ?_) AllReadyH.nil
          go_simp
          refine (HG0.out _ (HW9.out _ hH2).1).mono ?_
          rintro _ x11 ⟨rfl, hx11⟩
          have hs11 : Below W9.heap.size W9 x11 := hH2.trans (hx11.mono hH2.size)
          clear hx11
          refine Shut.out hKK _ _ hs11 (fun hH3 => ?_)
          clear hKK KK
          try simp only [Act.put, qa]
          apply tk 12 (v := _) rfl (Or.inl ⟨by kernel_rfl, ?hv⟩) hH3 ?_
          case hv => intro w' hS; go_simp; try exact rfl
          simp only [Act.put, qa]
          apply tk 13 (v := _) rfl (Or.inl ⟨by kernel_rfl, ?hv⟩) hH3 ?_
          case hv => intro w' hS; go_simp; try exact rfl
          simp only [Act.put, qa]
          apply tk 14 (v := _) rfl (Or.inl ⟨by kernel_rfl, ?hv⟩) hH3 ?_
          case hv => intro w' hS; go_simp; try exact rfl
          simp only [Act.put, qa]
          apply tk 15 (v := _) rfl (Or.inl ⟨by kernel_rfl, ?hv⟩) hH3 ?_
          case hv => intro w' hS; go_simp; try exact rfl
          simp only [Act.put, qa]
          refine tk 16 (v := (.agg XI.toArray)) rfl (yieldsIf_load_mid (by kernel_rfl) 39 (.tmp 16) rfl G8 0 rfl XI _ (fun w' h => (HW9.out _ h).2.2) Tryd.underlying39 rfl SZI.out) hH3 ?_
          simp only [Act.put, qa]
          refine tk 18 (v := (.agg L.toArray)) rfl (yieldsIf_load_mid (by kernel_rfl) 31 (.tmp 4) rfl b0 0 rfl L _ (fun w' h => (HX.out _ (HW9.out _ h).2.1)) Tryd.underlying31 rfl SZB.out) hH3 ?_
          simp only [Act.put, qa]
          refine tk 19 (v := (.agg XI.toArray)) rfl (yieldsIf_load_mid (by kernel_rfl) 39 (.tmp 16) rfl G8 0 rfl XI _ (fun w' h => (HW9.out _ h).2.2) Tryd.underlying39 rfl SZI.out) hH3 ?_
          simp only [Act.put, qa]
          refine wpAnyH_ready (rs := [17]) (by kernel_rfl) (by simp) ?_
          refine AllReadyH.cons rfl (fun KK hKK => ?_) AllReadyH.nil
          go_simp
          refine (HH1.out _ (HW9.out _ hH3).1).mono ?_
          rintro _ x17 ⟨rfl, hx17⟩
          have hs17 : Below W9.heap.size W9 x17 := hH3.trans (hx17.mono hH3.size)
          clear hx17
          refine Shut.out hKK _ _ hs17 (fun hH4 => ?_)
          clear hKK KK
          try simp only [Act.put, qa]
          refine wpAnyH_ready (rs := [20]) (by kernel_rfl) (by simp) ?_
          refine AllReadyH.cons rfl (fun KK hKK => ?_) AllReadyH.nil
          go_simp
          refine (HG1.out _ (HW9.out _ hH4).1).mono ?_
          rintro _ x20 ⟨rfl, hx20⟩
          have hs20 : Below W9.heap.size W9 x20 := hH4.trans (hx20.mono hH4.size)
          clear hx20
          refine Shut.out hKK _ _ hs20 (fun hH5 => ?_)
          clear hKK KK
          try simp only [Act.put, qa]
          apply tk 21 (v := _) rfl (Or.inl ⟨by kernel_rfl, ?hv⟩) hH5 ?_
          case hv => intro w' hS; go_simp; try exact rfl
          simp only [Act.put, qa]
          apply tk 22 (v := _) rfl (Or.inl ⟨by kernel_rfl, ?hv⟩) hH5 ?_
          case hv => intro w' hS; go_simp; try exact rfl
          simp only [Act.put, qa]
          refine wpAnyH_done (by kernel_rfl) ?_ _
          refine NoPanic.normal ?_
          have HB5 := Lib.hid (HW9.out _ hH5).2.1
          clear hS0
          go_wp2_with fail
          go_roundw
          case rel => exact ⟨k + 1, by go_num, HLTK.out, HB5.out⟩
          case measure => have := HLTK.out; simp [intOf]; omega
        · obtain rfl : k = n0 := by omega
          have hno : ¬ (k : Int) < (k : Int) := by omega
          have hc0 : wr.cell? ⟨b0, 0, none⟩ = some (.slice A n c) := (HC.out wr HBE.out).1
          have HBF := Lib.hid (show Below w.heap.size w wr from HB1.out.trans (HBE.out.mono HB1.out.size))
          obtain rfl : ct = n := HCE.out
          go_wp2_with fail
          go_ret
          exact ⟨by simp, HBF.out⟩
end Go.Proofs.YtcekammjpghjnaaDoor

