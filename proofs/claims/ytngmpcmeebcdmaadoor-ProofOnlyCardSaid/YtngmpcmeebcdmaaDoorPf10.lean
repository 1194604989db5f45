/- The walk of plant: some leaves are put into a new tree. -/
import Derived.Test.YtngmpcmeebcdmaaDoorPf8
import Derived.Test.YtngmpcmeebcdmaaDoorOpenR
namespace Go.Proofs.YtngmpcmeebcdmaaDoor
set_option linter.unusedVariables false
set_option linter.unusedSimpArgs false
open Go.ChangeShapes Go.WideShapes Go.ChangeAt Go.RowKit Go.Maps

/-- a leaf at a key. -/
structure PutT where
  key : List Nat
  a : Option Addr
  c : Nat
  v : List Nat
  s : Nat
def PutT.cells (x : PutT) : List Value := bcells x.key ++ [.slice x.a x.v.length x.c, .int .u64 (x.s : Int)]
structure PutT.ok (w : World) (x : PutT) : Prop where
  key : IsHash x.key
  s : x.s < 18446744073709551616
  few : x.v.length ≤ 9223372036854775807
  bytes : Bytes w w.heap.size (.slice x.a x.v.length x.c) x.v
theorem PutT.len {x : PutT} (h : x.key.length = 32) : x.cells.length = 34 := by simp [PutT.cells, bcells_length, h]
theorem PutT.one (x : PutT) : ∀ v ∈ x.cells, v.oneCell' = true := by
  intro v hv
  rcases List.mem_append.1 hv with h | h
  · exact bcells_oneC _ v h
  · simp only [List.mem_cons, List.not_mem_nil, or_false] at h
    rcases h with rfl | rfl <;> rfl
structure PutsAt (w : World) (A : Option Addr) (n : Nat) (xs : List PutT) : Prop where
  len : xs.length = n
  few : n ≤ 9223372036854775807
  ok : ∀ x ∈ xs, x.ok w
  at_ : 0 < n → ∃ b o, A = some ⟨b, o, none⟩ ∧ b < w.heap.size ∧ ∀ (i : Nat) x, xs[i]? = some x → w.rangeAt b (o + i * 34) x.cells
theorem PutT.ok.below {w w' : World} {x : PutT} (h : x.ok w) (hb : Below w.heap.size w w') : x.ok w' := ⟨h.key, h.s, h.few, h.bytes.alive hb hb.size⟩
theorem PutsAt.below {w w' : World} {A : Option Addr} {n : Nat} {xs : List PutT} (h : PutsAt w A n xs) (hb : Below w.heap.size w w') : PutsAt w' A n xs := by
  refine ⟨h.len, h.few, fun x hx => (h.ok x hx).below hb, fun hn => ?_⟩
  obtain ⟨b, o, e, hbl, hr⟩ := h.at_ hn
  exact ⟨b, o, e, by have := hb.size; omega, fun i x hx => rangeAt_kept (hr i x hx) (Kept.of_below (S := fun _ => False) hb) (fun e => e)⟩
theorem open_puts {H : Type} {enc : TypeId × Value → H} {w : World} {base : Nat} {spare : Nat → Bool} {held : Bool} {A : Option Addr} {n c : Nat} {d : DataW H} {p : List MemPlace} (h : DataW.Trod enc Tryd.prog w base spare held 78 (.slice A n c) d p) : ∃ xs, PutsAt w A n xs := by
  obtain ⟨xs, h1, h2, h3, h4⟩ := open_list (α := PutT) PutT.cells (fun x => x.ok w) 34 Tryd.underlying78 (by kernel_rfl) (by decide)
    (fun m cs x hx hl => by
      obtain ⟨xs, m2, _, _, _, hn, hf⟩ := DataW.trod_struct Tryd.underlying137 hx
      have hn2 : xs.length = 2 := hn
      have hsome : ∀ j, j < 2 → (xs[j]?).isSome = true := fun j hj => by rw [List.getElem?_eq_getElem (by omega)]; rfl
      obtain ⟨k, e0, w0⟩ := hash_cut (i := 0) Tryd.underlying28 Tryd.underlying5 (by kernel_rfl) (by kernel_rfl) (hf 0 _ rfl) (hsome 0 (by decide))
      obtain ⟨a, bs, c, s, e1, e2, e3, e4⟩ := leaf_cut (i := 32) (hf 1 _ rfl) (hsome 1 (by decide)) (by omega)
      refine ⟨⟨k, a, c, bs, s⟩, ?_, w0, e2, e3, e4⟩
      have f0 := cut_list cs 0 32
      have f1 := cut_list cs 32 2
      have f2 : cs.drop 34 = [] := List.drop_eq_nil_of_le (by omega)
      simp only [Nat.reduceAdd] at f0 f1
      rw [e0] at f0
      rw [e1, f2] at f1
      rw [f1] at f0
      rw [List.drop_zero] at f0
      rw [f0]; rfl) (fun s hs => PutT.len hs.key.1) h
  exact ⟨xs, h1, h2, h3, h4⟩
theorem zero_put : ∃ Z : Array Value, (∀ w, (zeroValue 137).run Tryd.prog w = .ok (.agg Z) w) ∧ Z.size = 34 ∧ ¬ Z = #[] := by
  have hs : (PutT.cells ⟨List.replicate 32 0, none, 0, [], 0⟩).toArray.size = 34 := by kernel_rfl
  exact ⟨_, fun w => by kernel_rfl, hs, fun e => (by rw [e] at hs; cases hs)⟩
theorem at_put (b o n c k : Nat) (hk : k < n) (w : World) : (Instr.indexAt 78 (.slice (some ⟨b, o, none⟩) n c) (.int .i64 (k : Int))).run Tryd.prog w = .ok (.pointer (some ⟨b, o + k * 34, none⟩)) w := by
  have hu : Tryd.prog.underlying 78 = some (.slice (Tryd.prog.elem 78)) := by kernel_rfl
  have he : Tryd.prog.elem 78 = 137 := by kernel_rfl
  have hz : ∀ w, (sizeOf 137).run Tryd.prog w = .ok 34 w := fun w => by kernel_rfl
  rw [run_indexAt_slice w 78 ⟨b, o, none⟩ n c .i64 (k : Int) hu, if_pos ⟨by omega, by omega⟩, he, hz]
  simp only [Result.andThen, Int.toNat_natCast, Addr.add_mid]
def PlantP (K s0 : List Wd) (w : World) (e : Ending) (w' : World) : Prop := ∃ g T, e = .returned (.pointer (some ⟨g, 0, none⟩)) ∧ Tr K s0 (fun j => w.heap.size ≤ j ∧ j < w'.heap.size) w' g T ∧ Below w.heap.size w w' ∧ w.heap.size ≤ g
set_option maxRecDepth 100000 in
set_option maxHeartbeats 8000000 in
theorem plant_is (K s0 : List Wd) (hl8 : s0.length = 8) (w : World) (A : Option Addr) (N c : Nat) (ps : List PutT) (hps : PutsAt w A N ps) :
    Calls Tryd.prog 32 #[.slice A N c] w (PlantP K s0 w) := by
  obtain ⟨Z, hz, hZs, hZn⟩ := zero_put
  have HPS := Lib.hid hps
  have hfew := hps.few
  clear hps
  go_enter Tryd.func32, Tryd.ntmps32
  go_wp2_with fail
  refine (newT_is K s0 (fun k => w.heap.size ≤ k) w (fun _ h => h)).mono ?_
  rintro _ w1 ⟨g, rfl, htr, hb1, hg⟩
  have HTR := Lib.hid htr
  have HB1 := Lib.hid hb1
  have HG := Lib.hid hg
  clear htr hb1 hg
  go_wp2_with fail
  go_loopw [4, 10] (fun nv iv wr => ∃ (k m : Nat) (T : List Lf), iv = .int .i64 (k : Int) ∧ nv = .int .i64 (m : Int) ∧ k ≤ N ∧ m ≤ 6 ∧ Tr K s0 (fun j => w.heap.size ≤ j) wr g T ∧ Below w.heap.size w wr) (fun _ iv _ => N - (intOf iv).toNat)
  case atStart => exact ⟨0, 0, [], rfl, rfl, Nat.zero_le _, Nat.zero_le _, HTR.out, HB1.out⟩
  case round =>
    clear HTR HB1
    obtain ⟨k, m, T, rfl, rfl, hk, hm, htr, hbr⟩ := hrel
    have HTR := Lib.hid htr
    have HBR := Lib.hid hbr
    clear htr hbr
    by_cases hlt : k < N
    · have hlt' : (k : Int) < (N : Int) := by omega
      obtain ⟨x, hx⟩ : ∃ x, ps[k]? = some x := ⟨_, List.getElem?_eq_getElem (by rw [HPS.out.len]; exact hlt)⟩
      have hok := ((HPS.out.ok x (List.mem_of_getElem? hx))).below HBR.out
      obtain ⟨b, o, ha, hbl, hr⟩ := (HPS.out.below HBR.out).at_ (by omega)
      have hrx := hr k x hx
      have hat := at_put b o N c k hlt
      rw [← ha] at hat
      have hl34 := PutT.len hok.key.1
      have SZ := Lib.hid (show (Tryd.prog.info? 137).map (·.size) = some x.cells.length by rw [hl34]; kernel_rfl)
      have SZA := Lib.hid (show (Tryd.prog.info? 137).map (·.size) = some x.cells.toArray.size by rw [List.size_toArray]; exact SZ.out)
      have HZZ := Lib.hid (show Z.size = x.cells.toArray.size by rw [hZs, List.size_toArray, hl34])
      have HONE := Lib.hid (show x.cells.toArray.all (·.oneCell') = true from all_oneCell_toArray (PutT.one x))
      have hnw : Has ((wr.alloc (.cells Z 137)).setRow wr.heap.size x.cells.toArray) wr.heap.size 137 x.cells.toArray ∧ Below wr.heap.size wr ((wr.alloc (.cells Z 137)).setRow wr.heap.size x.cells.toArray) := by
        rw [World.setRow_alloc_new]
        exact ⟨Has.new _ _ _, (Below.refl _ _).alloc (Nat.le_refl _) _⟩
      have HNW := Lib.hid hnw
      have HRX := Lib.hid hrx
      have HOK := Lib.hid hok
      clear hx hr hrx hok hl34 hnw hbl ha
      go_upto_region 6 with (first
        | (refine wpList_load_mid rfl 137 (.tmp 12) rfl b (o + k * 34) rfl x.cells _ HRX.out Tryd.underlying137 rfl SZ.out ?_)
        | (refine wpList_store_row rfl 137 (.tmp 6) (.tmp 13) rfl wr.heap.size x.cells.toArray rfl rfl 137 Z (heap_alloc_new wr _) SZA.out HZZ.out HONE.out ?_))
      simp only [Act.put]
      generalize (wr.alloc (.cells Z 137)).setRow wr.heap.size x.cells.toArray = W5 at HNW ⊢
      have hgl : wr.heap.size < W5.heap.size := HNW.out.1.lt
      generalize hG6 : wr.heap.size = G6 at HNW hgl ⊢
      have hbr5 : Below w.heap.size w W5 := by
        have := HNW.out.2
        rw [← hG6] at this
        exact HBR.out.trans (this.mono HBR.out.size)
      have htr5 : Tr K s0 (fun j => w.heap.size ≤ j) W5 g T := by
        have := HNW.out.2
        rw [← hG6] at this
        exact HTR.out.quiet this
      have hok5 : x.ok W5 := by
        have := HNW.out.2
        rw [← hG6] at this
        exact HOK.out.below this
      obtain ⟨nv, hnv⟩ : ∃ v, v = x.v.length := ⟨_, rfl⟩
      have c32 : W5.cell? ⟨G6, 32, none⟩ = some (.slice x.a nv x.c) := HNW.out.1.cell_is (by
        rw [List.getElem?_toArray, PutT.cells, List.getElem?_append_right (by rw [bcells_length, HOK.out.key.1]; exact Nat.le_refl _), bcells_length, HOK.out.key.1, hnv]; rfl)
      have ENV := Lib.hid hnv
      have HT5 := Lib.hid htr5
      have HB5 := Lib.hid hbr5
      have HOK5 := Lib.hid hok5
      have hnl : nv ≤ 9223372036854775807 := by rw [hnv]; exact HOK.out.few
      clear hG6 hgl htr5 hbr5 hok5 hnv HTR HBR HOK HRX
      by_cases h6 : m < 6
      · have h6' : (m : Int) < 6 := by omega
        by_cases h2 : nv ≤ 200
        · have h2' : (nv : Int) ≤ 200 := by omega
          obtain ⟨LK, hLK⟩ : ∃ L, L = bcells x.key := ⟨_, rfl⟩
          obtain ⟨LF, hLF⟩ : ∃ L : List Value, L = [.slice x.a nv x.c, .int .u64 (x.s : Int)] := ⟨_, rfl⟩
          have hrk : W5.rangeAt G6 0 LK := fun j u hu => by
            refine HNW.out.1.cell_is ?_
            rw [List.getElem?_toArray, PutT.cells, Nat.zero_add, List.getElem?_append_left (by rw [← hLK]; exact (List.getElem?_eq_some_iff.1 hu).1), ← hLK]
            exact hu
          have hrf : W5.rangeAt G6 32 LF := fun j u hu => by
            refine HNW.out.1.cell_is ?_
            rw [List.getElem?_toArray, PutT.cells, List.getElem?_append_right (by rw [bcells_length, HOK5.out.key.1]; omega), bcells_length, HOK5.out.key.1, Nat.add_sub_cancel_left]
            rw [hLF, ENV.out] at hu
            exact hu
          have hput := tr_put HT5.out hl8 (fun j h => by have := HB5.out.size; omega) ⟨x.key, x.v, x.s⟩ HOK5.out.key (.slice x.a nv x.c) (by rw [ENV.out]; exact HOK5.out.bytes) HOK5.out.s (by show x.v.length ≤ _; rw [← ENV.out]; omega)
          unfold arr leafV at hput
          rw [← hLK] at hput
          obtain ⟨E, hE⟩ : ∃ E, E = putE T ⟨x.key, x.v, x.s⟩ := ⟨_, rfl⟩
          rw [← hE] at hput
          have hput2 : Calls Tryd.prog 18 #[.pointer (some ⟨g, 0, none⟩), .agg LK.toArray, .agg LF.toArray] W5 fun e w' => e = .returned (.int .i64 E) ∧ Tr K s0 (fun j => w.heap.size ≤ j) w' g (putN T ⟨x.key, x.v, x.s⟩) ∧ Kept (fun j => w.heap.size ≤ j) W5 w' := by
            rw [hLF]; exact hput
          have HPUT := Lib.hid hput2
          have HRK := Lib.hid hrk
          have HRF := Lib.hid hrf
          have SZK := Lib.hid (show (Tryd.prog.info? 28).map (·.size) = some LK.length by rw [hLK, bcells_length, HOK5.out.key.1]; kernel_rfl)
          have SZF := Lib.hid (show (Tryd.prog.info? 32).map (·.size) = some LF.length by rw [hLF]; kernel_rfl)
          clear hLK hLF hrk hrf hput hput2 hE
          go_wp2_with (first
            | (refine wpList_load_midG (by kernel_rfl) 28 (.tmp 25) rfl G6 0 rfl LK _ HRK.out Tryd.underlying28 rfl SZK.out ?_)
            | (refine wpList_load_midG (by kernel_rfl) 32 (.tmp 27) rfl G6 32 rfl LF _ HRF.out Tryd.underlying32 rfl SZF.out ?_))
          refine HPUT.out.mono ?_
          rintro _ w6 ⟨rfl, htr6, hk6⟩
          have HTR6 := Lib.hid htr6
          have HBR6 := Lib.hid (HB5.out.trans (hk6.below HB5.out.size (fun j e => e)))
          clear htr6 hk6 HPUT c32
          by_cases hE0 : E = 0
          · subst hE0
            go_wp2
            go_roundw
            case rel => exact ⟨k + 1, m + 1, _, by go_num, by go_num, by omega, by omega, HTR6.out, HBR6.out⟩
            case measure => simp [intOf]; omega
          · have hE1 : (E == 0) = false := by rw [beq_eq_false_iff_ne]; exact hE0
            go_wp2
            go_roundw
            case rel => exact ⟨k + 1, m, _, by go_num, rfl, by omega, hm, HTR6.out, HBR6.out⟩
            case measure => simp [intOf]; omega
        · have h2' : ¬ (nv : Int) ≤ 200 := by omega
          go_wp2
          go_roundw
          case rel => exact ⟨k + 1, m, T, by go_num, rfl, by omega, hm, HT5.out, HB5.out⟩
          case measure => simp [intOf]; omega
      · have h6' : ¬ (m : Int) < 6 := by omega
        go_wp2
        go_roundw
        case rel => exact ⟨k + 1, m, T, by go_num, rfl, by omega, hm, HT5.out, HB5.out⟩
        case measure => simp [intOf]; omega
    · have hlt' : ¬ (k : Int) < (N : Int) := by omega
      go_wp2
      go_ret
      exact ⟨g, T, rfl, HTR.out.zone (fun j h1 h2 => ⟨h2, h1⟩), HBR.out, HG.out⟩
end Go.Proofs.YtngmpcmeebcdmaaDoor
