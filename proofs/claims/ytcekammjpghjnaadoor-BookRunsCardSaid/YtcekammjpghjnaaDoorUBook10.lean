/- The walk of Offer. -/
import Derived.Test.YtcekammjpghjnaaDoorWs
import Derived.Test.YtcekammjpghjnaaDoorUBook9
import Derived.Test.YtcekammjpghjnaaDoorUMem
namespace Go.Proofs.YtcekammjpghjnaaDoor
set_option linter.unusedVariables false
set_option linter.unusedSimpArgs false
open Go.ChangeShapes Go.WideShapes Go.ChangeAt Go.RowKit Go.Maps

def cntF (os : List Off) (f : Int) : Nat := (os.filter fun o => o.frm = f).length
theorem cntF_step (os : List Off) (f : Int) (k : Nat) (o : Off) (h : os[k]? = some o) : cntF (os.take (k + 1)) f = if o.frm = f then cntF (os.take k) f + 1 else cntF (os.take k) f := by
 unfold cntF
 rw [List.take_add_one, h, List.filter_append]
 by_cases hi : o.frm = f
 · simp [hi]
 · simp [hi]
theorem cntF_le (os : List Off) (f : Int) (k : Nat) : cntF (os.take k) f ≤ k := by
 unfold cntF
 have h1 := List.length_filter_le (fun o : Off => decide (o.frm = f)) (os.take k)
 have h2 : (os.take k).length ≤ k := by rw [List.length_take]; omega
 omega
def Bk.keep (b : Bk) (f : Int) : Nat := if f = 0 then b.k0 else b.k1
def offerE (b : Bk) (o : Off) : Int :=
 if 0 ≤ findI b.offers o.frm o.no then 6 else if 30 ≤ cntF b.offers o.frm then 50
 else if b.has o.frm o.id < o.am ∨ (o.id = List.replicate 32 0 ∧ b.has o.frm o.id - o.am < b.keep o.frm) then 51 else 0
def offerB (b : Bk) (o : Off) : Bk := { b.put o.frm (setL (b.side o.frm) o.id (b.has o.frm o.id - o.am)) with offers := b.offers ++ [o] }
def offerN (b : Bk) (o : Off) : Bk := if offerE b o = 0 then offerB b o else b
theorem sub_is (w : World) (a b : Nat) (ha : a < 18446744073709551616) : ∃ (l : Nat) (e : Int), Calls Tryd.prog 34 #[.int .u64 (a : Int), .int .u64 (b : Int)] w (fun x w' => x = .returned (.tuple #[.int .u64 (l : Int), .int .i64 e]) ∧ w' = w) ∧ (b ≤ a → l = a - b ∧ e = 0) ∧ (a < b → e = 11) := by
 by_cases h : b ≤ a
 · exact ⟨a - b, 0, sub_fits w a b h ha, fun _ => ⟨rfl, rfl⟩, fun hc => absurd h (by omega)⟩
 · exact ⟨0, 11, sub_less w a b (by omega), fun hc => absurd hc h, fun _ => rfl⟩

theorem BookAt.relaid {w w6 : World} {g m0 m1 : Nat} {v v6 : Value} {b : Bk} (h : BookAt w g m0 m1 v b) (hk : Kept (fun k => v.ownBlock = some k) w w6) (os : List Off)
   (hown : w6.ownsRow 0 42 68 v6 os.length (os.flatMap Off.cells)) : BookAt (w6.setCell ⟨g, 2, none⟩ v6) g m0 m1 v6 { b with offers := os } ∧ Kept (bset g m0 m1 v) w (w6.setCell ⟨g, 2, none⟩ v6) := by
 have hne : ∀ k, v.ownBlock = some k → k ≠ g := own_has_ne h.row h.obj (by decide)
 have hg6 := h.obj.kept hk (fun e => hne g e rfl)
 have hset : Kept (fun k => k = g) w6 (w6.setCell ⟨g, 2, none⟩ v6) := (Kept.refl (fun k => k = g) w6).set (p := ⟨g, 2, none⟩) (.inl rfl) v6
 have f0 := h.far 0 m0 rfl
 have f1 := h.far 1 m1 rfl
 have hne6 : ∀ k, v6.ownBlock = some k → k ≠ g := own_has_ne hown hg6 (by decide)
 refine ⟨⟨hg6.set 2 v6, own_kept hown hset hne6, ?_, ?_, h.ne⟩, ?_⟩
 · exact (h.map0.kept hk (fun e => f0.1 m0 e rfl)).kept hset (fun e => f0.2 e.symm)
 · exact (h.map1.kept hk (fun e => f1.1 m1 e rfl)).kept hset (fun e => f1.2 e.symm)
 · exact (hk.mono (fun k _ e => (.inr (.inr (.inr e)) : bset g m0 m1 v k))).trans (hset.mono (fun k _ e => .inl e))
theorem info_off : (Tryd.prog.info? 42).map (fun i => (i.zero, i.size, i.bytes)) = some (some (.agg (Off.cells ⟨0, 0, List.replicate 32 0, 0, List.replicate 32 0, 0⟩).toArray), 68, 96) := by kernel_rfl
theorem zero_is : IsHash (List.replicate 32 0) := ⟨List.length_replicate, fun k hk => by rw [List.eq_of_mem_replicate hk]; decide⟩
theorem hash_zero (id : List Nat) (h : IsHash id) (w : World) : (Op.equalIn 10000 39 (.agg (bcells id).toArray) (.agg #[.int .u8 0, .int .u8 0, .int .u8 0, .int .u8 0, .int .u8 0, .int .u8 0, .int .u8 0, .int .u8 0, .int .u8 0, .int .u8 0, .int .u8 0, .int .u8 0, .int .u8 0, .int .u8 0, .int .u8 0, .int .u8 0, .int .u8 0, .int .u8 0, .int .u8 0, .int .u8 0, .int .u8 0, .int .u8 0, .int .u8 0, .int .u8 0, .int .u8 0, .int .u8 0, .int .u8 0, .int .u8 0, .int .u8 0, .int .u8 0, .int .u8 0, .int .u8 0])).run Tryd.prog w = .ok (decide (id = List.replicate 32 0)) w :=
 hash_eqIn id (List.replicate 32 0) h zero_is w

theorem put_offers (b : Bk) (f : Int) (l : List Ent) : (b.put f l).offers = b.offers := by unfold Bk.put; split <;> rfl
theorem offer_fin {w w4 w5 w6 : World} {g m0 m1 : Nat} {v : Value} {b : Bk} {o : Off} {frm : Int} {l g6 cap6 : Nat} {L : List Value} (hkw : Kept (fun _ => False) w w4) (hat5 : BookAt w5 g m0 m1 v (b.put frm (setL (b.side frm) o.id l)))
   (hk5 : Kept (bset g m0 m1 v) w4.drew w5) (hbs : ¬ bset g m0 m1 v w.heap.size) (hbx : Has w5 w.heap.size 42 L.toArray) (hL : L = o.cells) (hE : offerE b o = 0) (hf : frm = o.frm) (hl : l = b.has o.frm o.id - o.am)
   (hown6 : w6.ownsRow 0 42 68 (.slice (some ⟨g6, 0, none⟩) (b.offers.length + 1) cap6) (b.offers.length + 1) (b.offers.flatMap Off.cells ++ L)) (hgr6 : (w5.drew.alloc (.cells L.toArray 42)).grownBy w6 v.ownBlock)
   (hat6 : v.ownBlock = some g6 ∨ g6 = (w5.drew.alloc (.cells L.toArray 42)).heap.size) :
   (∃ v', BookAt (w6.setCell ⟨g, 2, none⟩ (.slice (some ⟨g6, 0, none⟩) (b.offers.length + 1) cap6)) g m0 m1 v' (offerN b o) ∧ Kept (bset g m0 m1 v) w (w6.setCell ⟨g, 2, none⟩ (.slice (some ⟨g6, 0, none⟩) (b.offers.length + 1) cap6)) ∧ (∀ k, v'.ownBlock = some k → v.ownBlock = some k ∨ w.heap.size ≤ k)) ∧
   w6.cell? ⟨g, 2, none⟩ = some v ∧ w6.frozen? ⟨g, 2, none⟩ = false ∧ w6.rangeAt w.heap.size 0 L ∧ (w6.setCell ⟨g, 2, none⟩ (.slice (some ⟨g6, 0, none⟩) (b.offers.length + 1) cap6)).rangeAt w.heap.size 0 L := by
 subst hf
 have hk6 : Kept (fun k => v.ownBlock = some k) w5 w6 := ((Kept.refl _ w5).drew.alloc _).grown hgr6 (fun k e => .inl e)
 have hne : ∀ k, v.ownBlock = some k → k ≠ g := own_has_ne hat5.row hat5.obj (by decide)
 have hg6 := hat5.obj.kept hk6 (fun e => hne g e rfl)
 have hb6 := hbx.kept hk6 (fun e => hbs (.inr (.inr (.inr e))))
 have hgw : w.heap.size ≠ g := fun e => hbs (.inl e)
 have hown : w6.ownsRow 0 42 68 (.slice (some ⟨g6, 0, none⟩) (b.offers.length + 1) cap6) (b.offers ++ [o]).length ((b.offers ++ [o]).flatMap Off.cells) := by
   rw [List.length_append, List.flatMap_append]
   simpa [hL] using hown6
 obtain ⟨h1, h2⟩ := hat5.relaid hk6 (b.offers ++ [o]) hown
 have hN : offerN b o = { b.put o.frm (setL (b.side o.frm) o.id l) with offers := b.offers ++ [o] } := by
   unfold offerN; rw [if_pos hE, offerB, hl]
 refine ⟨⟨_, by rw [hN]; exact h1, ((hkw.mono (fun _ _ h => h.elim)).drew.trans hk5).trans h2, fun k hk => ?_⟩, hg6.cell_is rfl, hg6.free 2, hb6.range, ?_⟩
 · simp only [Value.ownBlock, Option.some.injEq] at hk
   subst hk
   rcases hat6 with e | e
   · exact .inl e
   · refine .inr ?_
     have s1 := hkw.size
     have s2 := hk5.size
     have s3 : (w5.drew.alloc (.cells L.toArray 42)).heap.size = w5.heap.size + 1 := by simp
     have s4 : w4.drew.heap.size = w4.heap.size := rfl
     omega
 · exact rangeAt_kept hb6.range ((Kept.refl (fun k => k = g) w6).set (p := ⟨g, 2, none⟩) (.inl rfl) _) (fun e => hgw e)

set_option maxRecDepth 100000 in
set_option maxHeartbeats 3000000 in
theorem offer_go (w : World) (g m0 m1 : Nat) (v : Value) (b : Bk) (o : Off) (h : BookAt w g m0 m1 v b) (hb : b.ok) (ho : o.ok) (hf : o.fair) :
  Calls Tryd.prog 11 #[.pointer (some ⟨g, 0, none⟩), .agg o.cells.toArray] w fun e w' => e = .returned (.int .i64 (offerE b o)) ∧ ∃ v', BookAt w' g m0 m1 v' (offerN b o) ∧ Kept (bset g m0 m1 v) w w' ∧ (∀ k, v'.ownBlock = some k → v.ownBlock = some k ∨ w.heap.size ≤ k) := by
 obtain ⟨va, vc, rfl⟩ : ∃ va vc, v = .slice va b.offers.length vc := by
  rcases h.row.2 with ⟨rfl, e⟩ | ⟨g', cap, cur, rfl, _⟩
  · exact ⟨none, 0, by rw [e]⟩
  · exact ⟨_, _, rfl⟩
 have hbox := Has.new w 42 o.cells.toArray
 have hk := (Kept.refl (fun _ => False) w).alloc (.cells o.cells.toArray 42)
 have hat := h.kept hk (fun _ _ h => h)
 obtain ⟨d0, d1, d2, d3⟩ := off_has hbox ho
 have HID := Lib.hid (off_id hbox)
 have HBOX := Lib.hid hbox
 have HAT := Lib.hid hat
 have HK := Lib.hid hk
 have HS := Lib.hid (fun w => side_yes w o.frm hf.1)
 have HIDH := Lib.hid ho.1
 have c2 : (w.alloc (.cells o.cells.toArray 42)).cell? ⟨g, 2, none⟩ = some (.slice va b.offers.length vc) := hat.obj.cell_is rfl
 have hlen := o.length ho
 have HOL := Lib.hid hlen
 have hszl : (Tryd.prog.info? 42).map (·.size) = some o.cells.length := by rw [hlen]; kernel_rfl
 obtain ⟨f0, f1, f2, f3, f4⟩ := hf
 have HSIDE := Lib.hid f0
 have hfr0 : (0 : Int) ≤ o.frm := by rcases f0 with e | e <;> rw [e] <;> decide
 have hfr1 : o.frm < 2 := by rcases f0 with e | e <;> rw [e] <;> decide
 obtain ⟨no, hno⟩ : ∃ n, n = o.no := ⟨_, rfl⟩
 obtain ⟨frm, hfrm⟩ : ∃ n, n = o.frm := ⟨_, rfl⟩
 obtain ⟨am, ham⟩ : ∃ n, n = o.am := ⟨_, rfl⟩
 obtain ⟨til, htil⟩ : ∃ n, n = o.til := ⟨_, rfl⟩
 obtain ⟨L, hL⟩ : ∃ A, A = o.cells := ⟨_, rfl⟩
 rw [← hno] at d0 f1
 rw [← hfrm] at d1 hfr0 hfr1 HS
 rw [← ham] at d2 f2
 rw [← htil] at d3 f3 f4
 rw [← hL] at hszl d0 d1 d2 d3 c2 HID HBOX HAT HK ⊢
 have HSZL := Lib.hid hszl
 have HL68 := Lib.hid (show L.length = 1 * 68 by rw [hL, hlen])
 have HL68' := Lib.hid (show L.length = 68 by rw [hL, hlen])
 have HL1 := Lib.hid (show ∀ u ∈ L, u.oneCell' = true by rw [hL]; exact off_one o)
 have HOLL := Lib.hid hL
 obtain ⟨ioff, hio, hio0, hio1, hio2⟩ := info_parts info_off
 have HNO := Lib.hid hno
 have HFRM := Lib.hid hfrm
 have HAM := Lib.hid ham
 have HTIL := Lib.hid htil
 have HL := Lib.hid hL
 have HOK := Lib.hid ho
 have HB := Lib.hid hb
 have HNN := Lib.hid hb.len
 have HBS := Lib.hid (show ¬ bset g m0 m1 (.slice va b.offers.length vc) w.heap.size from fun e => by have := h.lt _ e; omega)
 clear hszl hbox hk hat h hb ho hlen f0 hno hfrm ham htil hL
 have n1 : decide (no < 0) = false := decide_eq_false (by omega)
 have n2 : ((am : Int) == 0) = false := by simp; omega
 have n3 : decide (til < 0) = false := decide_eq_false (by omega)
 have n4 : decide (1073741824 < til) = false := decide_eq_false (by omega)
 go_enter Tryd.func11, Tryd.ntmps11
 go_upto_region 1 with (fail)
 generalize w.alloc (.cells L.toArray 42) = W at d0 d1 d2 d3 c2 HBOX HID HAT HK ⊢
 go_wp2_with fail
 refine (HS.out W).mono ?_
 rintro _ W8 ⟨rfl, e8⟩
 have e9 := e8.symm
 subst e9
 go_wp2
 clear n1 n2 n3 n4
 go_loopw [43, 5] (fun i c wr => ∃ k : Nat, k ≤ b.offers.length ∧ i = .int .i64 k ∧ c = .int .i64 (cntF (b.offers.take k) frm : Nat) ∧ Kept (fun _ => False) W wr) (fun i _ _ => b.offers.length - (intOf i).toNat)
 case atStart => exact ⟨0, by omega, rfl, rfl, Kept.refl _ _⟩
 case round =>
  obtain ⟨k, hk, rfl, rfl, hkr⟩ := hrel
  have HKR := Lib.hid hkr
  clear hkr
  by_cases hlt : k < b.offers.length
  · have hkb : k < 1000 := by have := HNN.out; omega
    obtain ⟨p, hp⟩ : ∃ p, b.offers[k]? = some p := ⟨_, List.getElem?_eq_getElem hlt⟩
    obtain ⟨go_, cap, hv, hBg, hgo, hrng⟩ := off_range HAT.out.row HB.out.off hp
    injection hv with hv1 hv2 hv3
    subst hv1 hv3
    have hpm := HB.out.off p (List.mem_of_getElem? hp)
    have hlen := Off.length p hpm
    have hrw := rangeAt_kept hrng HKR.out (fun h => h)
    have HRW := Lib.hid hrw
    have HP := Lib.hid hp
    have HPOK := Lib.hid hpm
    have sz33 : (Tryd.prog.info? 42).map (·.size) = some p.cells.length := by rw [hlen]; kernel_rfl
    have SZ33 := Lib.hid sz33
    obtain ⟨Z, hz, hzs, hzn⟩ := zero_off
    have HS33 := Lib.hid (show (Tryd.prog.info? 42).map (·.size) = some p.cells.toArray.size by rw [List.size_toArray]; exact SZ33.out)
    have HZZ := Lib.hid (show Z.size = p.cells.toArray.size by rw [hzs, List.size_toArray, hlen])
    have HONE := Lib.hid (show p.cells.toArray.all (·.oneCell') = true from all_oneCell_toArray (off_one p))
    have hnw : ∀ C, Has ((wr.alloc (.cells Z 42)).setRow wr.heap.size C) wr.heap.size 42 C ∧ Kept (fun _ => False) wr ((wr.alloc (.cells Z 42)).setRow wr.heap.size C) := fun C => by
      rw [World.setRow_alloc_new]
      exact ⟨Has.new wr _ _, (Kept.refl _ _).alloc _⟩
    have HNW := Lib.hid hnw
    clear hrw hrng hp sz33 hlen hv2 hnw hpm
    go_upto_region 7 with (first
      | (refine wpList_load_mid rfl 42 (.tmp 45) rfl go_ (k * 68) rfl p.cells _ (by rw [Nat.mul_comm]; exact HRW.out) Tryd.underlying42 rfl SZ33.out ?_)
      | (refine wpList_store_row rfl 42 (.tmp 7) (.tmp 46) rfl wr.heap.size p.cells.toArray rfl rfl 42 Z (heap_alloc_new wr _) HS33.out HZZ.out HONE.out ?_))
    obtain ⟨h3, hk3⟩ := HNW.out p.cells.toArray
    generalize (wr.alloc (.cells Z 42)).setRow wr.heap.size p.cells.toArray = w3 at h3 hk3 ⊢
    generalize wr.heap.size = G at h3 ⊢
    have x1 := (off_has h3 HPOK.out).2.1
    have x2 := cell_held (HKR.out.trans hk3) d1 (fun h => h)
    obtain ⟨pf, hpf⟩ : ∃ n, n = p.frm := ⟨_, rfl⟩
    rw [← hpf] at x1
    have HPF := Lib.hid hpf
    have HK3 := Lib.hid (HKR.out.trans hk3)
    have hstep := cntF_step b.offers frm k p HP.out
    rw [← hpf] at hstep
    have hcl := cntF_le b.offers frm k
    clear h3 hk3 hpf
    by_cases he : pf = frm
    · rw [if_pos he] at hstep
      have HSTEP := Lib.hid hstep
      subst he
      obtain ⟨c0, hc0⟩ : ∃ n, n = cntF (b.offers.take k) pf := ⟨_, rfl⟩
      rw [← hc0] at hcl HSTEP ⊢
      have HC0 := Lib.hid hc0
      clear hc0 hstep
      go_wp2
      go_roundw
      case rel => exact ⟨k + 1, by omega, by go_num, by rw [HSTEP.out]; go_num, HK3.out⟩
      case measure => simp [intOf]; omega
    · rw [if_neg he] at hstep
      have HSTEP := Lib.hid hstep
      clear hstep
      go_wp2
      go_roundw
      case rel => exact ⟨k + 1, by omega, by go_num, by rw [HSTEP.out], HK3.out⟩
      case measure => simp [intOf]; omega
  · have HE := Lib.hid (show k = b.offers.length by omega)
    have hatr := HAT.out.kept HKR.out (fun _ _ h => h)
    obtain ⟨m, c, hm, hmm⟩ := hatr.sided o.frm HSIDE.out
    rw [← HFRM.out] at c
    have e0 := cell_held HKR.out d0 (fun h => h)
    have e1 := cell_held HKR.out d1 (fun h => h)
    have e34 := cell_held HKR.out d2 (fun h => h)
    have hri := rangeAt_kept HID.out HKR.out (fun h => h)
    have q := lookup_is (T := 68) Tryd.underlying68 zero_u64 hm.drew HIDH.out
    rw [look_num (HB.out.side o.frm)] at q
    have hxl := look_low (HB.out.side o.frm) o.id
    obtain ⟨x, hx⟩ : ∃ x, x = numOf (look (b.side o.frm) o.id) := ⟨_, rfl⟩
    rw [← hx] at q hxl
    obtain ⟨l, e, hsub, hs1, hs2⟩ := sub_is wr.drew x am hxl
    have hfind := find_is wr.drew g m0 m1 _ b frm no (hatr.kept ((Kept.refl (fun _ => False) wr).drew) (fun _ _ h => h)) HB.out
    have hu30 := hash_under
    have szi : (Tryd.prog.info? 39).map (·.size) = some (bcells o.id).length := by rw [bcells_length, HIDH.out.1]; kernel_rfl
    have hrd : wr.drew.rangeAt w.heap.size 2 (bcells o.id) := hri
    unfold arr at q
    obtain ⟨I, hI⟩ : ∃ I, I = bcells o.id := ⟨_, rfl⟩
    rw [← hI] at q szi hrd
    have HI := Lib.hid hI
    have HX := Lib.hid hx
    have HSUB := Lib.hid hsub
    have HS1 := Lib.hid hs1
    have HS2 := Lib.hid hs2
    have HFIND := Lib.hid hfind
    have HATR := Lib.hid hatr
    have HM := Lib.hid hm
    have HMM := Lib.hid hmm
    clear hI hx hsub hs1 hs2 hfind hatr hm hmm hri
    go_upto_region 10 with (fail)
    go_region_held3 (fun w' => w'.cell? ⟨w.heap.size, 1, none⟩ = some (.int .i64 frm) ∧ w'.cell? ⟨w.heap.size, 34, none⟩ = some (.int .u64 (am : Int)) ∧ w'.cell? ⟨g, frm.toNat, none⟩ = some (.map (some m)) ∧ w'.rangeAt w.heap.size 2 I) (first | exact ⟨e1, e34, c, hrd⟩) (first | (go_at_call 34; refine HSUB.out.mono ?_; rintro _ _ ⟨rfl, rfl⟩))
    go_wp2_with fail
    refine HFIND.out.mono ?_
    rintro _ w4 ⟨rfl, hb4⟩
    have hk4 : Kept (fun _ => False) wr w4 := (Kept.of_below hb4).undrew
    have hatw := HATR.out.kept hk4 (fun _ _ h => h)
    have HK4 := Lib.hid hk4
    have HATW := Lib.hid hatw
    have e0 := cell_held hk4 e0 (fun h => h)
    have e1 := cell_held hk4 e1 (fun h => h)
    have e34 := cell_held hk4 e34 (fun h => h)
    have hri := rangeAt_kept (show wr.rangeAt w.heap.size 2 I from hrd) hk4 (fun h => h)
    have hbx4 : Has w4 w.heap.size 42 L.toArray := (HBOX.out.kept HKR.out (fun h => h)).kept hk4 (fun h => h)
    have HBX4 := Lib.hid hbx4
    have hkw : Kept (fun _ => False) w w4 := (HK.out.trans HKR.out).trans hk4
    have HKW := Lib.hid hkw
    have hEq : offerE b o = if 0 ≤ findI b.offers frm no then 6 else if 30 ≤ cntF (b.offers.take k) frm then 50 else if x < am ∨ (o.id = List.replicate 32 0 ∧ x - am < b.keep frm) then 51 else 0 := by
      unfold offerE Bk.has
      rw [HE.out, List.take_length, ← HFRM.out, ← HNO.out, ← HAM.out, HX.out, ← HFRM.out]
    obtain ⟨fi, hfi⟩ : ∃ n, n = findI b.offers frm no := ⟨_, rfl⟩
    obtain ⟨cn, hcn⟩ : ∃ n, n = cntF (b.offers.take k) frm := ⟨_, rfl⟩
    obtain ⟨kp, hkp⟩ : ∃ n, n = b.keep frm := ⟨_, rfl⟩
    rw [← hfi, ← hcn, ← hkp] at hEq
    rw [← hfi, ← hcn]
    have HEQ := Lib.hid hEq
    have HKP := Lib.hid hkp
    clear hbx4 hEq hfi hcn hkp hkw hatw hk4 hb4 q hrd HSUB HFIND HK HKR HATR HAT HBOX HID d0 d1 d2 d3 c2 c
    by_cases g1 : 0 ≤ fi
    · have HR := Lib.hid (show offerE b o = 6 by rw [HEQ.out, if_pos g1])
      go_wp2
      go_ret
      exact ⟨by rw [HR.out]; rfl, _, by rw [offerN, if_neg (by rw [HR.out]; decide)]; exact HATW.out, HKW.out.mono (fun _ _ h => h.elim), fun _ hk => .inl hk⟩
    · by_cases g2 : 30 ≤ cn
      · have HR := Lib.hid (show offerE b o = 50 by rw [HEQ.out, if_neg g1, if_pos g2])
        go_wp2
        go_ret
        exact ⟨by rw [HR.out]; rfl, _, by rw [offerN, if_neg (by rw [HR.out]; decide)]; exact HATW.out, HKW.out.mono (fun _ _ h => h.elim), fun _ hk => .inl hk⟩
      · have HEQ2 := Lib.hid (show offerE b o = if x < am ∨ (o.id = List.replicate 32 0 ∧ x - am < kp) then 51 else 0 by rw [HEQ.out, if_neg g1, if_neg g2])
        clear HEQ
        by_cases g3 : x < am
        · have he : e = 11 := HS2.out g3
          have HR := Lib.hid (show offerE b o = 51 by rw [HEQ2.out, if_pos (Or.inl g3)])
          subst he
          clear HS1 HS2 HEQ2
          go_upto_region 16 with (fail)
          go_quiet (fail)
          go_wp2
          go_ret
          exact ⟨by rw [HR.out]; rfl, _, by rw [offerN, if_neg (by rw [HR.out]; decide)]; exact HATW.out.kept ((Kept.refl (fun _ => False) w4).drewN _) (fun _ _ h => h), (HKW.out.mono (fun _ _ h => h.elim)).drewN _, fun _ hk => .inl hk⟩
        · obtain ⟨hl, he⟩ := HS1.out (by omega)
          have HLL := Lib.hid hl
          have HLX := Lib.hid (show l = b.has o.frm o.id - o.am by rw [hl, HX.out, HAM.out]; rfl)
          have HEQ3 := Lib.hid (show offerE b o = if o.id = List.replicate 32 0 ∧ l < kp then 51 else 0 by
            rw [HEQ2.out, hl]
            by_cases hz : o.id = List.replicate 32 0 ∧ x - am < kp
            · rw [if_pos (Or.inr hz), if_pos hz]
            · rw [if_neg (fun h => h.elim g3 hz), if_neg hz])
          subst he
          clear HS1 HS2 HEQ2 hl
          have heq := fun w => hash_zero o.id HIDH.out w
          rw [← HI.out] at heq
          have ekp : w4.cell? ⟨g, 3 + frm.toNat, none⟩ = some (.int .u64 (kp : Int)) := by
            have hfs := HSIDE.out
            have hkp := HKP.out
            rw [← HFRM.out] at hfs
            rcases hfs with e | e
            · rw [e] at hkp ⊢; rw [hkp]; exact HATW.out.obj.cell_is rfl
            · rw [e] at hkp ⊢; rw [hkp]; exact HATW.out.obj.cell_is rfl
          have hset := set_is w4.drew g m0 m1 (.slice va b.offers.length vc) b frm o.id l (HATW.out.kept ((Kept.refl (fun _ => False) w4).drew) (fun _ _ h => h)) HIDH.out (by rw [HFRM.out]; exact HSIDE.out)
          unfold arr at hset
          rw [← HI.out] at hset
          have HSET := Lib.hid hset
          clear hset
          by_cases hz : o.id = List.replicate 32 0
          · have hdec : decide (o.id = List.replicate 32 0) = true := decide_eq_true hz
            rw [hdec] at heq
            have HZ := Lib.hid hz
            clear hz hdec
            by_cases g4 : l < kp
            · have HR := Lib.hid (show offerE b o = 51 by rw [HEQ3.out, if_pos ⟨HZ.out, g4⟩])
              go_upto_region 16 with (fail)
              go_region_held3 (fun w' => w'.cell? ⟨w.heap.size, 1, none⟩ = some (.int .i64 frm) ∧ w'.cell? ⟨g, 3 + frm.toNat, none⟩ = some (.int .u64 (kp : Int)) ∧ w'.rangeAt w.heap.size 2 I) (first | exact ⟨e1, ekp, hri⟩) (fail)
              go_wp2
              go_ret
              exact ⟨by rw [HR.out]; rfl, _, by rw [offerN, if_neg (by rw [HR.out]; decide)]; exact HATW.out.kept ((Kept.refl (fun _ => False) w4).drewN _) (fun _ _ h => h), (HKW.out.mono (fun _ _ h => h.elim)).drewN _, fun _ hk => .inl hk⟩
            · have HR := Lib.hid (show offerE b o = 0 by rw [HEQ3.out, if_neg (fun h => g4 h.2)])
              go_upto_region 16 with (fail)
              go_region_held3 (fun w' => w'.cell? ⟨w.heap.size, 1, none⟩ = some (.int .i64 frm) ∧ w'.cell? ⟨g, 3 + frm.toNat, none⟩ = some (.int .u64 (kp : Int)) ∧ w'.rangeAt w.heap.size 2 I) (first | exact ⟨e1, ekp, hri⟩) (fail)
              go_wp2_with (refine wpList_load_mid rfl 39 (.tmp 74) rfl w.heap.size 2 rfl I _ (show w4.rangeAt w.heap.size 2 I from hri) Tryd.underlying39 rfl szi ?_)
              refine HSET.out.mono ?_
              rintro _ w5 ⟨rfl, hat5, hk5⟩
              have hbx5 := (HBX4.out.drew).kept hk5 HBS.out
              have r5 : w5.drew.rangeAt w.heap.size 0 L := hbx5.drew.range
              have r5a : (w5.drew.alloc (.cells L.toArray 42)).rangeAt w.heap.size 0 L := rangeAt_kept r5 ((Kept.refl (fun _ => False) w5.drew).alloc _) (fun h => h)
              have c5 : w5.cell? ⟨g, 2, none⟩ = some (.slice va b.offers.length vc) := hat5.obj.cell_is rfl
              have c5a : (w5.alloc (.cells L.toArray 42)).cell? ⟨g, 2, none⟩ = some (.slice va b.offers.length vc) := by rw [World.cell?_alloc_lt _ _ _ (World.block_lt_of_cell? _ _ c5)]; exact c5
              have hown5 : (w5.drew.alloc (.cells L.toArray 42)).ownsRow 0 42 68 (.slice va b.offers.length vc) b.offers.length (b.offers.flatMap Off.cells) := own_kept (put_offers b frm _ ▸ hat5.row) ((Kept.refl (fun _ => False) w5).drew.alloc _) (fun _ _ h => h)
              have hfin := fun g6 cap6 w6 => offer_fin (w6 := w6) (g6 := g6) (cap6 := cap6) HKW.out hat5 hk5 HBS.out hbx5 HOLL.out HR.out HFRM.out HLX.out
              have HOWN5 := Lib.hid hown5
              have HFIN := Lib.hid hfin
              clear hown5 hfin hat5 hk5 hbx5
              go_upto_region 18 with (fail)
              refine wp_region_noPanic ?_
              refine wp_region_held_drew (S := fun w' => w'.rangeAt w.heap.size 0 L) (by kernel_rfl) r5 (fun hH => ?_)
              refine tk 0 (v := (.pointer (some ⟨g, 0, none⟩))) rfl (Or.inl ⟨by rfl, by intro w' hS; go_simp⟩) hH ?_
              simp only [Act.put, List.setIfInBounds_toArray, List.set_cons_zero, List.set_cons_succ]
              refine tk 1 (v := (.pointer (some ⟨g, 0, none⟩))) rfl (Or.inl ⟨by rfl, by intro w' hS; go_simp⟩) hH ?_
              simp only [Act.put, List.setIfInBounds_toArray, List.set_cons_zero, List.set_cons_succ]
              refine tk 2 (v := (.pointer (some ⟨g, 0, none⟩))) rfl (Or.inl ⟨by rfl, by intro w' hS; go_simp⟩) hH ?_
              simp only [Act.put, List.setIfInBounds_toArray, List.set_cons_zero, List.set_cons_succ]
              refine tk 3 (v := (.pointer (some ⟨g, 2, none⟩))) rfl (Or.inl ⟨by rfl, by intro w' hS; go_simp⟩) hH ?_
              simp only [Act.put, List.setIfInBounds_toArray, List.set_cons_zero, List.set_cons_succ]
              refine tk 5 (v := (.agg L.toArray)) rfl (yieldsIf_load_mid (by rfl) 42 (.tmp 3) rfl w.heap.size 0 rfl L _ (fun w' h => h) Tryd.underlying42 rfl HSZL.out) hH ?_
              simp only [Act.put, List.setIfInBounds_toArray, List.set_cons_zero, List.set_cons_succ]
              refine wpAnyH_ready (rs := [4, 6]) (by kernel_rfl) (by simp) ?_
              refine AllReadyH.cons rfl (fun K hK => ?_) (AllReadyH.cons rfl (fun K hK => ?_) AllReadyH.nil)
              · go_simp
                refine Shut.out hK _ _ r5 (fun hH2 => ?_)
                clear hK K
                refine wpAnyH_ready (rs := [6]) (by kernel_rfl) (by simp) ?_
                refine AllReadyH.cons rfl (fun K hK => ?_) AllReadyH.nil
                refine step_build1 rfl 61 42 (.tmp 114) rfl ioff _ Tryd.underlying61 hio hio0 L (by rw [hio1, HL68'.out]) (by rw [HL68'.out]; kernel_rfl) (by rw [HL68'.out]; decide) (by rw [HL68'.out]; decide) rfl ?_
                refine Shut.out hK _ _ r5a (fun hH3 => ?_)
                clear hK K
                refine wpAnyH_ready (rs := [7]) (by kernel_rfl) (by simp) ?_
                refine AllReadyH.cons rfl (fun K hK => ?_) AllReadyH.nil
                refine step_append_lies _ rfl (.tmp 113) (.tmp 115) 61 rfl 0 42 ioff _ 68 96 Tryd.underlying61 hio hio0 hio1 hio2 (by kernel_rfl) (by decide) _ b.offers.length _ rfl HOWN5.out ⟨w5.heap.size, 0, none⟩ 1 1 L rfl HL68.out (World.news_of_block (cs := L.toArray) (heap_alloc_new _ _)) HL1.out (by decide) (by have := HNN.out; unfold maxLen; omega) (by have := HNN.out; omega) (Nat.zero_le _) _ rfl ?_
                intro g6 cap6 w6 hown6 hgr6 hat6 hlt6
                obtain ⟨hfin, c6, fz6, r6, r7⟩ := HFIN.out g6 cap6 w6 hown6 hgr6 hat6
                have HF := Lib.hid hfin
                clear hown6 hgr6 hat6 hlt6 hfin
                refine Shut.out hK _ _ r6 (fun hH4 => ?_)
                clear hK K
                refine tk 8 (v := (.pointer (some ⟨g, 0, none⟩))) rfl (Or.inl ⟨by rfl, by intro w' hS; go_simp⟩) hH4 ?_
                simp only [Act.put, List.setIfInBounds_toArray, List.set_cons_zero, List.set_cons_succ]
                refine tk 9 (v := (.pointer (some ⟨g, 2, none⟩))) rfl (Or.inl ⟨by rfl, by intro w' hS; go_simp⟩) hH4 ?_
                simp only [Act.put, List.setIfInBounds_toArray, List.set_cons_zero, List.set_cons_succ]
                refine wpAnyH_ready (rs := [10]) (by kernel_rfl) (by simp) ?_
                refine AllReadyH.cons rfl (fun K hK => ?_) AllReadyH.nil
                go_simp
                refine Shut.out hK _ _ r7 (fun _ => ?_)
                clear hK K
                refine wpAnyH_done (by kernel_rfl) ?_ _
                refine NoPanic.normal ?_
                go_wp2
                go_ret
                exact ⟨by rw [HR.out]; rfl, HF.out⟩
              · refine step_build1 rfl 61 42 (.tmp 114) rfl ioff _ Tryd.underlying61 hio hio0 L (by rw [hio1, HL68'.out]) (by rw [HL68'.out]; kernel_rfl) (by rw [HL68'.out]; decide) (by rw [HL68'.out]; decide) rfl ?_
                refine Shut.out hK _ _ r5a (fun hH3 => ?_)
                clear hK K
                refine wpAnyH_ready (rs := [4]) (by kernel_rfl) (by simp) ?_
                refine AllReadyH.cons rfl (fun K hK => ?_) AllReadyH.nil
                go_simp
                refine Shut.out hK _ _ r5a (fun hH2 => ?_)
                clear hK K
                refine wpAnyH_ready (rs := [7]) (by kernel_rfl) (by simp) ?_
                refine AllReadyH.cons rfl (fun K hK => ?_) AllReadyH.nil
                refine step_append_lies _ rfl (.tmp 113) (.tmp 115) 61 rfl 0 42 ioff _ 68 96 Tryd.underlying61 hio hio0 hio1 hio2 (by kernel_rfl) (by decide) _ b.offers.length _ rfl HOWN5.out ⟨w5.heap.size, 0, none⟩ 1 1 L rfl HL68.out (World.news_of_block (cs := L.toArray) (heap_alloc_new _ _)) HL1.out (by decide) (by have := HNN.out; unfold maxLen; omega) (by have := HNN.out; omega) (Nat.zero_le _) _ rfl ?_
                intro g6 cap6 w6 hown6 hgr6 hat6 hlt6
                obtain ⟨hfin, c6, fz6, r6, r7⟩ := HFIN.out g6 cap6 w6 hown6 hgr6 hat6
                have HF := Lib.hid hfin
                clear hown6 hgr6 hat6 hlt6 hfin
                refine Shut.out hK _ _ r6 (fun hH4 => ?_)
                clear hK K
                refine tk 8 (v := (.pointer (some ⟨g, 0, none⟩))) rfl (Or.inl ⟨by rfl, by intro w' hS; go_simp⟩) hH4 ?_
                simp only [Act.put, List.setIfInBounds_toArray, List.set_cons_zero, List.set_cons_succ]
                refine tk 9 (v := (.pointer (some ⟨g, 2, none⟩))) rfl (Or.inl ⟨by rfl, by intro w' hS; go_simp⟩) hH4 ?_
                simp only [Act.put, List.setIfInBounds_toArray, List.set_cons_zero, List.set_cons_succ]
                refine wpAnyH_ready (rs := [10]) (by kernel_rfl) (by simp) ?_
                refine AllReadyH.cons rfl (fun K hK => ?_) AllReadyH.nil
                go_simp
                refine Shut.out hK _ _ r7 (fun _ => ?_)
                clear hK K
                refine wpAnyH_done (by kernel_rfl) ?_ _
                refine NoPanic.normal ?_
                go_wp2
                go_ret
                exact ⟨by rw [HR.out]; rfl, HF.out⟩
          · have HR := Lib.hid (show offerE b o = 0 by rw [HEQ3.out, if_neg (fun h => hz h.1)])
            have hdec : decide (o.id = List.replicate 32 0) = false := decide_eq_false hz
            rw [hdec] at heq
            clear hz hdec
            go_upto_region 16 with (fail)
            refine wp_region_still_lit (by kernel_rfl) (by kernel_rfl) ?_
            still_step
            still_step
            still_step
            still_step
            refine still_load_mid 39 (.tmp 93) rfl (by rfl) w.heap.size 2 rfl I _ (show w4.drew.rangeAt w.heap.size 2 I from hri) Tryd.underlying39 rfl szi ?_
            still_step
            still_step
            refine Boxed.out ?_
            refine stillH_move (.tmp 96) rfl (by rfl) (.bool false) (by rfl) ?_
            simp only [Act.put, List.setIfInBounds_toArray, List.set_cons_zero, List.set_cons_succ]
            refine stillH_skip (by rfl) ?_
            simp only [Act.put, List.setIfInBounds_toArray, List.set_cons_zero, List.set_cons_succ]
            refine stillH_skip (by rfl) ?_
            simp only [Act.put, List.setIfInBounds_toArray, List.set_cons_zero, List.set_cons_succ]
            refine stillH_skip (by rfl) ?_
            simp only [Act.put, List.setIfInBounds_toArray, List.set_cons_zero, List.set_cons_succ]
            refine stillH_skip (by rfl) ?_
            simp only [Act.put, List.setIfInBounds_toArray, List.set_cons_zero, List.set_cons_succ]
            refine stillH_skip (by rfl) ?_
            simp only [Act.put, List.setIfInBounds_toArray, List.set_cons_zero, List.set_cons_succ]
            refine stillH_skip (by rfl) ?_
            simp only [Act.put, List.setIfInBounds_toArray, List.set_cons_zero, List.set_cons_succ]
            refine stillH_skip (by rfl) ?_
            simp only [Act.put, List.setIfInBounds_toArray, List.set_cons_zero, List.set_cons_succ]
            refine stillH_skip (by rfl) ?_
            simp only [Act.put, List.setIfInBounds_toArray, List.set_cons_zero, List.set_cons_succ]
            refine stillH_skip (by rfl) ?_
            simp only [Act.put, List.setIfInBounds_toArray, List.set_cons_zero, List.set_cons_succ]
            refine stillH_pick (.tmp 97) (.tmp 106) (.const (.bool false)) rfl (by rfl) false (by rfl) (.bool false) (by rfl) ?_
            simp only [Act.put, List.setIfInBounds_toArray, List.set_cons_zero, List.set_cons_succ]
            refine stillH_pick (.tmp 92) (.const (.bool true)) (.tmp 107) rfl (by rfl) false (by rfl) (.bool false) (by rfl) ?_
            simp only [Act.put, List.setIfInBounds_toArray, List.set_cons_zero, List.set_cons_succ]
            refine stillH_assign (.tmp 108) rfl (by rfl) (.bool false) (by rfl) ?_
            simp only [Act.put, List.setIfInBounds_toArray, List.set_cons_zero, List.set_cons_succ]
            refine stillH_nil ?_
            change Exit.then _ _ _ _ w4.drew
            go_wp2_with (refine wpList_load_mid rfl 39 (.tmp 74) rfl w.heap.size 2 rfl I _ (show w4.rangeAt w.heap.size 2 I from hri) Tryd.underlying39 rfl szi ?_)
            refine HSET.out.mono ?_
            rintro _ w5 ⟨rfl, hat5, hk5⟩
            have hbx5 := (HBX4.out.drew).kept hk5 HBS.out
            have r5 : w5.drew.rangeAt w.heap.size 0 L := hbx5.drew.range
            have r5a : (w5.drew.alloc (.cells L.toArray 42)).rangeAt w.heap.size 0 L := rangeAt_kept r5 ((Kept.refl (fun _ => False) w5.drew).alloc _) (fun h => h)
            have c5 : w5.cell? ⟨g, 2, none⟩ = some (.slice va b.offers.length vc) := hat5.obj.cell_is rfl
            have c5a : (w5.alloc (.cells L.toArray 42)).cell? ⟨g, 2, none⟩ = some (.slice va b.offers.length vc) := by rw [World.cell?_alloc_lt _ _ _ (World.block_lt_of_cell? _ _ c5)]; exact c5
            have hown5 : (w5.drew.alloc (.cells L.toArray 42)).ownsRow 0 42 68 (.slice va b.offers.length vc) b.offers.length (b.offers.flatMap Off.cells) := own_kept (put_offers b frm _ ▸ hat5.row) ((Kept.refl (fun _ => False) w5).drew.alloc _) (fun _ _ h => h)
            have hfin := fun g6 cap6 w6 => offer_fin (w6 := w6) (g6 := g6) (cap6 := cap6) HKW.out hat5 hk5 HBS.out hbx5 HOLL.out HR.out HFRM.out HLX.out
            have HOWN5 := Lib.hid hown5
            have HFIN := Lib.hid hfin
            clear hown5 hfin hat5 hk5 hbx5
            go_upto_region 18 with (fail)
            refine wp_region_noPanic ?_
            refine wp_region_held_drew (S := fun w' => w'.rangeAt w.heap.size 0 L) (by kernel_rfl) r5 (fun hH => ?_)
            refine tk 0 (v := (.pointer (some ⟨g, 0, none⟩))) rfl (Or.inl ⟨by rfl, by intro w' hS; go_simp⟩) hH ?_
            simp only [Act.put, List.setIfInBounds_toArray, List.set_cons_zero, List.set_cons_succ]
            refine tk 1 (v := (.pointer (some ⟨g, 0, none⟩))) rfl (Or.inl ⟨by rfl, by intro w' hS; go_simp⟩) hH ?_
            simp only [Act.put, List.setIfInBounds_toArray, List.set_cons_zero, List.set_cons_succ]
            refine tk 2 (v := (.pointer (some ⟨g, 0, none⟩))) rfl (Or.inl ⟨by rfl, by intro w' hS; go_simp⟩) hH ?_
            simp only [Act.put, List.setIfInBounds_toArray, List.set_cons_zero, List.set_cons_succ]
            refine tk 3 (v := (.pointer (some ⟨g, 2, none⟩))) rfl (Or.inl ⟨by rfl, by intro w' hS; go_simp⟩) hH ?_
            simp only [Act.put, List.setIfInBounds_toArray, List.set_cons_zero, List.set_cons_succ]
            refine tk 5 (v := (.agg L.toArray)) rfl (yieldsIf_load_mid (by rfl) 42 (.tmp 3) rfl w.heap.size 0 rfl L _ (fun w' h => h) Tryd.underlying42 rfl HSZL.out) hH ?_
            simp only [Act.put, List.setIfInBounds_toArray, List.set_cons_zero, List.set_cons_succ]
            refine wpAnyH_ready (rs := [4, 6]) (by kernel_rfl) (by simp) ?_
            refine AllReadyH.cons rfl (fun K hK => ?_) (AllReadyH.cons rfl (fun K hK => ?_) AllReadyH.nil)
            · go_simp
              refine Shut.out hK _ _ r5 (fun hH2 => ?_)
              clear hK K
              refine wpAnyH_ready (rs := [6]) (by kernel_rfl) (by simp) ?_
              refine AllReadyH.cons rfl (fun K hK => ?_) AllReadyH.nil
              refine step_build1 rfl 61 42 (.tmp 114) rfl ioff _ Tryd.underlying61 hio hio0 L (by rw [hio1, HL68'.out]) (by rw [HL68'.out]; kernel_rfl) (by rw [HL68'.out]; decide) (by rw [HL68'.out]; decide) rfl ?_
              refine Shut.out hK _ _ r5a (fun hH3 => ?_)
              clear hK K
              refine wpAnyH_ready (rs := [7]) (by kernel_rfl) (by simp) ?_
              refine AllReadyH.cons rfl (fun K hK => ?_) AllReadyH.nil
              refine step_append_lies _ rfl (.tmp 113) (.tmp 115) 61 rfl 0 42 ioff _ 68 96 Tryd.underlying61 hio hio0 hio1 hio2 (by kernel_rfl) (by decide) _ b.offers.length _ rfl HOWN5.out ⟨w5.heap.size, 0, none⟩ 1 1 L rfl HL68.out (World.news_of_block (cs := L.toArray) (heap_alloc_new _ _)) HL1.out (by decide) (by have := HNN.out; unfold maxLen; omega) (by have := HNN.out; omega) (Nat.zero_le _) _ rfl ?_
              intro g6 cap6 w6 hown6 hgr6 hat6 hlt6
              obtain ⟨hfin, c6, fz6, r6, r7⟩ := HFIN.out g6 cap6 w6 hown6 hgr6 hat6
              have HF := Lib.hid hfin
              clear hown6 hgr6 hat6 hlt6 hfin
              refine Shut.out hK _ _ r6 (fun hH4 => ?_)
              clear hK K
              refine tk 8 (v := (.pointer (some ⟨g, 0, none⟩))) rfl (Or.inl ⟨by rfl, by intro w' hS; go_simp⟩) hH4 ?_
              simp only [Act.put, List.setIfInBounds_toArray, List.set_cons_zero, List.set_cons_succ]
              refine tk 9 (v := (.pointer (some ⟨g, 2, none⟩))) rfl (Or.inl ⟨by rfl, by intro w' hS; go_simp⟩) hH4 ?_
              simp only [Act.put, List.setIfInBounds_toArray, List.set_cons_zero, List.set_cons_succ]
              refine wpAnyH_ready (rs := [10]) (by kernel_rfl) (by simp) ?_
              refine AllReadyH.cons rfl (fun K hK => ?_) AllReadyH.nil
              go_simp
              refine Shut.out hK _ _ r7 (fun _ => ?_)
              clear hK K
              refine wpAnyH_done (by kernel_rfl) ?_ _
              refine NoPanic.normal ?_
              go_wp2
              go_ret
              exact ⟨by rw [HR.out]; rfl, HF.out⟩
            · refine step_build1 rfl 61 42 (.tmp 114) rfl ioff _ Tryd.underlying61 hio hio0 L (by rw [hio1, HL68'.out]) (by rw [HL68'.out]; kernel_rfl) (by rw [HL68'.out]; decide) (by rw [HL68'.out]; decide) rfl ?_
              refine Shut.out hK _ _ r5a (fun hH3 => ?_)
              clear hK K
              refine wpAnyH_ready (rs := [4]) (by kernel_rfl) (by simp) ?_
              refine AllReadyH.cons rfl (fun K hK => ?_) AllReadyH.nil
              go_simp
              refine Shut.out hK _ _ r5a (fun hH2 => ?_)
              clear hK K
              refine wpAnyH_ready (rs := [7]) (by kernel_rfl) (by simp) ?_
              refine AllReadyH.cons rfl (fun K hK => ?_) AllReadyH.nil
              refine step_append_lies _ rfl (.tmp 113) (.tmp 115) 61 rfl 0 42 ioff _ 68 96 Tryd.underlying61 hio hio0 hio1 hio2 (by kernel_rfl) (by decide) _ b.offers.length _ rfl HOWN5.out ⟨w5.heap.size, 0, none⟩ 1 1 L rfl HL68.out (World.news_of_block (cs := L.toArray) (heap_alloc_new _ _)) HL1.out (by decide) (by have := HNN.out; unfold maxLen; omega) (by have := HNN.out; omega) (Nat.zero_le _) _ rfl ?_
              intro g6 cap6 w6 hown6 hgr6 hat6 hlt6
              obtain ⟨hfin, c6, fz6, r6, r7⟩ := HFIN.out g6 cap6 w6 hown6 hgr6 hat6
              have HF := Lib.hid hfin
              clear hown6 hgr6 hat6 hlt6 hfin
              refine Shut.out hK _ _ r6 (fun hH4 => ?_)
              clear hK K
              refine tk 8 (v := (.pointer (some ⟨g, 0, none⟩))) rfl (Or.inl ⟨by rfl, by intro w' hS; go_simp⟩) hH4 ?_
              simp only [Act.put, List.setIfInBounds_toArray, List.set_cons_zero, List.set_cons_succ]
              refine tk 9 (v := (.pointer (some ⟨g, 2, none⟩))) rfl (Or.inl ⟨by rfl, by intro w' hS; go_simp⟩) hH4 ?_
              simp only [Act.put, List.setIfInBounds_toArray, List.set_cons_zero, List.set_cons_succ]
              refine wpAnyH_ready (rs := [10]) (by kernel_rfl) (by simp) ?_
              refine AllReadyH.cons rfl (fun K hK => ?_) AllReadyH.nil
              go_simp
              refine Shut.out hK _ _ r7 (fun _ => ?_)
              clear hK K
              refine wpAnyH_done (by kernel_rfl) ?_ _
              refine NoPanic.normal ?_
              go_wp2
              go_ret
              exact ⟨by rw [HR.out]; rfl, HF.out⟩
end Go.Proofs.YtcekammjpghjnaaDoor

