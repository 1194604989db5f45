/- The walk of commit's Encode. -/
import Derived.Test.YtknfbccbdiidjaaGreatDoorWs
import Derived.Test.YtknfbccbdiidjaaGreatDoorRCo10
import Derived.Test.YtknfbccbdiidjaaGreatDoorREnc1
import Derived.Test.YtknfbccbdiidjaaGreatDoorRLb3
namespace Go.Proofs.YtknfbccbdiidjaaGreatDoor
set_option linter.unusedVariables false
set_option linter.unusedSimpArgs false
open Go.ChangeShapes Go.WideShapes Go.ChangeAt Go.RowKit Go.Maps

def waysR (p q : Pf) : List Rec := [⟨0, pbytes p.b p.xs⟩, ⟨2, pbytes q.b q.xs⟩]
def waysM (p q : Pf) (a1 : Option Addr) (c1 : Nat) (a2 : Option Addr) (c2 : Nat) : List RecM := [⟨0, a1, pbytes p.b p.xs, c1⟩, ⟨2, a2, pbytes q.b q.xs, c2⟩]
theorem waysM_r (p q : Pf) (a1 : Option Addr) (c1 : Nat) (a2 : Option Addr) (c2 : Nat) : (waysM p q a1 c1 a2 c2).map RecM.r = waysR p q := rfl
theorem pbytes_length {p : Pf} {w : World} (h : p.At w) : (pbytes p.b p.xs).length = 32 + 40 * p.n := by
 rw [pbytes_len h.hash.1 _ (fun x hx => h.nodes.hash x hx), h.nodes.len]
theorem recs_two {w : World} {p q : Pf} (hp : p.At w) (hq : q.At w) {R : Nat} {a1 a2 : Option Addr} {c1 c2 : Nat} (hr : Has w R 139 ((waysM p q a1 c1 a2 c2).flatMap RecM.cells).toArray)
   (h0 : Bytes w w.heap.size (.slice a1 (pbytes p.b p.xs).length c1) (pbytes p.b p.xs)) (h1 : Bytes w w.heap.size (.slice a2 (pbytes q.b q.xs).length c2) (pbytes q.b q.xs)) (hn : p.n ≤ 100000) (hm : q.n ≤ 100000) : RecsAt w (some ⟨R, 0, none⟩) 2 (waysM p q a1 c1 a2 c2) := by
 refine ⟨rows_has (xs := waysM p q a1 c1 a2 c2) hr (fun x _ => rfl), fun x hx => ?_⟩
 have e1 := pbytes_length hp
 have e2 := pbytes_length hq
 simp only [waysM, List.mem_cons, List.not_mem_nil, or_false] at hx
 rcases hx with rfl | rfl
 · exact ⟨by dsimp only; omega, by dsimp only; omega, h0⟩
 · exact ⟨by dsimp only; omega, by dsimp only; omega, h1⟩
theorem waysM_cells {p q : Pf} {a1 a2 : Option Addr} {c1 c2 KP KQ : Nat} (h1 : (pbytes p.b p.xs).length = KP) (h2 : (pbytes q.b q.xs).length = KQ) : [Value.int .u64 0, .slice a1 KP c1, .int .u64 2, .slice a2 KQ c2] = (waysM p q a1 c1 a2 c2).flatMap RecM.cells := by
 subst h1 h2
 rfl
set_option maxRecDepth 100000 in
set_option maxHeartbeats 8000000 in
theorem coEnc_is (w : World) (p q : Pf) (hp : p.At w) (hq : q.At w) (hpn : p.n ≤ 100000) (hqn : q.n ≤ 100000) (bs : List Nat) (hE : tvEnc (waysR p q) = .ok bs) :
  Calls Tryz.prog 39 #[.agg (waysC p q).toArray] w fun e w' => ∃ v', e = .returned (.tuple #[v', .int .i64 0]) ∧ BigW w.heap.size w bs v' w' := by
 obtain ⟨LW, hLW⟩ : ∃ L, L = waysC p q := ⟨_, rfl⟩
 obtain ⟨LP, hLP⟩ : ∃ L, L = p.cells := ⟨_, rfl⟩
 obtain ⟨LQ, hLQ⟩ : ∃ L, L = q.cells := ⟨_, rfl⟩
 obtain ⟨BP, hBP⟩ : ∃ L, L = pbytes p.b p.xs := ⟨_, rfl⟩
 obtain ⟨BQ, hBQ⟩ : ∃ L, L = pbytes q.b q.xs := ⟨_, rfl⟩
 obtain ⟨KP, hKP⟩ : ∃ n, n = 32 + 40 * p.n := ⟨_, rfl⟩
 obtain ⟨KQ, hKQ⟩ : ∃ n, n = 32 + 40 * q.n := ⟨_, rfl⟩
 rw [← hLW]
 have SZP := Lib.hid (show (Tryz.prog.info? 39).map (·.size) = some LP.length by rw [hLP, show p.cells.length = 33 from pcells_len hp.hash _ _ _]; kernel_rfl)
 have SZQ := Lib.hid (show (Tryz.prog.info? 39).map (·.size) = some LQ.length by rw [hLQ, show q.cells.length = 33 from pcells_len hq.hash _ _ _]; kernel_rfl)
 have HWR := Lib.hid (show ∀ (v : World) B, Has v B 41 LW.toArray → v.rangeAt B 0 LP ∧ v.rangeAt B 33 LQ from fun v B h => by rw [hLP, hLQ]; exact ways_at hp.hash (by rw [← hLW]; exact h))
 have L1 : BP.length = KP := by rw [hBP, pbytes_length hp, hKP]
 have L2 : BQ.length = KQ := by rw [hBQ, pbytes_length hq, hKQ]
 have HB1 := Lib.hid (show ∀ (v : World) (base : Nat) (oa : Option Addr) (oc : Nat), v.ownsRow base 5 1 (.slice oa KP oc) KP (bcells BP) → Bytes v v.heap.size (.slice oa KP oc) BP from fun v base oa oc ho => own_bytes ho L1 (by rw [hBP]; exact pbytes_lt hp.hash _ hp.nodes.hash) (Nat.le_refl _))
 have HB2 := Lib.hid (show ∀ (v : World) (base : Nat) (oa : Option Addr) (oc : Nat), v.ownsRow base 5 1 (.slice oa KQ oc) KQ (bcells BQ) → Bytes v v.heap.size (.slice oa KQ oc) BQ from fun v base oa oc ho => own_bytes ho L2 (by rw [hBQ]; exact pbytes_lt hq.hash _ hq.nodes.hash) (Nat.le_refl _))
 have HE1 := Lib.hid (show ∀ v, Below w.heap.size w v → Calls Tryz.prog 70 #[.agg LP.toArray] v fun e w' => ∃ oa oc, e = .returned (.slice oa KP oc) ∧ w'.ownsRow v.heap.size 5 1 (.slice oa KP oc) KP (bcells BP) ∧ Below v.heap.size v w' from fun v hv => by
  have h := encode_is v p.b hp.hash p.a p.n p.c p.xs (hp.below hv).nodes hpn
  rw [← hBP, ← hKP] at h
  rw [hLP]
  exact h)
 have HE2 := Lib.hid (show ∀ v, Below w.heap.size w v → Calls Tryz.prog 70 #[.agg LQ.toArray] v fun e w' => ∃ oa oc, e = .returned (.slice oa KQ oc) ∧ w'.ownsRow v.heap.size 5 1 (.slice oa KQ oc) KQ (bcells BQ) ∧ Below v.heap.size v w' from fun v hv => by
  have h := encode_is v q.b hq.hash q.a q.n q.c q.xs (hq.below hv).nodes hqn
  rw [← hBQ, ← hKQ] at h
  rw [hLQ]
  exact h)
 have HMC := Lib.hid (show ∀ (a1 a2 : Option Addr) (c1 c2 : Nat), [Value.int .u64 0, .slice a1 KP c1, .int .u64 2, .slice a2 KQ c2] = (waysM p q a1 c1 a2 c2).flatMap RecM.cells from fun a1 a2 c1 c2 => waysM_cells (by rw [← hBP]; exact L1) (by rw [← hBQ]; exact L2))
 have HTE := Lib.hid (show ∀ (v : World) (R : Nat) (a1 a2 : Option Addr) (c1 c2 : Nat), Below w.heap.size w v → Has v R 139 ((waysM p q a1 c1 a2 c2).flatMap RecM.cells).toArray → Bytes v v.heap.size (.slice a1 KP c1) BP → Bytes v v.heap.size (.slice a2 KQ c2) BQ →
   Calls Tryz.prog 69 #[.slice (some ⟨R, 0, none⟩) 2 2] v fun e w' => ∃ v', e = .returned (.tuple #[v', .int .i64 0]) ∧ BigW v.heap.size v bs v' w' from fun v R a1 a2 c1 c2 hv hr h1 h2 => by
  have h := tvEnc_is v (some ⟨R, 0, none⟩) 2 2 (waysM p q a1 c1 a2 c2) (recs_two (hp.below hv) (hq.below hv) hr (by rw [← hBP, L1]; exact h1) (by rw [← hBQ, L2]; exact h2) hpn hqn) (by decide)
  rw [waysM_r, hE] at h
  exact h)
 have HBX := Lib.hid (Has.new w 41 LW.toArray)
 have HBB := Lib.hid (show Below w.heap.size w (w.alloc (.cells LW.toArray 41)) from (Below.refl _ _).alloc (Nat.le_refl _) _)
 clear hE hp hq hpn hqn hLW hLP hLQ hBP hBQ hKP hKQ L1 L2
 obtain ⟨W1, hW1⟩ : ∃ y, y = w.alloc (.cells LW.toArray 41) := ⟨_, rfl⟩
 have EW := Lib.hid hW1
 clear hW1
 go_enter Tryz.func39, Tryz.ntmps39
 go_upto_region 1 with (fail)
 rw [← EW.out]
 have hbx := HBX.out
 have hbb := HBB.out
 rw [← EW.out] at hbx hbb
 obtain ⟨B, hB⟩ : ∃ b, b = w.heap.size := ⟨_, rfl⟩
 have EB := Lib.hid hB
 rw [← hB] at hbx hbb ⊢
 have hBW : B < W1.drew.heap.size := hbx.lt
 have hS0 : Has W1.drew B 41 LW.toArray ∧ Below B w W1.drew := ⟨hbx, below_drew hbb⟩
 have HE1' := Lib.hid (show ∀ v, Below B w v → _ from fun v hv => HE1.out v (by rw [← EB.out]; exact hv))
 have HE2' := Lib.hid (show ∀ v, Below B w v → _ from fun v hv => HE2.out v (by rw [← EB.out]; exact hv))
 have HTE' := Lib.hid (show ∀ v R a1 a2 c1 c2, Below B w v → _ from fun v R a1 a2 c1 c2 hv => HTE.out v R a1 a2 c1 c2 (by rw [← EB.out]; exact hv))
 clear hB hbx hbb HBX HBB EW
 refine wp_region_noPanic ?_
 refine wp_region_held_drew (S := (fun v => Has v B 41 LW.toArray ∧ Below B w v)) (by kernel_rfl) hS0 (fun hH0 => ?_)
 apply tk 0 (v := _) rfl (Or.inl ⟨by kernel_rfl, ?hv⟩) hH0 ?_
 case hv => intro w' hS; go_simp; try exact rfl
 simp only [Act.put, qa]
 refine tk 1 (v := (.agg LP.toArray)) rfl (yieldsIf_load_mid (by kernel_rfl) 39 (.tmp 4) rfl B 0 rfl LP _ (fun w' h => (HWR.out _ B h.1).1) Tryz.underlying39 rfl SZP.out) hH0 ?_
 simp only [Act.put, qa]
 apply tk 4 (v := _) rfl (Or.inl ⟨by kernel_rfl, ?hv⟩) hH0 ?_
 case hv => intro w' hS; go_simp; try exact rfl
 simp only [Act.put, qa]
 refine tk 5 (v := (.agg LQ.toArray)) rfl (yieldsIf_load_mid (by kernel_rfl) 39 (.tmp 8) rfl B 33 rfl LQ _ (fun w' h => (HWR.out _ B h.1).2) Tryz.underlying39 rfl SZQ.out) hH0 ?_
 simp only [Act.put, qa]
 refine wpAnyH_ready (rs := [2]) (by kernel_rfl) (by simp) ?_
 refine AllReadyH.cons rfl (fun KK hKK => ?_) AllReadyH.nil
 go_simp
 refine (HE1'.out W1.drew hH0.2).mono ?_
 rintro _ x2 ⟨oa2, oc2, rfl, ho2, hnx2⟩
 have hsx2 : Has x2 B 41 LW.toArray ∧ Below B w x2 := ⟨hH0.1.below hnx2 hH0.1.lt, hH0.2.trans (hnx2.mono (Nat.le_of_lt hBW))⟩
 try replace he6 := he6.alive hnx2 hnx2.size
 try replace hr2 := hr2.below hnx2 hr2.lt
 replace hBW : B < x2.heap.size := Nat.lt_of_lt_of_le hBW hnx2.size
 have he2 := HB1.out _ _ _ _ ho2
 clear ho2
 refine Shut.out hKK _ _ hsx2 (fun hH1 => ?_)
 clear hKK KK
 try simp only [Act.put, qa]
 apply tk 3 (v := _) rfl (Or.inl ⟨by kernel_rfl, ?hv⟩) hH1 ?_
 case hv => intro w' hS; go_simp; try exact rfl
 simp only [Act.put, qa]
 refine wpAnyH_ready (rs := [6]) (by kernel_rfl) (by simp) ?_
 refine AllReadyH.cons rfl (fun KK hKK => ?_) AllReadyH.nil
 go_simp
 refine (HE2'.out x2 hH1.2).mono ?_
 rintro _ x6 ⟨oa6, oc6, rfl, ho6, hnx6⟩
 have hsx6 : Has x6 B 41 LW.toArray ∧ Below B w x6 := ⟨hH1.1.below hnx6 hH1.1.lt, hH1.2.trans (hnx6.mono (Nat.le_of_lt hBW))⟩
 try replace he2 := he2.alive hnx6 hnx6.size
 try replace hr2 := hr2.below hnx6 hr2.lt
 replace hBW : B < x6.heap.size := Nat.lt_of_lt_of_le hBW hnx6.size
 have he6 := HB2.out _ _ _ _ ho6
 clear ho6
 refine Shut.out hKK _ _ hsx6 (fun hH2 => ?_)
 clear hKK KK
 try simp only [Act.put, qa]
 apply tk 7 (v := _) rfl (Or.inl ⟨by kernel_rfl, ?hv⟩) hH2 ?_
 case hv => intro w' hS; go_simp; try exact rfl
 simp only [Act.put, qa]
 refine wpAnyH_ready (rs := [8]) (by kernel_rfl) (by simp) ?_
 refine AllReadyH.cons rfl (fun KK hKK => ?_) AllReadyH.nil
 refine step_buildN rfl 136 139 2 _ rfl _ 2 32 Tryz.underlying136 info_rec [.tmp 7, .tmp 11] rfl [.agg #[.int .u64 0, .slice oa2 KP oc2], .agg #[.int .u64 2, .slice oa6 KQ oc6]] rfl (by simp [Value.cells]) rfl rfl (by decide) (by decide) (by decide) ?_
 change KK _ (x6.alloc (.cells [Value.int .u64 0, .slice oa2 KP oc2, .int .u64 2, .slice oa6 KQ oc6].toArray 139))
 rw [HMC.out]
 obtain ⟨x8, hx8⟩ : ∃ y, y = x6.alloc (.cells ((waysM p q oa2 oc2 oa6 oc6).flatMap RecM.cells).toArray 139) := ⟨_, rfl⟩
 first | rw [← hx8] | (change KK _ (x6.alloc (.cells ((waysM p q oa2 oc2 oa6 oc6).flatMap RecM.cells).toArray 139)); rw [← hx8])
 have hnx8 : Below x6.heap.size x6 x8 := by rw [hx8]; exact (Below.refl _ _).alloc (Nat.le_refl _) _
 have hr2 : Has x8 x6.heap.size 139 ((waysM p q oa2 oc2 oa6 oc6).flatMap RecM.cells).toArray := by rw [hx8]; exact Has.new _ _ _
 have hr2b : B < x6.heap.size := hBW
 obtain ⟨R, hR⟩ : ∃ g, g = x6.heap.size := ⟨_, rfl⟩
 first | rw [← hR] | (have hR2 : W1.heap.size = R := hR.symm; rw [hR2]) | skip
 rw [← hR] at hr2
 rw [← hR] at hr2b
 clear hR
 have hsx8 : Has x8 B 41 LW.toArray ∧ Below B w x8 := ⟨hH2.1.below hnx8 hH2.1.lt, hH2.2.trans (hnx8.mono (Nat.le_of_lt hBW))⟩
 try replace he2 := he2.alive hnx8 hnx8.size
 try replace he6 := he6.alive hnx8 hnx8.size
 replace hBW : B < x8.heap.size := Nat.lt_of_lt_of_le hBW hnx8.size
 clear hx8
 refine Shut.out hKK _ _ hsx8 (fun hH3 => ?_)
 clear hKK KK
 try simp only [Act.put, qa]
 refine wpAnyH_ready (rs := [9]) (by kernel_rfl) (by simp) ?_
 refine AllReadyH.cons rfl (fun KK hKK => ?_) AllReadyH.nil
 go_simp
 refine (HTE'.out x8 _ _ _ _ _ hH3.2 hr2 he2 he6).mono ?_
 rintro _ x9 ⟨v9, rfl, hbw⟩
 have hnx9 := hbw.bel
 have hlow9 : B ≤ x8.heap.size := Nat.le_of_lt hBW
 have hsx9 : Has x9 B 41 LW.toArray ∧ Below B w x9 := ⟨hH3.1.below hnx9 hH3.1.lt, hH3.2.trans (hnx9.mono (Nat.le_of_lt hBW))⟩
 replace hBW : B < x9.heap.size := Nat.lt_of_lt_of_le hBW hnx9.size
 refine Shut.out hKK _ _ hsx9 (fun hH4 => ?_)
 clear hKK KK
 try simp only [Act.put, qa]
 apply tk 10 (v := _) rfl (Or.inl ⟨by kernel_rfl, ?hv⟩) hH4 ?_
 case hv => intro w' hS; go_simp; try exact rfl
 simp only [Act.put, qa]
 apply tk 11 (v := _) rfl (Or.inl ⟨by kernel_rfl, ?hv⟩) hH4 ?_
 case hv => intro w' hS; go_simp; try exact rfl
 simp only [Act.put, qa]
 apply tk 12 (v := _) rfl (Or.inl ⟨by kernel_rfl, ?hv⟩) hH4 ?_
 case hv => intro w' hS; go_simp; try exact rfl
 simp only [Act.put, qa]
 apply tk 13 (v := _) rfl (Or.inl ⟨by kernel_rfl, ?hv⟩) hH4 ?_
 case hv => intro w' hS; go_simp; try exact rfl
 simp only [Act.put, qa]
 refine wpAnyH_done (by kernel_rfl) ?_ _
 refine NoPanic.normal ?_
 have HFN := Lib.hid (show BigW w.heap.size w bs v9 x9 from ⟨by obtain ⟨a, c, e, ho⟩ := hbw.own; exact ⟨a, c, e, own_base ho (by rw [← EB.out]; exact hlow9)⟩, by have := hsx9.2; rwa [EB.out] at this⟩)
 clear hbw hsx9 hsx8
 go_wp2_with fail
 go_ret2
 exact ⟨_, rfl, HFN.out⟩
end Go.Proofs.YtknfbccbdiidjaaGreatDoor

