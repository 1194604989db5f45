/- The walk of commit's Encode. -/
import Derived.Test.YtknfbccbdiidjaaGreatDoorWu
import Derived.Test.YtknfbccbdiidjaaGreatDoorPEnc1
import Derived.Test.YtknfbccbdiidjaaGreatDoorPLb5
import Derived.Test.YtknfbccbdiidjaaGreatDoorPTv1
import Derived.Laws.Cover3
namespace Go.Proofs.YtknfbccbdiidjaaGreatDoor
set_option linter.unusedVariables false
set_option linter.unusedSimpArgs false
open Go.ChangeShapes Go.WideShapes Go.ChangeAt Go.RowKit Go.Maps

def waysR (p q : Pf) : List Rec := [⟨0, pbytes p.b p.xs⟩, ⟨2, pbytes q.b q.xs⟩]
def waysM (p q : Pf) (a1 : Option Addr) (c1 : Nat) (a2 : Option Addr) (c2 : Nat) : List RecM := [⟨0, a1, pbytes p.b p.xs, c1⟩, ⟨2, a2, pbytes q.b q.xs, c2⟩]
theorem waysM_r (p q : Pf) (a1 : Option Addr) (c1 : Nat) (a2 : Option Addr) (c2 : Nat) : (waysM p q a1 c1 a2 c2).map RecM.r = waysR p q := rfl
theorem pbytes_length {p : Pf} {w : World} (h : p.At w) : (pbytes p.b p.xs).length = 32 + 40 * p.n := by
 rw [pbytes_len h.hash.1 _ (fun x hx => h.nodes.hash x hx), h.nodes.len]
theorem recs_two {w : World} {p q : Pf} (hp : p.At w) (hq : q.At w) {R : Nat} {a1 a2 : Option Addr} {c1 c2 : Nat} (hr : Has w R 139 ((waysM p q a1 c1 a2 c2).flatMap RecM.cells).toArray)
   (h0 : Bytes w w.heap.size (.slice a1 (pbytes p.b p.xs).length c1) (pbytes p.b p.xs)) (h1 : Bytes w w.heap.size (.slice a2 (pbytes q.b q.xs).length c2) (pbytes q.b q.xs)) (hn : p.n ≤ 100000) (hm : q.n ≤ 100000) : RecsAt w (some ⟨R, 0, none⟩) 2 (waysM p q a1 c1 a2 c2) := by
 refine ⟨rows_has (xs := waysM p q a1 c1 a2 c2) hr (fun x _ => rfl), fun x hx => ?_⟩
 have e1 := pbytes_length hp
 have e2 := pbytes_length hq
 simp only [waysM, List.mem_cons, List.not_mem_nil, or_false] at hx
 rcases hx with rfl | rfl
 · exact ⟨by dsimp only; omega, by dsimp only; omega, h0⟩
 · exact ⟨by dsimp only; omega, by dsimp only; omega, h1⟩
theorem waysM_cells {p q : Pf} {a1 a2 : Option Addr} {c1 c2 KP KQ : Nat} (h1 : (pbytes p.b p.xs).length = KP) (h2 : (pbytes q.b q.xs).length = KQ) : [Value.int .u64 0, .slice a1 KP c1, .int .u64 2, .slice a2 KQ c2] = (waysM p q a1 c1 a2 c2).flatMap RecM.cells := by
 subst h1 h2
 rfl
set_option maxRecDepth 100000 in
set_option maxHeartbeats 8000000 in
theorem coEnc_is (w : World) (p q : Pf) (hp : p.At w) (hq : q.At w) (hpn : p.n ≤ 100000) (hqn : q.n ≤ 100000) (bs : List Nat) (hE : tvEnc (waysR p q) = .ok bs) :
  Calls Tryz.prog 39 #[.agg (waysC p q).toArray] w fun e w' => ∃ v', e = .returned (.tuple #[v', .int .i64 0]) ∧ BigW w.heap.size w bs v' w' := by
 obtain ⟨LW, hLW⟩ : ∃ L, L = waysC p q := ⟨_, rfl⟩
 obtain ⟨LP, hLP⟩ : ∃ L, L = p.cells := ⟨_, rfl⟩
 obtain ⟨LQ, hLQ⟩ : ∃ L, L = q.cells := ⟨_, rfl⟩
 obtain ⟨BP, hBP⟩ : ∃ L, L = pbytes p.b p.xs := ⟨_, rfl⟩
 obtain ⟨BQ, hBQ⟩ : ∃ L, L = pbytes q.b q.xs := ⟨_, rfl⟩
 obtain ⟨KP, hKP⟩ : ∃ n, n = 32 + 40 * p.n := ⟨_, rfl⟩
 obtain ⟨KQ, hKQ⟩ : ∃ n, n = 32 + 40 * q.n := ⟨_, rfl⟩
 rw [← hLW]
 have Ay := Hh (show (Tryz.prog.info? 39).map (·.size) = some LP.length by rw [hLP, show p.cells.length = 33 from pcells_len hp.hash _ _ _]; kernel_rfl)
 have Az := Hh (show (Tryz.prog.info? 39).map (·.size) = some LQ.length by rw [hLQ, show q.cells.length = 33 from pcells_len hq.hash _ _ _]; kernel_rfl)
 have Ap := Hh (show ∀ (v : World) B, Has v B 41 LW.toArray → v.rangeAt B 0 LP ∧ v.rangeAt B 33 LQ from fun v B h => by rw [hLP, hLQ]; exact ways_at hp.hash (by rw [← hLW]; exact h))
 have L1 : BP.length = KP := by rw [hBP, pbytes_length hp, hKP]
 have L2 : BQ.length = KQ := by rw [hBQ, pbytes_length hq, hKQ]
 have Aq := Hh (show ∀ (v : World) (base : Nat) (oa : Option Addr) (oc : Nat), v.ownsRow base 5 1 (.slice oa KP oc) KP (bcells BP) → Bytes v v.heap.size (.slice oa KP oc) BP from fun v base oa oc ho => own_bytes ho L1 (by rw [hBP]; exact pbytes_lt hp.hash _ hp.nodes.hash) (Nat.le_refl _))
 have Ar := Hh (show ∀ (v : World) (base : Nat) (oa : Option Addr) (oc : Nat), v.ownsRow base 5 1 (.slice oa KQ oc) KQ (bcells BQ) → Bytes v v.heap.size (.slice oa KQ oc) BQ from fun v base oa oc ho => own_bytes ho L2 (by rw [hBQ]; exact pbytes_lt hq.hash _ hq.nodes.hash) (Nat.le_refl _))
 have As := Hh (show ∀ v, Below w.heap.size w v → Calls Tryz.prog 70 #[.agg LP.toArray] v fun e w' => ∃ oa oc, e = .returned (.slice oa KP oc) ∧ w'.ownsRow v.heap.size 5 1 (.slice oa KP oc) KP (bcells BP) ∧ Below v.heap.size v w' from fun v hv => by
  have h := encode_is v p.b hp.hash p.a p.n p.c p.xs (hp.below hv).nodes hpn
  rw [← hBP, ← hKP] at h
  rw [hLP]
  exact h)
 have Au := Hh (show ∀ v, Below w.heap.size w v → Calls Tryz.prog 70 #[.agg LQ.toArray] v fun e w' => ∃ oa oc, e = .returned (.slice oa KQ oc) ∧ w'.ownsRow v.heap.size 5 1 (.slice oa KQ oc) KQ (bcells BQ) ∧ Below v.heap.size v w' from fun v hv => by
  have h := encode_is v q.b hq.hash q.a q.n q.c q.xs (hq.below hv).nodes hqn
  rw [← hBQ, ← hKQ] at h
  rw [hLQ]
  exact h)
 have Aw := Hh (show ∀ (a1 a2 : Option Addr) (c1 c2 : Nat), [Value.int .u64 0, .slice a1 KP c1, .int .u64 2, .slice a2 KQ c2] = (waysM p q a1 c1 a2 c2).flatMap RecM.cells from fun a1 a2 c1 c2 => waysM_cells (by rw [← hBP]; exact L1) (by rw [← hBQ]; exact L2))
 have Ax := Hh (show ∀ (v : World) (R : Nat) (a1 a2 : Option Addr) (c1 c2 : Nat), Below w.heap.size w v → Has v R 139 ((waysM p q a1 c1 a2 c2).flatMap RecM.cells).toArray → Bytes v v.heap.size (.slice a1 KP c1) BP → Bytes v v.heap.size (.slice a2 KQ c2) BQ →
   Calls Tryz.prog 69 #[.slice (some ⟨R, 0, none⟩) 2 2] v fun e w' => ∃ v', e = .returned (.tuple #[v', .int .i64 0]) ∧ BigW v.heap.size v bs v' w' from fun v R a1 a2 c1 c2 hv hr h1 h2 => by
  have h := tvEnc_is v (some ⟨R, 0, none⟩) 2 2 (waysM p q a1 c1 a2 c2) (recs_two (hp.below hv) (hq.below hv) hr (by rw [← hBP, L1]; exact h1) (by rw [← hBQ, L2]; exact h2) hpn hqn) (by decide)
  rw [waysM_r, hE] at h
  exact h)
 have Ao := Hh (Has.new w 41 LW.toArray)
 have An := Hh (show Below w.heap.size w (w.alloc (.cells LW.toArray 41)) from (Below.refl _ _).alloc (Nat.le_refl _) _)
 clear hE hp hq hpn hqn hLW hLP hLQ hBP hBQ hKP hKQ L1 L2
 obtain ⟨W1, hW1⟩ : ∃ y, y = w.alloc (.cells LW.toArray 41) := ⟨_, rfl⟩
 have EW := Hh hW1
 clear hW1
 go_enter Tryz.func39, Tryz.ntmps39
 go_upto_region 1 with (fail)
 rw [← EW.o]
 have hbx := Ao.o
 have hbb := An.o
 rw [← EW.o] at hbx hbb
 obtain ⟨B, hB⟩ : ∃ b, b = w.heap.size := ⟨_, rfl⟩
 have EB := Hh hB
 rw [← hB] at hbx hbb ⊢
 have hBW : B < W1.drew.heap.size := hbx.lt
 have hS0 : Has W1.drew B 41 LW.toArray ∧ Below B w W1.drew := ⟨hbx, below_drew hbb⟩
 have Ah := Hh (show ∀ v, Below B w v → _ from fun v hv => As.o v (by rw [← EB.o]; exact hv))
 have Ai := Hh (show ∀ v, Below B w v → _ from fun v hv => Au.o v (by rw [← EB.o]; exact hv))
 have Aj := Hh (show ∀ v R a1 a2 c1 c2, Below B w v → _ from fun v R a1 a2 c1 c2 hv => Ax.o v R a1 a2 c1 c2 (by rw [← EB.o]; exact hv))
 clear hB hbx hbb Ao An EW
 refine wp_region_noPanic ?_
 refine wp_region_held_drew (S := (fun v => Has v B 41 LW.toArray ∧ Below B w v)) (by kernel_rfl) hS0 (fun hH0 => ?_)
 apply tl 0 rfl ?hv hH0 ?_
 case hv => intro w' hS; go_simp; try rfl
 simp only [qc]
 refine tk 1 (v := (.agg LP.toArray)) rfl (yieldsIf_load_mid (by kernel_rfl) 39 (.tmp 4) rfl B 0 rfl LP _ (fun w' h => (Ap.o _ B h.1).1) Tryz.underlying39 rfl Ay.o) hH0 ?_
 simp only [qc]
 apply tl 4 rfl ?hv hH0 ?_
 case hv => intro w' hS; go_simp; try rfl
 simp only [qc]
 refine tk 5 (v := (.agg LQ.toArray)) rfl (yieldsIf_load_mid (by kernel_rfl) 39 (.tmp 8) rfl B 33 rfl LQ _ (fun w' h => (Ap.o _ B h.1).2) Tryz.underlying39 rfl Az.o) hH0 ?_
 simp only [qc]
 refine rdy [2] (ar1 rfl fun KK hKK => ?_)
 go_simp
 refine (Ah.o W1.drew hH0.2).mono ?_
 rintro _ x2 ⟨oa2, oc2, rfl, ho2, Ab⟩
 have Al : Has x2 B 41 LW.toArray ∧ Below B w x2 := ⟨hH0.1.below Ab hH0.1.lt, hH0.2.trans (Ab.mono (Nat.le_of_lt hBW))⟩
 try replace he6 := he6.alive Ab Ab.size
 try replace hr2 := hr2.below Ab hr2.lt
 replace hBW : B < x2.heap.size := Nat.lt_of_lt_of_le hBW Ab.size
 have he2 := Aq.o _ _ _ _ ho2
 clear ho2
 refine hKK _ _ Al fun hH1 => ?_
 clear hKK KK
 try simp only [qc]
 apply tl 3 rfl ?hv hH1 ?_
 case hv => intro w' hS; go_simp; try rfl
 simp only [qc]
 refine rdy [6] (ar1 rfl fun KK hKK => ?_)
 go_simp
 refine (Ai.o x2 hH1.2).mono ?_
 rintro _ x6 ⟨oa6, oc6, rfl, ho6, Ac⟩
 have Am : Has x6 B 41 LW.toArray ∧ Below B w x6 := ⟨hH1.1.below Ac hH1.1.lt, hH1.2.trans (Ac.mono (Nat.le_of_lt hBW))⟩
 try replace he2 := he2.alive Ac Ac.size
 try replace hr2 := hr2.below Ac hr2.lt
 replace hBW : B < x6.heap.size := Nat.lt_of_lt_of_le hBW Ac.size
 have he6 := Ar.o _ _ _ _ ho6
 clear ho6
 refine hKK _ _ Am fun hH2 => ?_
 clear hKK KK
 try simp only [qc]
 apply tl 7 rfl ?hv hH2 ?_
 case hv => intro w' hS; go_simp; try rfl
 simp only [qc]
 refine rdy [8] (ar1 rfl fun KK hKK => ?_)
 refine step_buildN rfl 136 139 2 _ rfl _ 2 32 Tryz.underlying136 info_rec [.tmp 7, .tmp 11] rfl [.agg #[.int .u64 0, .slice oa2 KP oc2], .agg #[.int .u64 2, .slice oa6 KQ oc6]] rfl (by simp [Value.cells]) rfl rfl (by decide) (by decide) (by decide) ?_
 change KK _ (x6.alloc (.cells [Value.int .u64 0, .slice oa2 KP oc2, .int .u64 2, .slice oa6 KQ oc6].toArray 139))
 rw [Aw.o]
 obtain ⟨x8, hx8⟩ : ∃ y, y = x6.alloc (.cells ((waysM p q oa2 oc2 oa6 oc6).flatMap RecM.cells).toArray 139) := ⟨_, rfl⟩
 first | rw [← hx8] | (change KK _ (x6.alloc (.cells ((waysM p q oa2 oc2 oa6 oc6).flatMap RecM.cells).toArray 139)); rw [← hx8])
 have Aa : Below x6.heap.size x6 x8 := by rw [hx8]; exact (Below.refl _ _).alloc (Nat.le_refl _) _
 have hr2 : Has x8 x6.heap.size 139 ((waysM p q oa2 oc2 oa6 oc6).flatMap RecM.cells).toArray := by rw [hx8]; exact Has.new _ _ _
 have Ak : B < x6.heap.size := hBW
 obtain ⟨R, hR⟩ : ∃ g, g = x6.heap.size := ⟨_, rfl⟩
 first | rw [← hR] | (have hR2 : W1.heap.size = R := hR.symm; rw [hR2]) | skip
 rw [← hR] at hr2
 rw [← hR] at Ak
 clear hR
 have Ag : Has x8 B 41 LW.toArray ∧ Below B w x8 := ⟨hH2.1.below Aa hH2.1.lt, hH2.2.trans (Aa.mono (Nat.le_of_lt hBW))⟩
 try replace he2 := he2.alive Aa Aa.size
 try replace he6 := he6.alive Aa Aa.size
 replace hBW : B < x8.heap.size := Nat.lt_of_lt_of_le hBW Aa.size
 clear hx8
 refine hKK _ _ Ag fun hH3 => ?_
 clear hKK KK
 try simp only [qc]
 refine rdy [9] (ar1 rfl fun KK hKK => ?_)
 go_simp
 refine (Aj.o x8 _ _ _ _ _ hH3.2 hr2 he2 he6).mono ?_
 rintro _ x9 ⟨v9, rfl, hbw⟩
 have Ad := hbw.bel
 have Af : B ≤ x8.heap.size := Nat.le_of_lt hBW
 have Ae : Has x9 B 41 LW.toArray ∧ Below B w x9 := ⟨hH3.1.below Ad hH3.1.lt, hH3.2.trans (Ad.mono (Nat.le_of_lt hBW))⟩
 replace hBW : B < x9.heap.size := Nat.lt_of_lt_of_le hBW Ad.size
 refine hKK _ _ Ae fun hH4 => ?_
 clear hKK KK
 try simp only [qc]
 apply tl 10 rfl ?hv hH4 ?_
 case hv => intro w' hS; go_simp; try rfl
 simp only [qc]
 apply tl 11 rfl ?hv hH4 ?_
 case hv => intro w' hS; go_simp; try rfl
 simp only [qc]
 apply tl 12 rfl ?hv hH4 ?_
 case hv => intro w' hS; go_simp; try rfl
 simp only [qc]
 apply tl 13 rfl ?hv hH4 ?_
 case hv => intro w' hS; go_simp; try rfl
 simp only [qc]
 refine wpAnyH_done (by kernel_rfl) ?_ _
 refine NoPanic.normal ?_
 have Av := Hh (show BigW w.heap.size w bs v9 x9 from ⟨by obtain ⟨a, c, e, ho⟩ := hbw.own; exact ⟨a, c, e, own_base ho (by rw [← EB.o]; exact Af)⟩, by have := Ae.2; rwa [EB.o] at this⟩)
 clear hbw Ae Ag
 go_wp2_with fail
 go_ret2
 exact ⟨_, rfl, Av.o⟩
section
/- The walk of proof.Decode. -/

theorem zero_proofC : ∃ Z : Array Value, (∀ w, (zeroValue 39).run Tryz.prog w = .ok (.agg Z) w) ∧ (∀ w, (Instr.build 39 #[]).run Tryz.prog w = .ok (.agg Z) w) ∧ Z.size = 33 ∧ ¬ Z = #[] ∧ Z = (pcells (List.replicate 32 0) none 0 0).toArray := by
 have hs : (pcells (List.replicate 32 0) none 0 0).toArray.size = 33 := by kernel_rfl
 exact ⟨_, fun w => by kernel_rfl, fun w => by kernel_rfl, hs, fun e => (by rw [e] at hs; cases hs), rfl⟩
theorem node_build (D : List Nat) (h : D.length = 32) (w : World) : (Instr.build 30 #[(0, .agg (bcells D).toArray)]).run Tryz.prog w = .ok (.agg (ncells D 0).toArray) w := by
 obtain ⟨d0, d1, d2, d3, d4, d5, d6, d7, d8, d9, d10, d11, d12, d13, d14, d15, d16, d17, d18, d19, d20, d21, d22, d23, d24, d25, d26, d27, d28, d29, d30, d31, rfl⟩ := thirty_two D h
 exact run_build w 30 _ _ (by kernel_rfl)
theorem nc_set {hv : List Nat} (h : hv.length = 32) (x y : Nat) : (ncells hv x).toArray.setIfInBounds 32 (.int .u64 (y : Int)) = (ncells hv y).toArray := by
 rw [List.setIfInBounds_toArray]
 congr 1
 unfold ncells
 rw [List.set_append_right _ _ (by rw [bcells_length, h]; exact Nat.le_refl _), bcells_length, h]; rfl
theorem Bytes.opened {w : World} {a : Option Addr} {n c : Nat} {l : List Nat} (h : Bytes w w.heap.size (.slice a n c) l) : n = l.length ∧ n ≤ c ∧ (∀ x ∈ l, x < 256) ∧
  (0 < n → ∃ bg bo, a = some ⟨bg, bo, none⟩ ∧ bg < w.heap.size ∧ ∀ i, i < n → w.cell? ⟨bg, bo + i, none⟩ = some (.int .u8 (l.getD i 0 : Nat))) := by
 obtain ⟨a', c', e, h1, h2, h3⟩ := h
 injection e with e1 e2 e3
 subst e1 e2 e3
 refine ⟨rfl, h1, h2, fun h0 => ?_⟩
 obtain ⟨bg, bo, e, _, hc⟩ := h3 h0
 exact ⟨bg, bo, e, World.block_lt_of_cell? w _ (hc 0 h0), hc⟩
set_option maxRecDepth 100000 in
theorem or_byte (x c : Nat) (hc : c < 256) (hx : x * 256 + c < 18446744073709551616) : bits BinOp.or .u64 ((x : Int) * 256) (c : Int) = ((x * 256 + c : Nat) : Int) := by
 rw [show ((x : Int) * 256) = ((x * 256 : Nat) : Int) by omega]
 have h1 : x * 256 ||| c = x * 256 + c := by
  have := Nat.shiftLeft_add_eq_or_of_lt (i := 8) (b := c) (by omega) x
  rw [Nat.shiftLeft_eq] at this
  exact this.symm
 unfold bits
 have e : (BitVec.ofInt IntKind.u64.bits ((x * 256 : Nat) : Int) ||| BitVec.ofInt IntKind.u64.bits (c : Int)).toNat = x * 256 + c := by
  show (BitVec.ofInt 64 ((x * 256 : Nat) : Int) ||| BitVec.ofInt 64 (c : Int)).toNat = x * 256 + c
  rw [BitVec.ofInt_natCast, BitVec.ofInt_natCast, BitVec.toNat_or, BitVec.toNat_ofNat, BitVec.toNat_ofNat, Nat.mod_eq_of_lt (by omega), Nat.mod_eq_of_lt (by omega), h1]
 simp only [e]
 rw [IntKind.wrap_u64]; omega
def decE (bs : List Nat) : Nat := match decP bs with | .error e => e | .ok _ => 0
def decB (bs : List Nat) : List Nat := match decP bs with | .error _ => List.replicate 32 0 | .ok _ => bs.take 32
def decX (bs : List Nat) : List Nd := match decP bs with | .error _ => [] | .ok xs => xs
theorem dec_err {bs : List Nat} {e : Nat} (h : decP bs = .error e) : decE bs = e ∧ decB bs = List.replicate 32 0 ∧ decX bs = [] := by unfold decE decB decX; rw [h]; exact ⟨rfl, rfl, rfl⟩
theorem dec_okE {bs : List Nat} {xs : List Nd} (h : decP bs = .ok xs) : decE bs = 0 ∧ decB bs = bs.take 32 ∧ decX bs = xs := by unfold decE decB decX; rw [h]; exact ⟨rfl, rfl, rfl⟩
def DecOut (w : World) (bs : List Nat) (e : Ending) (w' : World) : Prop :=
 ∃ a c, e = .returned (.tuple #[.agg (pcells (decB bs) a (decX bs).length c).toArray, .int .i64 (decE bs : Nat)]) ∧ NodesAt w' a (decX bs).length (decX bs) ∧ (∀ A, a = some A → w.heap.size ≤ A.block) ∧ Below w.heap.size w w'
theorem DecOut.err {w w' : World} {bs : List Nat} {e : Nat} (h : decP bs = .error e) (hb : Below w.heap.size w w') : DecOut w bs (.returned (.tuple #[.agg (pcells (List.replicate 32 0) none 0 0).toArray, .int .i64 (e : Int)])) w' := by
 obtain ⟨h1, h2, h3⟩ := dec_err h
 refine ⟨none, 0, ?_, ?_, (fun A hA => by cases hA), hb⟩
 · rw [h1, h2, h3]; rfl
 · rw [h3]; exact nodes_nil _ _
structure DecW (w : World) (bs : List Nat) (B2 B4 : Nat) (Zp : Array Value) (n : Nat) (v : Value) (a : Option Addr) (c : Nat) (wr : World) : Prop where
 p : Has wr B4 39 (pcells (bs.take 32) a n c).toArray
 r : Has wr B2 39 Zp
 own : wr.ownsRow w.heap.size 30 33 (.slice a n c) n ((decNds bs n).flatMap ndV)
 src : Bytes w w.heap.size v (bs.drop (32 + 40 * n))
 bel : Below w.heap.size w wr
variable {w : World} {bs : List Nat} {B2 B4 : Nat} {Zp : Array Value} {n : Nat} {v : Value} {a : Option Addr} {c : Nat} {wr wr' : World}
theorem DecW.below (h : DecW w bs B2 B4 Zp n v a c wr) (hb : Below wr.heap.size wr wr') : DecW w bs B2 B4 Zp n v a c wr' :=
 ⟨h.p.below hb h.p.lt, h.r.below hb h.r.lt, own_kept h.own (Kept.of_below (S := fun _ => False) hb) (fun _ _ e => e), h.src, h.bel.trans (hb.mono h.bel.size)⟩
theorem DecW.kept {S : Nat → Prop} (h : DecW w bs B2 B4 Zp n v a c wr) (hk : Kept S wr wr') (h2 : ¬ S B2) (h4 : ¬ S B4) (ho : ∀ j, (Value.slice a n c).ownBlock = some j → ¬ S j) (hb : ∀ j, S j → w.heap.size ≤ j) : DecW w bs B2 B4 Zp n v a c wr' :=
 ⟨h.p.kept hk h4, h.r.kept hk h2, own_kept h.own hk ho, h.src, h.bel.trans (hk.below h.bel.size hb)⟩
theorem DecW.put (h : DecW w bs B2 B4 Zp n v a c wr) (hpl : w.heap.size ≤ B2 ∧ B2 < B4) (hh : IsHash (bs.take 32)) {C : Obj} {g7 cap7 : Nat} {w7 : World}
   (ho : w7.ownsRow w.heap.size 30 33 (.slice (some ⟨g7, 0, none⟩) (n + 1) cap7) (n + 1) ((decNds bs n).flatMap ndV ++ ndV (decNd bs n))) (hg : (wr.alloc C).grownBy w7 (Value.slice a n c).ownBlock) {v' : Value} (hv : Bytes w w.heap.size v' (bs.drop (32 + 40 * (n + 1)))) :
   Has w7 B4 39 (pcells (bs.take 32) a n c).toArray ∧ DecW w bs B2 B4 Zp (n + 1) v' (some ⟨g7, 0, none⟩) cap7 (w7.setCell ⟨B4, 32, none⟩ (.slice (some ⟨g7, 0, none⟩) (n + 1) cap7)) := by
 have hk1 : Kept (fun j => (Value.slice a n c).ownBlock = some j) wr w7 := ((Kept.refl _ wr).alloc _).grown hg (fun j e => .inl e)
 have hp7 := h.p.kept hk1 (fun e => own_has_ne h.own h.p (by decide) B4 e rfl)
 have hp8 := hp7.set 32 (.slice (some ⟨g7, 0, none⟩) (n + 1) cap7)
 rw [pcells_put hh] at hp8
 have hk2 : Kept (· = B4) w7 (w7.setCell ⟨B4, 32, none⟩ (.slice (some ⟨g7, 0, none⟩) (n + 1) cap7)) := (Kept.refl (· = B4) w7).set (p := ⟨B4, 32, none⟩) (.inl rfl) _
 have hk3 : Kept (fun j => j = B4 ∨ (Value.slice a n c).ownBlock = some j) wr (w7.setCell ⟨B4, 32, none⟩ (.slice (some ⟨g7, 0, none⟩) (n + 1) cap7)) := (hk1.mono (fun _ _ e => .inr e)).step hk2 (fun j e => .inl (.inl e))
 refine ⟨hp7, hp8, h.r.kept hk3 (fun e => e.elim (fun e => by omega) (fun e => own_has_ne h.own h.r (by decide) B2 e rfl)), ?_, hv, h.bel.trans (hk3.below h.bel.size (fun j e => ?_))⟩
 · rw [decNds_succ, List.flatMap_append]
   refine own_kept (by rw [List.flatMap_singleton]; exact ho) hk2 (fun j e1 e2 => own_has_ne ho hp7 (by decide) j e1 e2)
 · rcases e with e | e
   · omega
   · exact (h.own.lt j e).1
theorem DecW.done (h : DecW w bs B2 B4 Zp n v a c wr) (hpl : w.heap.size ≤ B2 ∧ B2 < B4) (hx : ∀ x ∈ bs, x < 256) (h32 : ¬ bs.length < 32) (hn : n = cntF (bareB (bs.take 32)) 256) (hl : 32 + 40 * n = bs.length) {cs : Array Value} :
   DecOut w bs (.returned (.tuple #[.agg (pcells (bs.take 32) a n c).toArray, .int .i64 0])) (wr.setRow B2 cs) := by
 have hd := decP_done h32 (by rw [← hn]; exact hl)
 rw [← hn] at hd
 obtain ⟨h1, h2, h3⟩ := dec_okE hd
 have hk := kept_setRow (g := B2) wr cs
 have hno := own_nodes (own_kept h.own hk (fun j e1 e2 => own_has_ne h.own h.r (by decide) j e1 e2)) (decNds_len bs n) (fun x hxx => (nds_hash hx (by omega) x hxx).1) (fun x hxx => (nds_hash hx (by omega) x hxx).2)
 refine ⟨a, c, ?_, ?_, fun A hA => (h.own.lt A.block (by rw [hA]; rfl)).1, h.bel.trans (hk.below h.bel.size (fun j e => by have e' : j = B2 := e; omega))⟩
 · rw [h1, h2, h3, decNds_len]; rfl
 · rw [h3, decNds_len]; exact hno.1
set_option maxRecDepth 100000 in
set_option maxHeartbeats 8000000 in
theorem decode_is (w : World) (v : Value) (bs : List Nat) (hB : Bytes w w.heap.size v bs) (hl : bs.length ≤ 1000000) :
   Calls Tryz.prog 37 #[v] w (DecOut w bs) := by
 obtain ⟨Zp, hzp, hbp, hZps, hZpn, hZp⟩ := zero_proofC
 obtain ⟨Z, hz, hZs, hZn, -⟩ := zero_node
 obtain ⟨inode, his, Ay, Az, Bj⟩ := info_parts info_node
 have Bs := Hh (show ∀ (bb : List Nat), IsHash bb → ∀ (a : Option Addr) (n c : Nat), (Tryz.prog.info? 39).map (·.size) = some (pcells bb a n c).toArray.size ∧ Zp.size = (pcells bb a n c).toArray.size from fun bb hb a n c => by rw [List.size_toArray, pcells_len hb, hZps]; exact ⟨by kernel_rfl, rfl⟩)
 have An := Hh (show (Tryz.prog.info? 39).map (·.size) = some Zp.size by rw [hZps]; kernel_rfl)
 have Ak := Hh (show Zp.all (·.oneCell') = true by rw [hZp]; exact pcells_one _ _ _ _)
 have A1 := Hh hZp
 have Bt := Hh hZs
 have A8 := Hh hbp
 obtain ⟨L, hL⟩ : ∃ L, L = bs.length := ⟨_, rfl⟩
 obtain ⟨a0, c0, rfl, -, hx, -⟩ := id hB
 rw [← hL] at hB ⊢
 have HB := Hh hB
 have HX := Hh hx
 have HL := Hh hL
 rw [← hL] at hl
 clear hZp hbp hZps hx hL hB hZs
 by_cases h32 : L < 32
 · have h32' : (L : Int) < 32 := by omega
   have HP := Hh (decP_less (b := bs) (by rw [← HL.o]; exact h32))
   have Aa : Has (((w.alloc (.cells Zp 39)).alloc (.cells Zp 39)).setRow w.heap.size Zp) w.heap.size 39 Zp ∧ Below w.heap.size w (((w.alloc (.cells Zp 39)).alloc (.cells Zp 39)).setRow w.heap.size Zp) := by
     have h0 := (Has.new w 39 Zp).alloc (.cells Zp 39)
     have hb : Below w.heap.size w ((w.alloc (.cells Zp 39)).alloc (.cells Zp 39)) := ((Below.refl _ _).alloc (Nat.le_refl _) _).alloc (by simp) _
     exact ⟨h0.setRow, hb.trans ((kept_setRow (g := w.heap.size) _ Zp).below hb.size (fun j e => by have e' : j = w.heap.size := e; omega))⟩
   have Ab := Hh Aa
   have H0 := Hh ((Has.new w 39 Zp).alloc (.cells Zp 39))
   clear Aa h32
   go_enter Tryz.func37, Tryz.ntmps37
   go_wp2_with (first
     | (refine wpList_build_run (by kernel_rfl) 39 _ rfl #[] (by kernel_rfl) (.agg Zp) (A8.o _) ?_)
     | (refine wpList_store_row rfl 39 (.tmp 2) (.tmp 12) rfl w.heap.size Zp rfl rfl 39 Zp H0.o An.o rfl Ak.o ?_))
   refine bodyPost_ret (results_cell_tmp rfl _ _ w.heap.size 39 Zp (0, 0) _ rfl rfl Ab.o.1 Tryz.underlying39 An.o) rfl ?_
   have := DecOut.err HP.o Ab.o.2
   rw [← A1.o] at this
   exact this
 have HH := Hh (show IsHash (bs.take 32) from ⟨by rw [List.length_take, ← HL.o]; omega, fun x hx => HX.o x (List.mem_of_mem_take hx)⟩)
 obtain ⟨-, hcap, -, hop⟩ := HB.o.opened
 obtain ⟨bg, bo, rfl, hbg, Ac⟩ := hop (by omega)
 have h32' : ¬ (L : Int) < 32 := by omega
 have HC := Hh Ac
 have Bm := Hh hbg
 obtain ⟨a1, c1, hcut, -, hb1⟩ := HB.o.cut 32 (by omega)
 have Bl := Hh hb1
 have hcut' : ∀ w', (Instr.slice 48 (.slice (some ⟨bg, bo, none⟩) L c0) (some (.int .i64 32)) none none).run Tryz.prog w' = .ok (.slice a1 (L - 32) c1) w' := hcut
 clear Ac hcut hb1 hbg
 go_enter Tryz.func37, Tryz.ntmps37
 go_upto_region 2 with (fail)
 have h2 : Has ((w.alloc (.cells Zp 39)).alloc (.cells Zp 39)) w.heap.size 39 Zp := (Has.new w _ _).alloc _
 have h4 : Has ((w.alloc (.cells Zp 39)).alloc (.cells Zp 39)) (w.heap.size + 1) 39 Zp := by
   have := Has.new (w.alloc (.cells Zp 39)) 39 Zp
   simpa using this
 have hbe : Below w.heap.size w ((w.alloc (.cells Zp 39)).alloc (.cells Zp 39)) := ((Below.refl _ _).alloc (Nat.le_refl _) _).alloc (by simp) _
 generalize (w.alloc (.cells Zp 39)).alloc (.cells Zp 39) = W1 at h2 h4 hbe ⊢
 obtain ⟨B4, hB4⟩ : ∃ b, b = w.heap.size + 1 := ⟨_, rfl⟩
 obtain ⟨B2, hB2⟩ : ∃ b, b = w.heap.size := ⟨_, rfl⟩
 have Ar := Hh (show w.heap.size ≤ B2 ∧ B2 < B4 by omega)
 have H2 := Hh (show Has W1 B2 39 Zp by rw [hB2]; exact h2)
 have H4 := Hh (show Has W1 B4 39 (pcells (List.replicate 32 0) none 0 0).toArray by rw [hB4, ← A1.o]; exact h4)
 have A2 := Hh hbe
 rw [← hB4, ← hB2]
 have As := Hh (show 0 < (bcells (bs.take 32)).length → (some ⟨B4, 0, none⟩ : Option Addr) = some ⟨B4, 0, none⟩ ∧ ∃ ad : Addr, (some ⟨bg, bo, none⟩ : Option Addr) = some ad ∧ ∀ j u, (bcells (bs.take 32))[j]? = some u → W1.cell? (ad.add j) = some u from fun _ => ⟨rfl, _, rfl, fun j u hu => by
   have hj := (List.getElem?_eq_some_iff.1 hu).1
   rw [bcells_length, HH.o.1] at hj
   rw [bcells_get _ _ (by rw [HH.o.1]; exact hj)] at hu
   have hu' := Option.some.inj hu
   rw [← hu']
   rw [Addr.add_mid, A2.o.cell (p := ⟨bg, bo + j, none⟩) Bm.o, HC.o j (by omega)]
   rw [List.getD_eq_getElem?_getD, List.getD_eq_getElem?_getD, List.getElem?_take_of_lt hj]⟩)
 have Aj := Hh (show splice (pcells (List.replicate 32 0) none 0 0) 0 (bcells (bs.take 32)) = pcells (bs.take 32) none 0 0 by
   unfold splice pcells
   rw [List.take_zero, bcells_length, HH.o.1]; rfl)
 have Aq := Hh (show (bcells (bs.take 32)).length = Nat.min L 32 by rw [bcells_length, HH.o.1]; show 32 = min L 32; omega)
 have Ap := Hh (show 0 + (bcells (bs.take 32)).length ≤ (pcells (List.replicate 32 0) none 0 0).length by rw [bcells_length, HH.o.1, pcells_len (bb := List.replicate 32 0) zNd_hash none 0 0]; decide)
 clear h2 h4 hbe hB4 hB2
 go_upto_region 5 with (refine wpList_copy_kept rfl (.tmp 14) (.tmp 15) 48 48 rfl 5 Tryz.underlying48 size_u8 (some ⟨B4, 0, none⟩) (some ⟨bg, bo, none⟩) 32 32 L c0 rfl rfl B4 0 (pcells (List.replicate 32 0) none 0 0) 39 H4.o (bcells (bs.take 32)) Aq.o As.o Ap.o (bcells_one _) ?_; intro w2 hw2 hk2)
 have hd0 : DecW w bs B2 B4 Zp 0 (.slice a1 (L - 32) c1) none 0 w2 := by
   have hpl := Ar.o
   rw [Aj.o] at hw2
   refine ⟨hw2, H2.o.kept hk2 (by show ¬ B2 = B4; omega), ⟨rfl, .inl ⟨rfl, rfl⟩⟩, Bl.o, A2.o.trans (hk2.below A2.o.size (fun j e => by have e' : j = B4 := e; omega))⟩
 have Bo := Hh hd0
 clear hw2 hk2 hd0 As Aj Aq Ap H2 H4 A2 Bl HC Bm
 go_wp2_with fail
 clear hcut'
 go_loopw [0, 19] (fun bv iv wr => ∃ (h n : Nat) (a : Option Addr) (c : Nat), iv = .int .i64 (h : Int) ∧ h ≤ 256 ∧ n = cntF (bareB (bs.take 32)) h ∧ 32 + 40 * n ≤ bs.length ∧ DecW w bs B2 B4 Zp n bv a c wr) (fun _ iv _ => 256 - (intOf iv).toNat)
 case atStart => exact ⟨0, 0, none, 0, rfl, Nat.zero_le _, rfl, by have := HL.o; omega, Bo.o⟩
 case round =>
   clear Bo
   obtain ⟨h, n, a, c, rfl, hh, hn, Al, hd⟩ := hrel
   obtain ⟨av, cv, rfl, -, -, -⟩ := id hd.src
   obtain ⟨M, hM⟩ : ∃ M, M = (bs.drop (32 + 40 * n)).length := ⟨_, rfl⟩
   rw [← hM] at hd ⊢
   rw [List.length_drop, ← HL.o] at hM
   rw [← HL.o] at Al
   have HD := Hh hd
   have HN := Hh hn
   have HM := Hh hM
   have Bc := Hh Al
   clear hd hn hM Al
   have A7 := Hh (show ¬ bs.length < 32 by rw [← HL.o]; exact h32)
   by_cases hlt : h < 256
   · have hlt' : (h : Int) < 256 := by omega
     obtain ⟨bt, hbt⟩ : ∃ b, b = bareB (bs.take 32) h := ⟨_, rfl⟩
     have A3 := Hh hbt
     clear hbt
     go_wp2_with (refine wpList_load_row rfl 39 (.tmp 4) rfl B4 rfl 39 (pcells (bs.take 32) a n c).toArray (0, 0) _ HD.o.p Tryz.underlying39 rfl (Bs.o _ HH.o a n c).1 ?_)
     refine (bare_is _ (bs.take 32) HH.o a n c h hlt).mono ?_
     rintro _ w3 ⟨rfl, rfl⟩
     have hd3 := HD.o.below ((Below.refl _ _).alloc (Nat.le_refl _) (.cells (pcells (bs.take 32) a n c).toArray 39))
     generalize wr.alloc (.cells (pcells (bs.take 32) a n c).toArray 39) = W3 at hd3 ⊢
     rw [← A3.o]
     have Ad := Hh hd3
     clear hd3 HD
     cases bt with
     | true =>
       go_wp2_with fail
       go_roundw
       case rel => exact ⟨h + 1, n, a, c, by go_num, by omega, by rw [cnt_bare A3.o.symm]; exact HN.o, by have := Bc.o; have := HL.o; omega, Ad.o⟩
       case measure => simp [intOf]; omega
     | false =>
       by_cases hs : M < 40
       · have hs' : (M : Int) < 40 := by omega
         have HP := Hh (decP_short (b := bs) A7.o hlt A3.o.symm (by have h1 := HM.o; have h2 := HL.o; have h3 := Bc.o; rw [← HN.o]; omega))
         have hk := kept_setRow (g := B2) W3 Zp
         have Aa : Has (W3.setRow B2 Zp) B2 39 Zp ∧ Below w.heap.size w (W3.setRow B2 Zp) := ⟨Ad.o.r.setRow, Ad.o.bel.trans (hk.below Ad.o.bel.size (fun j e => by have e' : j = B2 := e; have := Ar.o; omega))⟩
         have Ab := Hh Aa
         clear Aa hk
         go_wp2_with (first
          | (refine wpList_build_run (by kernel_rfl) 39 _ rfl #[] (by kernel_rfl) (.agg Zp) (A8.o _) ?_)
          | (refine wpList_store_row rfl 39 (.tmp 2) (.tmp 28) rfl B2 Zp rfl rfl 39 Zp Ad.o.r An.o rfl Ak.o ?_))
         refine bodyPost_ret (results_cell_tmp rfl _ _ B2 39 Zp (0, 0) _ rfl rfl Ab.o.1 Tryz.underlying39 An.o) rfl ?_
         have := DecOut.err HP.o Ab.o.2
         rw [← A1.o] at this
         exact this
       · have hs' : ¬ (M : Int) < 40 := by omega
         obtain ⟨-, hcv, -, hop⟩ := Ad.o.src.opened
         obtain ⟨bg, bo, rfl, hbg, Ac⟩ := hop (by omega)
         have Bn := Hh (show ∀ W', Below w.heap.size w W' → ∀ i, i < M → W'.cell? ⟨bg, bo + i, none⟩ = some (.int .u8 ((bs.drop (32 + 40 * n)).getD i 0 : Nat)) from fun W' hW' i hi => by
          rw [hW'.cell (p := ⟨bg, bo + i, none⟩) hbg]; exact Ac i hi)
         obtain ⟨a2, c2, hcut, -, hb2⟩ := Ad.o.src.cut 40 (by omega)
         have Ag : ∀ w', (Instr.slice 48 (.slice (some ⟨bg, bo, none⟩) M cv) (some (.int .i64 40)) none none).run Tryz.prog w' = .ok (.slice a2 (M - 40) c2) w' := hcut
         have Ba := Hh Ag
         rw [List.drop_drop, show 32 + 40 * n + 40 = 32 + 40 * (n + 1) by omega] at hb2
         have Bu := Hh hb2
         obtain ⟨hv, hhv⟩ : ∃ l, l = (bs.drop (32 + 40 * n)).take 32 := ⟨_, rfl⟩
         obtain ⟨tl, htl⟩ : ∃ l, l = (bs.drop (32 + 40 * n + 32)).take 8 := ⟨_, rfl⟩
         have hvh : IsHash hv := ⟨by rw [hhv, List.length_take, List.length_drop, ← HL.o]; have := HM.o; omega, fun x hx => by rw [hhv] at hx; exact HX.o x (List.mem_of_mem_drop (List.mem_of_mem_take hx))⟩
         have A0 : tl.length = 8 ∧ ∀ x ∈ tl, x < 256 := ⟨by rw [htl, List.length_take, List.length_drop, ← HL.o]; have := HM.o; omega, fun x hx => by rw [htl] at hx; exact HX.o x (List.mem_of_mem_drop (List.mem_of_mem_take hx))⟩
         have B3 := Hh (show ncells hv (num8 tl) = ndV (decNd bs n) by rw [hhv, htl]; rfl)
         have Ae := Hh hvh
         have Af := Hh A0
         have hrh : W3.rangeAt bg bo (bcells hv) := fun j u hu => by
          have hj := (List.getElem?_eq_some_iff.1 hu).1
          rw [bcells_length, Ae.o.1] at hj
          rw [Bn.o W3 Ad.o.bel j (by omega)]
          rw [← hu, bcells_get _ _ (by rw [Ae.o.1]; exact hj), hhv, List.getD_eq_getElem?_getD, List.getD_eq_getElem?_getD, List.getElem?_take_of_lt hj]
         have Br := Hh hrh
         have B5 := Hh (show ∀ W', Below w.heap.size w W' → ∀ j, j < 8 → W'.cell? ⟨bg, bo + 32 + j, none⟩ = some (.int .u8 (tl.getD j 0 : Nat)) from fun W' hW' j hj => by
          rw [Nat.add_assoc, Bn.o W' hW' (32 + j) (by omega), htl, List.getD_eq_getElem?_getD, List.getD_eq_getElem?_getD, List.getElem?_take_of_lt hj, List.getElem?_drop, List.getElem?_drop, show 32 + 40 * n + (32 + j) = 32 + 40 * n + 32 + j from (Nat.add_assoc _ _ _).symm])
         have hat : ∀ w, (Instr.arrayAt 27 (.slice (some ⟨bg, bo, none⟩) 32 cv)).run Tryz.prog w = .ok (.pointer (some ⟨bg, bo, none⟩)) w := fun w => run_arrayAt w 27 _ 32 _ 32 cv Tryz.underlying27 (Nat.le_refl _)
         have B8 := Hh (show (Tryz.prog.info? 27).map (·.size) = some (bcells hv).length by rw [bcells_length, Ae.o.1]; kernel_rfl)
         have Ao := Hh (node_build hv Ae.o.1)
         obtain ⟨LN, hLN⟩ : ∃ l, l = ncells hv 0 := ⟨_, rfl⟩
         rw [← hLN] at Ao
         have B9 := Hh (show (Tryz.prog.info? 30).map (·.size) = some LN.toArray.size by rw [hLN, List.size_toArray, ncells, List.length_append, bcells_length, Ae.o.1]; kernel_rfl)
         have B7 := Hh (show Z.size = LN.toArray.size by rw [Bt.o, hLN, List.size_toArray, ncells, List.length_append, bcells_length, Ae.o.1]; rfl)
         have Bh := Hh (show LN.toArray.all (·.oneCell') = true by rw [hLN]; exact ndV_one ⟨hv, 0⟩)
         have B0 := Hh hLN
         clear Ac hcut Ag hb2 hhv htl hvh A0 hrh hLN
         go_upto_region 13 with (first
          | (refine wpList_load_mid rfl 27 (.tmp 31) rfl bg bo rfl (bcells hv) _ Br.o Tryz.underlying27 rfl B8.o ?_)
          | (refine wpList_build_run (by kernel_rfl) 30 _ rfl #[(0, .agg (bcells hv).toArray)] (by kernel_rfl) (.agg LN.toArray) (Ao.o _) ?_)
          | (refine wpList_store_row rfl 30 (.tmp 6) (.tmp 33) rfl W3.heap.size LN.toArray rfl rfl 30 Z (heap_alloc_new W3 _) B9.o B7.o Bh.o ?_))
         have hnw : Has ((W3.alloc (.cells Z 30)).setRow W3.heap.size LN.toArray) W3.heap.size 30 LN.toArray ∧ DecW w bs B2 B4 Zp n (.slice (some ⟨bg, bo, none⟩) M cv) a c ((W3.alloc (.cells Z 30)).setRow W3.heap.size LN.toArray) := by
          rw [World.setRow_alloc_new]
          exact ⟨Has.new _ _ _, Ad.o.below ((Below.refl _ _).alloc (Nat.le_refl _) _)⟩
         rw [B0.o] at hnw ⊢
         generalize (W3.alloc (.cells Z 30)).setRow W3.heap.size (ncells hv 0).toArray = W5 at hnw ⊢
         have A4 := Hh (show w.heap.size ≤ W3.heap.size ∧ B4 < W3.heap.size ∧ B2 < W3.heap.size from ⟨Ad.o.bel.size, Ad.o.p.lt, Ad.o.r.lt⟩)
         have Bp := Hh (show ∀ k, (Value.slice a n c).ownBlock = some k → k < W3.heap.size from fun k e => (Ad.o.own.lt k e).2)
         generalize W3.heap.size = G6 at hnw A4 Bp ⊢
         have Be := Hh hnw
         clear hnw hat Br Ad
         go_wp2_with fail
         go_loopw [37] (fun iv wr => ∃ j : Nat, iv = .int .i64 (j : Int) ∧ j ≤ 8 ∧ Has wr G6 30 (ncells hv (num8 (tl.take j))).toArray ∧ DecW w bs B2 B4 Zp n (.slice (some ⟨bg, bo, none⟩) M cv) a c wr) (fun iv _ => 8 - (intOf iv).toNat)
         case atStart => exact ⟨0, rfl, Nat.zero_le _, Be.o.1, Be.o.2⟩
         case round =>
          clear Be
          obtain ⟨j, rfl, hj, hg6, hdx⟩ := hrel
          have A5 := Hh hg6
          have Am := Hh hdx
          clear hg6 hdx
          by_cases hj8 : j < 8
          · have hj8' : (j : Int) < 8 := by omega
            have cb := B5.o wr Am.o.bel j hj8
            have hct := Af.o.2 (tl.getD j 0) (by rw [List.getD_eq_getElem?_getD, List.getElem?_eq_getElem (by rw [Af.o.1]; exact hj8)]; exact List.getElem_mem _)
            obtain ⟨ct, hce⟩ : ∃ x, x = tl.getD j 0 := ⟨_, rfl⟩
            rw [← hce] at cb hct
            obtain ⟨x, hxe⟩ : ∃ x, x = num8 (tl.take j) := ⟨_, rfl⟩
            have c6 : wr.cell? ⟨G6, 32, none⟩ = some (.int .u64 (x : Int)) := A5.o.cell_is (by
             rw [List.getElem?_toArray, ncells, List.getElem?_append_right (by rw [bcells_length, Ae.o.1]; exact Nat.le_refl _), bcells_length, Ae.o.1, ← hxe]; rfl)
            have hx7 : x < 72057594037927936 := by
             have h1 := num8_lt j (tl.take j) (by rw [List.length_take, Af.o.1]; omega) (fun y hy => Af.o.2 y (List.mem_of_mem_take hy))
             rw [← hxe] at h1
             have h2 : 256 ^ j ≤ 256 ^ 7 := Nat.pow_le_pow_right (by decide) (by omega)
             exact Nat.lt_of_lt_of_le h1 h2
            have A6 := Hh (show num8 (tl.take (j + 1)) = x * 256 + ct by
             rw [List.take_add_one, List.getElem?_eq_getElem (by rw [Af.o.1]; exact hj8)]
             show num8 (tl.take j ++ [tl[j]'(by rw [Af.o.1]; exact hj8)]) = _
             rw [num8_snoc, ← hxe, hce, List.getD_eq_getElem?_getD, List.getElem?_eq_getElem (by rw [Af.o.1]; exact hj8)]; rfl)
            obtain ⟨y, hy⟩ : ∃ y, y = x * 256 + ct := ⟨_, rfl⟩
            have hor := or_byte x ct hct (by omega)
            rw [← hy] at hor A6
            have fr6 := A5.o.free 32
            have hs6 : Has (wr.setCell ⟨G6, 32, none⟩ (.int .u64 (y : Int))) G6 30 (ncells hv (num8 (tl.take (j + 1)))).toArray := by
             rw [A6.o, ← nc_set Ae.o.1 (num8 (tl.take j)) y]
             exact A5.o.set 32 (.int .u64 (y : Int))
            have hk6 : Kept (· = G6) wr (wr.setCell ⟨G6, 32, none⟩ (.int .u64 (y : Int))) := (Kept.refl (· = G6) wr).set (p := ⟨G6, 32, none⟩) (.inl rfl) _
            have Ai := Hh (And.intro hs6 (Am.o.kept hk6 (by have := A4.o; show ¬ B2 = G6; omega) (by have := A4.o; show ¬ B4 = G6; omega) (fun k e e2 => by have e' : k = G6 := e2; have := Bp.o k e; omega) (fun k e => by have := A4.o; have e' : k = G6 := e; omega)))
            clear hce hxe hs6 hk6 hy
            go_wp2_with fail
            go_roundw
            case rel => exact ⟨j + 1, by go_num, by omega, Ai.o⟩
            case measure => simp [intOf]; omega
          · obtain rfl : j = 8 := by omega
            have hj8' : ¬ ((8 : Nat) : Int) < 8 := by omega
            obtain ⟨LX, hLX⟩ : ∃ l, l = ncells hv (num8 (tl.take 8)) := ⟨_, rfl⟩
            have hG := A5.o
            rw [← hLX] at hG
            have hle : LX = ndV (decNd bs n) := by rw [hLX, ← B3.o, List.take_of_length_le (by rw [Af.o.1]; exact Nat.le_refl _)]
            have Bw := Hh hG
            have hln : LX.length = 33 := by rw [hLX, ncells, List.length_append, bcells_length, Ae.o.1]; rfl
            have Ca := Hh (show (Tryz.prog.info? 30).map (·.size) = some LX.toArray.size by rw [List.size_toArray, hln]; kernel_rfl)
            have c32 := Am.o.p.cell_is (i := 32) (by rw [List.getElem?_toArray]; exact pcells_row HH.o a n c)
            have Au := Hh (show (Value.agg (List.replicate 32 (Value.int .u8 0) ++ [Value.int .u64 0]).toArray).cells.size = 33 by kernel_rfl)
            have hn256 : n ≤ 256 := by rw [HN.o]; exact Nat.le_trans (cnt_le _ _) hh
            have B1 := Hh (show n + 1 ≤ maxLen by unfold maxLen; omega)
            have A9 := Hh (show (n + 1) * 40 ≤ 140737488355328 by omega)
            have hB5 : w.heap.size ≤ wr.heap.size := Am.o.bel.size
            have Bv := Hh (show ∀ C, w.heap.size ≤ (wr.alloc C).heap.size by intro C; show _ ≤ (wr.heap.push _).size; rw [Array.size_push]; omega)
            have Bz := Hh (show LX.length = 1 * 33 from hln)
            have By := Hh (show ∀ v ∈ LX, v.oneCell' = true by rw [hLX]; exact ncells_one _ _)
            have h0k : 0 < LX.length := by rw [hln]; decide
            have h24 : LX.length ≤ 16777216 := by rw [hln]; decide
            have Bx := Hh (show inode.size = LX.length by rw [Az, hln])
            have B6 := Hh (show (Value.agg (List.replicate 32 (Value.int .u8 0) ++ [Value.int .u64 0]).toArray).cells.size = LX.length by rw [Au.o, hln])
            have Bg := Hh (show (wr.alloc (.cells LX.toArray 30)).heap.size = wr.heap.size + 1 by simp)
            have Av : ∀ g7 cap7 w7, w7.ownsRow w.heap.size 30 33 (.slice (some ⟨g7, 0, none⟩) (n + 1) cap7) (n + 1) ((decNds bs n).flatMap ndV ++ LX) → (wr.alloc (.cells LX.toArray 30)).grownBy w7 (Value.slice a n c).ownBlock →
              Has w7 B4 39 (pcells (bs.take 32) a n c).toArray ∧ DecW w bs B2 B4 Zp (n + 1) (.slice a2 (M - 40) c2) (some ⟨g7, 0, none⟩) cap7 (w7.setCell ⟨B4, 32, none⟩ (.slice (some ⟨g7, 0, none⟩) (n + 1) cap7)) := fun g7 cap7 w7 ho hg =>
             Am.o.put Ar.o HH.o (by rw [← hle]; exact ho) hg Bu.o
            have Bb := Hh Av
            have Bf := Hh Am.o.own
            have A6 := Hh (show n + 1 = cntF (bareB (bs.take 32)) (h + 1) by rw [cnt_node A3.o.symm, ← HN.o])
            have Bd := Hh (show 32 + 40 * (n + 1) ≤ bs.length by have h1 := HM.o; have h2 := HL.o; omega)
            clear Av hB5 hG hle hLX
            go_upto_region 19 with (first
             | (refine wpList_load_row rfl 30 (.tmp 6) rfl G6 rfl 30 LX.toArray (0, 0) _ Bw.o Tryz.underlying30 rfl Ca.o ?_)
             | (refine wpList_build1 rfl 37 30 (.tmp 51) rfl inode _ Tryz.underlying37 his Ay LX Bx.o B6.o h0k h24 rfl ?_)
             | (at_builtin; refine wpList_append_lies _ rfl (.tmp 50) (.tmp 52) 37 rfl w.heap.size 30 inode _ 33 40 Tryz.underlying37 his Ay Az Bj Au.o (by decide) _ n _ rfl (Bf.o.alloc _) ⟨wr.heap.size, 0, none⟩ 1 1 LX rfl Bz.o (World.news_of_block (cs := LX.toArray) (heap_alloc_new wr _)) By.o (by decide) B1.o A9.o (Bv.o _) (wr.heap.size + 1) Bg.o ?_; intro g7 cap7 w7 Ah Ax Bi Bk; (have hq7 := Bb.o g7 cap7 w7 Ah Ax); (have c732 := hq7.1.cell_is (i := 32) (by rw [List.getElem?_toArray]; exact pcells_row HH.o a n c)); (have f732 := hq7.1.free 32); (have Bq := Hh hq7); clear hq7 Ah Ax Bi Bk))
            generalize w7.setCell ⟨B4, 32, none⟩ (.slice (some ⟨g7, 0, none⟩) (n + 1) cap7) = W8 at Bq ⊢
            have hcut3 := Ba.o
            clear c732 f732 c32
            go_wp2_with fail
            go_roundw
            case rel => exact ⟨h + 1, n + 1, _, _, by go_num, by omega, A6.o, Bd.o, Bq.o.2⟩
            case measure => simp [intOf]; omega
   · obtain rfl : h = 256 := by omega
     by_cases hm0 : 0 < M
     · have hm0' : (M : Int) > 0 := by omega
       have HP := Hh (decP_trail (b := bs) A7.o (by rw [← HN.o]; have h1 := HM.o; have h2 := HL.o; omega))
       have hk := kept_setRow (g := B2) wr Zp
       have Aa : Has (wr.setRow B2 Zp) B2 39 Zp ∧ Below w.heap.size w (wr.setRow B2 Zp) := ⟨HD.o.r.setRow, HD.o.bel.trans (hk.below HD.o.bel.size (fun j e => by have e' : j = B2 := e; have := Ar.o; omega))⟩
       have Ab := Hh Aa
       clear Aa hk
       go_wp2_with (first
         | (refine wpList_build_run (by kernel_rfl) 39 _ rfl #[] (by kernel_rfl) (.agg Zp) (A8.o _) ?_)
         | (refine wpList_store_row rfl 39 (.tmp 2) (.tmp 61) rfl B2 Zp rfl rfl 39 Zp HD.o.r An.o rfl Ak.o ?_))
       refine bodyPost_ret (results_cell_tmp rfl _ _ B2 39 Zp (0, 0) _ rfl rfl Ab.o.1 Tryz.underlying39 An.o) rfl ?_
       have := DecOut.err HP.o Ab.o.2
       rw [← A1.o] at this
       exact this
     · have hm0' : ¬ (M : Int) > 0 := by omega
       have Aw := HD.o.done Ar.o HX.o A7.o HN.o (by have h1 := HM.o; have h2 := HL.o; have h3 := Bc.o; omega) (cs := (pcells (bs.take 32) a n c).toArray)
       have Aa : Has (wr.setRow B2 (pcells (bs.take 32) a n c).toArray) B2 39 (pcells (bs.take 32) a n c).toArray := HD.o.r.setRow
       have Ab := Hh Aa
       have Ai := Hh Aw
       have Aj := Hh (Bs.o (bs.take 32) HH.o a n c)
       clear Aa Aw
       go_wp2_with (first
         | (refine wpList_load_row rfl 39 (.tmp 4) rfl B4 rfl 39 (pcells (bs.take 32) a n c).toArray (0, 0) _ HD.o.p Tryz.underlying39 rfl Aj.o.1 ?_)
         | (refine wpList_store_row rfl 39 (.tmp 2) (.tmp 62) rfl B2 (pcells (bs.take 32) a n c).toArray rfl rfl 39 Zp HD.o.r Aj.o.1 Aj.o.2 (pcells_one _ _ _ _) ?_))
       refine bodyPost_ret (results_cell_tmp rfl _ _ B2 39 (pcells (bs.take 32) a n c).toArray (0, 0) _ rfl rfl Ab.o Tryz.underlying39 Aj.o.1) rfl ?_
       exact Ai.o
end
end Go.Proofs.YtknfbccbdiidjaaGreatDoor
