/- The walk of commit's Total. -/
import Derived.Test.YtknfbccbdiidjaaGreatDoorWu
import Derived.Test.YtknfbccbdiidjaaGreatDoorLLeq
import Derived.Test.YtknfbccbdiidjaaGreatDoorLLf4
namespace Go.Proofs.YtknfbccbdiidjaaGreatDoor
set_option linter.unusedVariables false
set_option linter.unusedSimpArgs false
open Go.ChangeShapes Go.WideShapes Go.ChangeAt Go.RowKit Go.Maps

section
variable {K s0 : List Wd} {S : Nat → Prop} {w w' : World} {g m0 m1 : Nat} {ls : List LeafT} {E : List (List Nat × Nat)} {Z : Nat → Nat → Prop}
theorem hash_eqC (a b : List Nat) (ha : IsHash a) (hb : IsHash b) (w : World) : (Op.equalIn 10000 27 (.agg (bcells a).toArray) (.agg (bcells b).toArray)).run Tryz.prog w = .ok (decide (a = b)) w := le_heq rfl 9998 ha hb w
theorem am_perm {a b : List LeafT} (h : a.Perm b) : amS a = amS b := by
 unfold amS
 exact (h.map _).sum_nat
theorem am_erase {ls : List LeafT} {y : LeafT} (h : y ∈ ls) : amS ls = y.am + amS (ls.erase y) := by
 rw [am_perm (List.perm_cons_erase h)]
 rfl
theorem am_sub : ∀ (ys ls : List LeafT), ys.Nodup → (∀ y ∈ ys, y ∈ ls) → amS ys ≤ amS ls
 | [], ls, _, _ => Nat.zero_le _
 | y :: ys, ls, hn, hm => by
  rw [List.nodup_cons] at hn
  have hy := hm y List.mem_cons_self
  rw [am_erase hy]
  have := am_sub ys (ls.erase y) hn.2 (fun x hx => (List.mem_erase_of_ne (fun e => hn.1 (by rw [← e]; exact hx))).2 (hm x (List.mem_cons_of_mem _ hx)))
  show y.am + amS ys ≤ _
  omega
theorem nodup_of_map {α β : Type} (f : α → β) {l : List α} (h : (l.map f).Nodup) : l.Nodup := by
 rw [List.Nodup, List.pairwise_map] at h
 exact h.imp (fun hne e => hne (congrArg f e))
theorem key_inj (h : (ls.map (keyK K s0)).Nodup) {a b : LeafT} (ha : a ∈ ls) (hb : b ∈ ls) (e : keyK K s0 a = keyK K s0 b) : a = b := by
 induction ls with
 | nil => cases ha
 | cons x ls ih =>
  rw [List.map_cons, List.nodup_cons] at h
  rcases List.mem_cons.1 ha with ha | ha
  · rcases List.mem_cons.1 hb with hb | hb
    · rw [ha, hb]
    · exact absurd (List.mem_map.2 ⟨b, hb, by rw [← e, ha]⟩) h.1
  · rcases List.mem_cons.1 hb with hb | hb
    · exact absurd (List.mem_map.2 ⟨a, ha, by rw [e, hb]⟩) h.1
    · exact ih h.2 ha hb
structure GoL (K s0 : List Wd) (w : World) (S : Nat → Prop) (g : Nat) (ls : List LeafT) (m0 m1 : Nat) (E : List (List Nat × Nat)) (Z : Nat → Nat → Prop) (r : Nat) (wr : World) (done : List (List Nat)) (ys : List LeafT) : Prop where
 iter : Iter wr m1 r (ls.map (entL K s0)) done
 keys : ys.map (keyK K s0) = done
 mem : ∀ y ∈ ys, y ∈ ls
 below : Below w.heap.size w wr
 lt : r < wr.heap.size
theorem GoL.nodup {r : Nat} {wr : World} {done : List (List Nat)} {ys : List LeafT} (h : GoL K s0 w S g ls m0 m1 E Z r wr done ys) : ys.Nodup := nodup_of_map (keyK K s0) (by rw [h.keys]; exact h.iter.nodup.1)
theorem GoL.all {r : Nat} {wr : World} {done : List (List Nat)} {ys : List LeafT} (h : GoL K s0 w S g ls m0 m1 E Z r wr done ys) (hk : (ls.map (keyK K s0)).Nodup) (hd : ∀ p ∈ ls.map (entL K s0), p.1 ∈ done) : ys.Perm ls := by
 refine (List.perm_ext_iff_of_nodup h.nodup (nodup_of_map (keyK K s0) hk)).2 fun x => ⟨fun hx => h.mem x hx, fun hx => ?_⟩
 have := hd _ (List.mem_map.2 ⟨x, hx, rfl⟩)
 rw [← h.keys] at this
 obtain ⟨y, hy, e⟩ := List.mem_map.1 this
 rw [← key_inj hk (h.mem y hy) hx e]
 exact hy
theorem ofId_perm {a b : List LeafT} (h : a.Perm b) (id : List Nat) : amS (ofId a id) = amS (ofId b id) := am_perm (h.filter _)
theorem boxes_tot (w : World) (LK : List Value) : ∃ W1, W1 = (w.alloc (.cells LK.toArray 27)) ∧
   Has W1 (w.heap.size) 27 LK.toArray ∧ Below w.heap.size w W1 := by
 refine ⟨_, rfl, ?_, ?_⟩
 · have := Has.new w 27 LK.toArray
   exact this
 · exact (Below.refl _ _).alloc (Nat.le_refl _) _
set_option maxRecDepth 100000 in
set_option maxHeartbeats 16000000 in
theorem coTotal_at (h : CmAt K s0 S w g ls m0 m1 E Z) (id : List Nat) (hid : IsHash id) :
  Calls Tryz.prog 32 #[.pointer (some ⟨g, 0, none⟩), arr id] w fun e w' => e = .returned (.int .u64 (amS (ofId ls id) : Int)) ∧ Below w.heap.size w w' := by
 obtain ⟨zl, hzl, -, Am, hzln, -⟩ := zero_leafT
 obtain ⟨LK, hLK⟩ : ∃ L, L = bcells id := ⟨_, rfl⟩
 unfold arr
 rw [← hLK]
 have Ah := Hh (show (Tryz.prog.info? 27).map (·.size) = some LK.toArray.size by rw [List.size_toArray, hLK, bcells_length, hid.1]; kernel_rfl)
 have Ay := Hh hLK
 have A1 := Hh hid
 have A4 := Hh Am
 have H := Hh h
 obtain ⟨W1, hW1, h1, hb1⟩ := boxes_tot w LK
 have h1c := h.quiet hb1
 obtain ⟨w0, Ak, hit, hk0, Al⟩ := range_is (T := 99) Tryz.underlying99 h1c.map1
 have hc1 := h1c.cells.2.1
 obtain ⟨r, hr⟩ : ∃ y, y = W1.heap.size := ⟨_, rfl⟩
 rw [← hr] at Ak hit
 have As := Hh (show GoL K s0 w S g ls m0 m1 E Z r w0 [] [] from ⟨hit, rfl, fun y hy => (by cases hy), hb1.trans (hk0.below hb1.size (fun _ e => e.elim)), by rw [Al]; omega⟩)
 have HB := Hh (h1.kept hk0 (fun e => e))
 have EW := Hh hW1
 have HR := Hh (show w.heap.size < r by rw [hr]; exact h1.lt)
 clear h h1c hit hk0 Al hr hW1 h1 hb1 hLK hid Am
 go_enter Tryz.func32, Tryz.ntmps32
 go_upto_region 1 with (fail)
 rw [← EW.o]
 obtain ⟨B, hB⟩ : ∃ y, y = w.heap.size := ⟨_, rfl⟩
 rw [← hB] at HB HR ⊢
 have EB := Hh hB
 clear hB EW
 go_wp2_with fail
 go_loopw [5] (fun sv wr => ∃ done ys, GoL K s0 w S g ls m0 m1 E Z r wr done ys ∧ sv = .int .u64 (amS (ofId ys id) : Int) ∧ Has wr B 27 LK.toArray) (fun _ wr => wr.rangeLeft m1 r)
 case atStart => exact ⟨_, _, As.o, rfl, HB.o⟩
 case round =>
  clear As Ak hc1 HB
  obtain ⟨done, ys, hgo, rfl, hbk⟩ := hrel
  rcases next_is hgo.iter 0 with ⟨hd, hnx⟩ | ⟨key, vv, w2, hmem, hnd, hkh, hnx, hit1, hk1, hsz1, hlt1, hen⟩
  · have HE := Hh (show amS (ofId ys id) = amS (ofId ls id) ∧ Below w.heap.size w wr from ⟨ofId_perm (hgo.all H.o.fine.keys hd) id, hgo.below⟩)
    clear hgo hd hbk
    go_wp2
    go_ret
    exact ⟨by rw [HE.o.1]; rfl, HE.o.2⟩
  · obtain ⟨l, hl, hee⟩ := List.mem_map.1 hmem
    obtain ⟨rfl, rfl⟩ : key = keyK K s0 l ∧ vv = .agg l.cells.toArray := by
     unfold entL at hee
     injection hee with e1 e2
     exact ⟨e1.symm, e2.symm⟩
    have Ab := H.o.fine.ok l hl
    obtain ⟨LC, hLC⟩ : ∃ L, L = l.cells := ⟨_, rfl⟩
    obtain ⟨LI, hLI⟩ : ∃ L, L = bcells l.id := ⟨_, rfl⟩
    obtain ⟨AM, hAM⟩ : ∃ x, x = l.am := ⟨_, rfl⟩
    obtain ⟨SM, hSM⟩ : ∃ x, x = amS (ofId ys id) := ⟨_, rfl⟩
    rw [← hLC] at hnx hen
    rw [← hSM]
    have hni : l ∉ ys := fun e => hnd (by rw [← hgo.keys]; exact List.mem_map.2 ⟨l, e, rfl⟩)
    have Aj : (ys ++ [l]).Nodup := by
     rw [List.nodup_append]
     exact ⟨hgo.nodup, by simp, fun a ha b hb e => hni (by rw [List.mem_singleton] at hb; rw [← hb, ← e]; exact ha)⟩
    have hms : ∀ y ∈ ys ++ [l], y ∈ ls := fun y hy => by
     rcases List.mem_append.1 hy with hy | hy
     · exact hgo.mem y hy
     · rw [List.mem_singleton.1 hy]; exact hl
    have hle : amS (ofId (ys ++ [l]) id) < 18446744073709551616 := by
     have a1 := am_sub _ _ Aj hms
     have a2 := of_le (ys ++ [l]) id
     have a3 := H.o.fine.fit
     omega
    have A5 := Hh (show (Tryz.prog.info? 32).map (·.size) = some LC.toArray.size by rw [List.size_toArray, hLC, LeafT.len Ab]; kernel_rfl)
    have A6 := Hh (show zl.size = LC.toArray.size by rw [A4.o, List.size_toArray, hLC, LeafT.len Ab])
    have Ar := Hh (show LC.toArray.all (·.oneCell') = true by rw [hLC]; exact LeafT.one l)
    have Ax := Hh (show (Tryz.prog.info? 27).map (·.size) = some LI.length by rw [hLI, bcells_length, Ab.id.1]; kernel_rfl)
    have Az := Hh (show ∀ (v : World) B, Has v B 32 LC.toArray → v.cell? ⟨B, 32, none⟩ = some (.int .u64 (AM : Int)) ∧ v.rangeAt B 0 LI from fun v B hv => by rw [hLC] at hv; exact ⟨by rw [hAM]; exact hv.cell_is (by rw [List.getElem?_toArray]; exact LeafT.at_am Ab), by rw [hLI]; exact coL_id hv⟩)
    have A0 := Hh (show ∀ v, (Op.equalIn 10000 27 (.agg LI.toArray) (.agg LK.toArray)).run Tryz.prog v = .ok (decide (l.id = id)) v from fun v => by rw [hLI, Ay.o]; exact hash_eqC l.id id Ab.id A1.o v)
    have Av := Hh (show ∀ C, Has ((w2.alloc (.cells zl 32)).setRow w2.heap.size C) w2.heap.size 32 C ∧ Kept (fun _ => False) w2 ((w2.alloc (.cells zl 32)).setRow w2.heap.size C) from fun C => by
     rw [World.setRow_alloc_new]
     exact ⟨Has.new w2 _ _, (Kept.refl _ _).alloc _⟩)
    have hrB : w.heap.size ≤ r := by have a1 := HR.o; have a2 := EB.o; omega
    have Ai : GoL K s0 w S g ls m0 m1 E Z r w2 (done ++ [keyK K s0 l]) (ys ++ [l]) := ⟨hit1, by rw [List.map_append, hgo.keys]; rfl, hms, hgo.below.trans (hk1.below hgo.below.size (fun k e => by rw [show k = r from e]; exact hrB)), Nat.lt_of_lt_of_le hgo.lt hk1.size⟩
    have Aa := Hh Ai
    have Ae := Hh (hbk.kept hk1 (fun e => by have a1 := HR.o; have a2 : B = r := e; omega))
    have Ag := Hh hlt1
    have A2 := Hh hle
    have Aq := Hh (show amS (ofId (ys ++ [l]) id) = SM + (if l.id = id then AM else 0) by
     rw [ofId_snoc, amS_app, ← hSM, hAM]
     by_cases e : l.id = id
     · rw [if_pos e, if_pos e, amS_one]
     · rw [if_neg e, if_neg e]; rfl)
    clear hgo hmem hee Ab hLC hLI hAM hSM hni Aj hms hle hnd hit1 hk1 hlt1 Ai hbk hl hkh hrB hsz1
    go_upto_region 7 with (refine wpList_store_row rfl 32 (.tmp 7) (.tmp 18) rfl w2.heap.size LC.toArray rfl rfl 32 zl (heap_alloc_new w2 _) A5.o A6.o Ar.o ?_)
    obtain ⟨h9, hk9⟩ := Av.o LC.toArray
    have Ac : GoL K s0 w S g ls m0 m1 E Z r ((w2.alloc (.cells zl 32)).setRow w2.heap.size LC.toArray) (done ++ [keyK K s0 l]) (ys ++ [l]) := ⟨Aa.o.iter.kept hk9 (fun e => e) (fun e => e), Aa.o.keys, Aa.o.mem, Aa.o.below.trans (hk9.below Aa.o.below.size (fun _ e => e.elim)), Nat.lt_of_lt_of_le Aa.o.lt hk9.size⟩
    have Ad := Aa.o.iter.left_kept hk9 (fun e => e) (fun e => e)
    have hb9 := Ae.o.kept hk9 (fun e => e)
    clear hk9 Av Ae hnx hen
    generalize (w2.alloc (.cells zl 32)).setRow w2.heap.size LC.toArray = W5 at h9 Ac Ad hb9 ⊢
    generalize w2.heap.size = G5 at h9 ⊢
    obtain ⟨c32, hri⟩ := Az.o W5 G5 h9
    have Aw := Hh hri
    have An := Hh hb9
    have Af := Hh Ac
    have Au := Hh (show W5.rangeLeft m1 r < wr.rangeLeft m1 r by rw [Ad]; exact Ag.o)
    have heq := A0.o W5
    obtain ⟨bq, hbq⟩ : ∃ b, b = decide (l.id = id) := ⟨_, rfl⟩
    rw [← hbq] at heq
    have Ao := Hh hbq
    clear hri hb9 Ac Ad hbq h9 Ag
    have hwr : bq = true → IntKind.u64.wrap ((SM : Int) + (AM : Int)) = ((SM + AM : Nat) : Int) := fun e => by
     have e2 : l.id = id := of_decide_eq_true (by rw [← Ao.o]; exact e)
     have a1 := A2.o
     rw [Aq.o, if_pos e2] at a1
     rw [IntKind.wrap_u64]
     omega
    have A3 := Hh hwr
    clear hwr
    cases bq with
    | true =>
     have Ap := Hh (show amS (ofId (ys ++ [l]) id) = SM + AM by rw [Aq.o, if_pos (of_decide_eq_true Ao.o.symm)])
     have hwr := A3.o rfl
     go_wp2_with (first
       | (refine wpList_load_mid rfl 27 (.tmp 19) rfl G5 0 rfl LI _ Aw.o Tryz.underlying27 rfl Ax.o ?_)
       | (refine wpList_load_row rfl 27 (.tmp 3) rfl B rfl 27 LK.toArray (0, 0) _ An.o Tryz.underlying27 rfl Ah.o ?_))
     go_roundw
     case rel => exact ⟨_, _, Af.o, by rw [Ap.o]; go_num, An.o⟩
     case measure => exact Au.o
    | false =>
     have Ap := Hh (show amS (ofId (ys ++ [l]) id) = SM by rw [Aq.o, if_neg (of_decide_eq_false Ao.o.symm)]; rfl)
     go_wp2_with (first
       | (refine wpList_load_mid rfl 27 (.tmp 19) rfl G5 0 rfl LI _ Aw.o Tryz.underlying27 rfl Ax.o ?_)
       | (refine wpList_load_row rfl 27 (.tmp 3) rfl B rfl 27 LK.toArray (0, 0) _ An.o Tryz.underlying27 rfl Ah.o ?_))
     go_roundw
     case rel => exact ⟨_, _, Af.o, by rw [Ap.o], An.o⟩
     case measure => exact Au.o
end
/- The walks of Lead and Check: what an output says, by a proof. -/

structure Pf where
 b : List Nat
 a : Option Addr
 n : Nat
 c : Nat
 xs : List Nd
def Pf.cells (p : Pf) : List Value := pcells p.b p.a p.n p.c
structure Pf.At (p : Pf) (w : World) : Prop where
 hash : IsHash p.b
 nodes : NodesAt w p.a p.n p.xs
 cap : p.n ≤ 1000000
theorem Pf.At.below {p : Pf} {w w' : World} (h : p.At w) (hb : Below w.heap.size w w') : p.At w' := ⟨h.hash, h.nodes.below hb, h.cap⟩
def lowR (K s0 : List Wd) (p : Pf) (l : LeafT) : Except Nat Nd := pfRoot K s0 (bareB p.b) (keyK K s0 l) p.xs (leafNd K s0 (leafB l) l.am)
def highR (K s0 : List Wd) (q : Pf) (id : List Nat) (n : Nd) : Except Nat Nd := pfRoot K s0 (bareB q.b) id q.xs (leafNd K s0 n.h n.s)
def leadR (K s0 : List Wd) (p q : Pf) (l : LeafT) : Except Nat (List Nat) :=
 if leafBad l = true then .error 1 else match lowR K s0 p l with
  | .error e => .error e
  | .ok n => match highR K s0 q l.id n with
   | .error e => .error e
   | .ok m => .ok (anchorK K s0 m)
def leadE : Except Nat (List Nat) → Nat
 | .error e => e
 | .ok _ => 0
def leadH : Except Nat (List Nat) → List Nat
 | .error _ => List.replicate 32 0
 | .ok h => h
def waysC (p q : Pf) : List Value := p.cells ++ q.cells
theorem waysC_len {p q : Pf} (hp : IsHash p.b) (hq : IsHash q.b) : (waysC p q).length = 66 := by
 unfold waysC Pf.cells
 rw [List.length_append, pcells_len hp, pcells_len hq]
theorem waysC_one (p q : Pf) : (waysC p q).toArray.all (·.oneCell') = true := by
 refine all_oneCell_toArray fun v hv => ?_
 have e : ∀ r : Pf, ∀ v ∈ r.cells, v.oneCell' = true := fun r v hv => by
   have := pcells_one r.b r.a r.n r.c
   rw [Array.all_eq_true'] at this
   exact this v (by simpa [Pf.cells] using hv)
 rcases List.mem_append.1 hv with hv | hv
 · exact e p v hv
 · exact e q v hv
theorem ways_at {v : World} {B : Nat} {p q : Pf} (hp : IsHash p.b) (h : Has v B 41 (waysC p q).toArray) : v.rangeAt B 0 p.cells ∧ v.rangeAt B 33 q.cells := by
 have hl : p.cells.length = 33 := pcells_len hp _ _ _
 refine ⟨fun j u hu => ?_, fun j u hu => ?_⟩
 · rw [Nat.zero_add]
   refine h.cell_is ?_
   rw [List.getElem?_toArray]
   unfold waysC
   rw [List.getElem?_append_left (List.getElem?_eq_some_iff.1 hu).1]
   exact hu
 · refine h.cell_is ?_
   rw [List.getElem?_toArray]
   unfold waysC
   rw [List.getElem?_append_right (by omega), hl, show 33 + j - 33 = j by omega]
   exact hu
theorem zero_nodeA : ∃ Z : Array Value, (∀ w, (zeroValue 30).run Tryz.prog w = .ok (.agg Z) w) ∧ Z.size = 33 ∧ ¬ Z = #[] := by
 have hs : (ndV zNd).toArray.size = 33 := by kernel_rfl
 exact ⟨(ndV zNd).toArray, fun w => by kernel_rfl, hs, fun e => by rw [e] at hs; cases hs⟩
theorem results_cellA_tmp {fn : Func} {p q : Tmp} {ty e n : TypeId} (h : fn.results = #[.cell p ty, .tmp q]) (tmps : Array Value) (w : World) (g : Nat) (t : TypeId) (cs : Array Value) (fr : Nat × Nat) (v : Value)
  (hp : tmps.getD p undef = .pointer (some ⟨g, 0, none⟩)) (hq : tmps.getD q undef = v) (hg : w.heap[g]? = some (.cells cs t fr))
  (hu : Tryz.prog.underlying ty = some (.array n e)) (hi : (Tryz.prog.info? ty).map (·.size) = some cs.size) :
  (results fn tmps).run Tryz.prog w = .ok (.tuple #[.agg cs, v]) w := by
 have hp' : tmps[p]?.getD undef = .pointer (some ⟨g, 0, none⟩) := by simpa using hp
 have hq' : tmps[q]?.getD undef = v := by simpa using hq
 simp [results, h, hp', hq', asAddr, run_loadVar_row w g t ty cs fr _ hg hu rfl hi]
theorem bytes_up {w w' : World} {v : Value} {b : List Nat} (h : Bytes w w.heap.size v b) (hb : Below w.heap.size w w') : Bytes w' w'.heap.size v b := by
 obtain ⟨a, c, e, h1, h2, h3⟩ := h
 refine ⟨a, c, e, h1, h2, fun h0 => ?_⟩
 obtain ⟨bg, bo, e2, hne, hc⟩ := h3 h0
 have hlt : bg < w.heap.size := by
  have := hc 0 h0
  exact World.block_lt_of_cell? w _ this
 refine ⟨bg, bo, e2, by have := hb.size; omega, fun i hi => ?_⟩
 exact cell_held (Kept.of_below (S := fun _ => False) hb) (hc i hi) (fun e => e)
theorem leafB_123 {l : LeafT} (hl : l.ok) : (leafB l).length = 123 := by
 have e1 := hl.id.1
 have e2 := hl.ow.1
 have e3 := hl.sp.1
 unfold leafB
 rw [List.length_flatMap]
 unfold recsOf recB
 simp [List.length_append, e1, e2, e3, eight_len', szB]
theorem build_h0C (w : World) : (Instr.build 27 #[]).run Tryz.prog w = .ok (.agg (bcells (List.replicate 32 0)).toArray) w := by kernel_rfl
theorem boxes_lead (w : World) (LW LC : List Value) (Z : Array Value) : ∃ W1, W1 = (((((w.alloc (.cells LW.toArray 41))).alloc (.cells LC.toArray 32))).alloc (.cells Z 27)) ∧
   Has W1 (w.heap.size) 41 LW.toArray ∧ Has W1 (w.heap.size + 1) 32 LC.toArray ∧ Has W1 (w.heap.size + 1 + 1) 27 Z ∧ Below w.heap.size w W1 := by
 refine ⟨_, rfl, ?_, ?_, ?_, ?_⟩
 · have := Has.new w 41 LW.toArray
   exact ((this).alloc _).alloc _
 · have := Has.new (w.alloc (.cells LW.toArray 41)) 32 LC.toArray
   exact ((by simpa using this : Has _ (w.heap.size + 1) _ _)).alloc _
 · have := Has.new (((w.alloc (.cells LW.toArray 41))).alloc (.cells LC.toArray 32)) 27 Z
   exact (by simpa using this : Has _ (w.heap.size + 1 + 1) _ _)
 · exact (((Below.refl _ _).alloc (Nat.le_refl _) _).alloc (by simp) _).alloc (by simp; omega) _
theorem lead_err1 {K s0 : List Wd} {p q : Pf} {l : LeafT} {e : Nat} (hb : ¬ leafBad l = true) (h : lowR K s0 p l = .error e) : leadR K s0 p q l = .error e := by
 unfold leadR
 rw [if_neg hb, h]
theorem lead_err2 {K s0 : List Wd} {p q : Pf} {l : LeafT} {e : Nat} {n : Nd} (hb : ¬ leafBad l = true) (h1 : lowR K s0 p l = .ok n) (h2 : highR K s0 q l.id n = .error e) : leadR K s0 p q l = .error e := by
 unfold leadR
 rw [if_neg hb, h1]
 dsimp only
 rw [h2]
theorem lead_ok {K s0 : List Wd} {p q : Pf} {l : LeafT} {n m : Nd} (hb : ¬ leafBad l = true) (h1 : lowR K s0 p l = .ok n) (h2 : highR K s0 q l.id n = .ok m) : leadR K s0 p q l = .ok (anchorK K s0 m) := by
 unfold leadR
 rw [if_neg hb, h1]
 dsimp only
 rw [h2]
theorem pf_case {K s0 : List Wd} {bare : Nat → Bool} {key : List Nat} {nodes : List Nd} {n0 : Nd} {R : Except Nat Nd} (h : R = pfRoot K s0 bare key nodes n0) : (pfE R = 0 ∧ R = .ok (pfN R)) ∨ (pfE R ≠ 0 ∧ R = .error (pfE R)) := by
 cases R with
 | error e =>
  refine .inr ⟨?_, rfl⟩
  show e ≠ 0
  rcases pf_errs h.symm with e1 | e1 | e1 | e1 <;> rw [e1] <;> decide
 | ok n => exact .inl ⟨rfl, rfl⟩
theorem al_step {w W : World} (h : Below W.heap.size W w) (Z : Array Value) (t : TypeId) : ∃ xa G9, xa = w.alloc (.cells Z t) ∧ G9 = w.heap.size ∧ Below W.heap.size W xa ∧ Has xa G9 t Z ∧ W.heap.size ≤ G9 ∧ Below w.heap.size w xa :=
 ⟨_, _, rfl, rfl, h.alloc h.size _, Has.new _ _ _, h.size, (Below.refl _ _).alloc (Nat.le_refl _) _⟩
def RootF (K s0 : List Wd) (S : Nat → Prop) (V : World) (LL KL LP : List Value) (bs : List Nat) (am : Nat) (R : Except Nat Nd) (u : Nat) : Prop :=
 (∀ v, Kept S V v → Calls Tryz.prog 17 #[.agg LL.toArray] v fun e w' => e = .returned (.agg KL.toArray) ∧ Below v.heap.size v w') ∧
 (∀ v, Calls Tryz.prog 18 #[.agg LL.toArray] v fun e w' => ∃ sa sc, e = .returned (leafV (.slice sa bs.length sc) am) ∧ Bytes w' w'.heap.size (.slice sa bs.length sc) bs ∧ Below v.heap.size v w') ∧
 (∀ v sa sc, Kept S V v → Bytes v v.heap.size (.slice sa bs.length sc) bs → Calls Tryz.prog 16 #[.agg LP.toArray, .agg KL.toArray, leafV (.slice sa bs.length sc) am] v fun e w' => e = .returned (.tuple #[.agg (ndV (pfN R)).toArray, .int .i64 (u : Int)]) ∧ Below v.heap.size v w')
theorem root_f {K s0 : List Wd} (h8 : s0.length = 8) {S : Nat → Prop} {V : World} {p : Pf} {l : LeafT} {LL KL LP : List Value} {R : Except Nat Nd} {u : Nat} (hS : ∀ v, Kept S V v → Tabs K s0 v ∧ p.At v) (hl : l.ok) (hg : ¬ leafBad l = true) (hLL : LL = l.cells) (hKL : KL = bcells (keyK K s0 l)) (hLP : LP = p.cells) (hR : R = lowR K s0 p l) (hu : u = pfE R) :
   RootF K s0 S V LL KL LP (leafB l) l.am R u := by
 refine ⟨fun v hv => ?_, fun v => ?_, fun v sa sc hv hb => ?_⟩
 · have h := lfKey_is K s0 v (hS v hv).1 l hl
   unfold arr at h
   rw [← hLL, ← hKL] at h
   exact h
 · have h := lfSum_is v l hl
   rw [← hLL] at h
   refine h.mono fun e w' ⟨h1, h2⟩ => ?_
   obtain ⟨sv, e1, ⟨sa, sc, e2, hb⟩⟩ := sum_good hg h2
   subst e2
   exact ⟨sa, sc, e1, ⟨_, _, rfl, hb⟩, h1⟩
 · have h := pfRoot_is K s0 v (hS v hv).1 p.b (hS v hv).2.hash p.a p.n p.c p.xs (hS v hv).2.nodes (hS v hv).2.cap (keyK K s0 l) (tagD_hash K s0 h8 _ _) sa (leafB l) sc l.am hb (by rw [leafB_123 hl]; decide) hl.am R hR
   unfold arr at h
   rw [← hKL, ← hu] at h
   rw [hLP]
   exact h
set_option maxRecDepth 100000 in
set_option maxHeartbeats 16000000 in
theorem coLead_is (K s0 : List Wd) (w : World) (hT : Tabs K s0 w) (p q : Pf) (hp : p.At w) (hq : q.At w) (l : LeafT) (hl : l.ok) :
   Calls Tryz.prog 13 #[.agg (waysC p q).toArray, .agg l.cells.toArray] w fun e w' => e = .returned (.tuple #[arr (leadH (leadR K s0 p q l)), .int .i64 (leadE (leadR K s0 p q l) : Nat)]) ∧ Below w.heap.size w w' := by
 obtain ⟨zk, hzk, A5, hzkn⟩ := zero_hashT
 obtain ⟨zn, hzn, A6, hznn⟩ := zero_nodeA
 obtain ⟨LW, hLW⟩ : ∃ L, L = waysC p q := ⟨_, rfl⟩
 obtain ⟨LC, hLC⟩ : ∃ L, L = l.cells := ⟨_, rfl⟩
 obtain ⟨LP, hLP⟩ : ∃ L, L = p.cells := ⟨_, rfl⟩
 obtain ⟨LQ, hLQ⟩ : ∃ L, L = q.cells := ⟨_, rfl⟩
 obtain ⟨KL, hKL⟩ : ∃ L, L = bcells (keyK K s0 l) := ⟨_, rfl⟩
 obtain ⟨LI, hLI⟩ : ∃ L, L = bcells l.id := ⟨_, rfl⟩
 obtain ⟨R, hR⟩ : ∃ R, R = leadR K s0 p q l := ⟨_, rfl⟩
 obtain ⟨ZH, hZH⟩ : ∃ y, y = bcells (List.replicate 32 0) := ⟨_, rfl⟩
 rw [← hLW, ← hLC, ← hR]
 unfold arr
 have B7 := Hh (show (Tryz.prog.info? 32).map (·.size) = some LC.toArray.size by rw [List.size_toArray, hLC, LeafT.len hl]; kernel_rfl)
 have A4 := Hh (show (Tryz.prog.info? 32).map (·.size) = some LC.length by rw [hLC, LeafT.len hl]; kernel_rfl)
 have B9 := Hh (show (Tryz.prog.info? 39).map (·.size) = some LP.length by rw [hLP, show p.cells.length = 33 from pcells_len hp.hash _ _ _]; kernel_rfl)
 have Ca := Hh (show (Tryz.prog.info? 39).map (·.size) = some LQ.length by rw [hLQ, show q.cells.length = 33 from pcells_len hq.hash _ _ _]; kernel_rfl)
 have B8 := Hh (show (Tryz.prog.info? 27).map (·.size) = some LI.length by rw [hLI, bcells_length, hl.id.1]; kernel_rfl)
 have Bn := Hh (show ∀ D : List Nat, IsHash D → (Tryz.prog.info? 27).map (·.size) = some (bcells D).toArray.size ∧ zk.size = (bcells D).toArray.size from fun D hD => ⟨by rw [List.size_toArray, bcells_length, hD.1]; kernel_rfl, by rw [A5, List.size_toArray, bcells_length, hD.1]⟩)
 have Ae := Hh (show ∀ n : Nd, IsHash n.h → (Tryz.prog.info? 30).map (·.size) = some (ndV n).toArray.size ∧ zn.size = (ndV n).length from fun n hn => ⟨by rw [List.size_toArray, ndV_len hn]; kernel_rfl, by rw [A6, ndV_len hn]⟩)
 have Bc := Hh (show ∀ v, (Instr.build 27 #[]).run Tryz.prog v = .ok (.agg ZH.toArray) v from fun v => by rw [hZH]; exact build_h0C v)
 have Bx := Hh (show ∀ (v : World) B, Has v B 41 LW.toArray → v.rangeAt B 0 LP ∧ v.rangeAt B 33 LQ from fun v B h => by rw [hLP, hLQ]; exact ways_at hp.hash (by rw [← hLW]; exact h))
 have B5 := Hh (show ∀ (v : World) B, Has v B 32 LC.toArray → v.rangeAt B 0 LI from fun v B h => by rw [hLI]; exact coL_id (by rw [← hLC]; exact h))
 have EP := Hh hLP
 have EQ := Hh hLQ
 have Bq := Hh hLC
 have B0 := Hh hKL
 have B2 := Hh hLI
 have ER := Hh hR
 have A7 := Hh hZH
 have HP := Hh hp
 have HQ := Hh hq
 have HL := Hh hl
 have HT := Hh hT
 have Bj := Hh (show ∀ v, Below w.heap.size w v → Tabs K s0 v from fun v hv => hT.below hv hT.low)
 obtain ⟨W1, hW1, h1, h2, h3, hb1⟩ := boxes_lead w LW LC zk
 have EW := Hh hW1
 have H1 := Hh h1
 have H2 := Hh h2
 have H3 := Hh h3
 have Bb := Hh hb1
 clear hLW hLC hLP hLQ hKL hLI hR hZH hp hq hl hT hW1 h1 h2 h3 hb1 A5 A6
 go_enter Tryz.func13, Tryz.ntmps13
 go_upto_region 1 with (fail)
 rw [← EW.o]
 obtain ⟨B, hB⟩ : ∃ y, y = w.heap.size := ⟨_, rfl⟩
 rw [← hB] at H1 H2 H3 ⊢
 have EB := Hh hB
 clear hB EW
 go_wp2_with (refine wpList_load_row rfl 32 (.tmp 3) rfl (B + 1) rfl 32 LC.toArray (0, 0) _ H2.o Tryz.underlying32 rfl B7.o ?_)
 have hck := leafCheck_is W1 l HL.o
 rw [← Bq.o] at hck
 obtain ⟨c, hc⟩ : ∃ c, c = leafE l := ⟨_, rfl⟩
 rw [← hc] at hck
 have Bv := Hh hck
 have EC := Hh hc
 clear hck hc
 refine Bv.o.mono ?_
 rintro _ W2 ⟨rfl, hW2⟩
 have hb2 : Below W1.heap.size W1 W2 := by rw [hW2]; exact (Below.refl _ _).alloc (Nat.le_refl _) _
 have As := Hh (Bb.o.trans (hb2.mono Bb.o.size))
 have A0 := Hh (H1.o.below hb2 H1.o.lt)
 have Aw := Hh (H2.o.below hb2 H2.o.lt)
 have A1 := Hh (H3.o.below hb2 H3.o.lt)
 clear hW2 hb2 H1 H2 H3 Bb Bv
 have Ao := Hh (show ∀ (v : World), Has v (B + 2) 27 zk → Below w.heap.size w v → Has (v.setRow (B + 2) ZH.toArray) (B + 2) 27 ZH.toArray ∧ Below w.heap.size w (v.setRow (B + 2) ZH.toArray) from fun v h hb => by
   refine ⟨h.setRow, hb.trans ((kept_setRow (g := B + 2) v ZH.toArray).below hb.size (fun j e => by have e' : j = B + 2 := e; have := EB.o; omega))⟩)
 have Ah := Hh (show (Tryz.prog.info? 27).map (·.size) = some ZH.toArray.size ∧ zk.size = ZH.toArray.size ∧ ZH.toArray.all (·.oneCell') = true by
   rw [A7.o]
   have hz : IsHash (List.replicate 32 0) := ⟨rfl, fun k hk => by rw [List.eq_of_mem_replicate hk]; decide⟩
   exact ⟨(Bn.o _ hz).1, (Bn.o _ hz).2, all_oneCell_toArray (bcells_one _)⟩)
 by_cases hbad : leafBad l = true
 · have hc1 : c = 1 := by rw [EC.o]; unfold leafE; rw [if_pos hbad]
   have HF := Hh (show R = .error 1 by rw [ER.o]; unfold leadR; rw [if_pos hbad])
   subst hc1
   clear hbad
   go_wp2_with (first
    | (refine wpList_build_run rfl 27 #[] rfl #[] (by kernel_rfl) (.agg ZH.toArray) (Bc.o _) ?_)
    | (refine wpList_store_row rfl 27 (.tmp 4) (.tmp 14) rfl (B + 2) ZH.toArray rfl rfl 27 zk A1.o Ah.o.1 Ah.o.2.1 Ah.o.2.2 ?_))
   have HS := Hh (Ao.o W2 A1.o As.o)
   refine bodyPost_ret (results_cellA_tmp rfl _ _ (B + 2) 27 ZH.toArray (0, 0) _ rfl rfl HS.o.1 Tryz.underlying27 Ah.o.1) rfl ?_
   exact ⟨by rw [HF.o, A7.o]; rfl, HS.o.2⟩
 · have hc0 : c = 0 := by rw [EC.o]; unfold leafE; rw [if_neg hbad]
   have Ai := Hh hbad
   subst hc0
   clear hbad
   obtain ⟨R1, hR1⟩ : ∃ R, R = lowR K s0 p l := ⟨_, rfl⟩
   have hn1 : IsHash (pfN R1).h ∧ (pfN R1).s < 18446744073709551616 := by
    rw [hR1]
    exact ⟨pf_hash HT.o.len (leaf_hash K s0 HT.o.len _ _), pf_fits HL.o.am⟩
   have Av := Hh hR1
   have Af := Hh hn1
   obtain ⟨u1, hu1⟩ : ∃ u, u = pfE R1 := ⟨_, rfl⟩
   have Aq := pf_case Av.o
   rw [← hu1] at Aq
   have Ax := Hh Aq
   have B3 := Hh hu1
   clear hu1 Aq
   clear hR1 hn1
   go_upto_region 4 with (fail)
   go_cut [7, 8] from 10 (fun v7 v8 wx => ∃ G7, v7 = .pointer (some ⟨G7, 0, none⟩) ∧ v8 = .int .i64 (u1 : Int) ∧ Has wx G7 30 (ndV (pfN R1)).toArray ∧ Below W2.heap.size W2 wx)
   case first =>
    have hS0 : Below W2.heap.size W2 W2.drew := (Below.refl _ _).drew
    have Bh := Hh (show ∀ v, Below W2.heap.size W2 v → v.rangeAt B 0 LP ∧ v.rangeAt (B + 1) 0 LC from fun v hv => ⟨(Bx.o v B (A0.o.below hv A0.o.lt)).1, (Aw.o.below hv Aw.o.lt).row0⟩)
    have Aj := Hh (root_f HT.o.len (S := fun _ => False) (V := W2) (fun v hv => by have hb := As.o.trans ((hv.below (Nat.le_refl _) (fun _ h => h.elim)).mono As.o.size); exact ⟨Bj.o v hb, HP.o.below hb⟩) HL.o Ai.o Bq.o B0.o EP.o Av.o B3.o)
    refine wp_region_noPanic ?_
    refine wp_region_held_drew (S := (fun v => Below W2.heap.size W2 v)) (by kernel_rfl) hS0 (fun hH0 => ?_)
    apply tl 0 rfl ?hv hH0 ?_
    case hv => intro w' hS; go_simp; try rfl
    simp only [qc]
    refine tk 1 (v := (.agg LP.toArray)) rfl (yieldsIf_load_mid (by kernel_rfl) 39 (.tmp 17) rfl B 0 rfl LP _ (fun w' h => (Bh.o _ h).1) Tryz.underlying39 rfl B9.o) hH0 ?_
    simp only [qc]
    refine tk 2 (v := (.agg LC.toArray)) rfl (yieldsIf_load_mid (by kernel_rfl) 32 (.tmp 3) rfl (B + 1) 0 rfl LC _ (fun w' h => (Bh.o _ h).2) Tryz.underlying32 rfl A4.o) hH0 ?_
    simp only [qc]
    refine tk 4 (v := (.agg LC.toArray)) rfl (yieldsIf_load_mid (by kernel_rfl) 32 (.tmp 3) rfl (B + 1) 0 rfl LC _ (fun w' h => (Bh.o _ h).2) Tryz.underlying32 rfl A4.o) hH0 ?_
    simp only [qc]
    refine rdy [3, 10] (AllReadyH.cons rfl (fun KK hKK => ?_) (ar1 rfl fun KK hKK => ?_))
    · go_simp
      refine (Aj.o.1 _ (Kept.of_below hH0)).mono ?_
      rintro _ xk ⟨rfl, hbk⟩
      have hs3 := Below.trans hH0 (hbk.mono hH0.size)
      try replace hz9 := hz9.below hbk hz9.lt
      clear hbk
      refine hKK _ _ hs3 fun hH1 => ?_
      clear hKK KK
      try simp only [qc]
      refine rdy [5, 10] (AllReadyH.cons rfl (fun KK hKK => ?_) (ar1 rfl fun KK hKK => ?_))
      · go_simp
        refine (Aj.o.2.1 xk).mono ?_
        rintro _ xs ⟨sa, sc, rfl, hbw, hbs⟩
        have hs5 := Below.trans hH1 (hbs.mono hH1.size)
        try replace hz9 := hz9.below hbs hz9.lt
        clear hbs
        refine hKK _ _ hs5 fun hH2 => ?_
        clear hKK KK
        try simp only [qc]
        refine rdy [6, 10] (AllReadyH.cons rfl (fun KK hKK => ?_) (ar1 rfl fun KK hKK => ?_))
        · go_simp
          refine (Aj.o.2.2 _ sa sc (Kept.of_below hH2) hbw).mono ?_
          rintro _ xr ⟨rfl, hbr⟩
          have hs6 := Below.trans hH2 (hbr.mono hH2.size)
          try replace hz9 := hz9.below hbr hz9.lt
          clear hbr hbw
          refine hKK _ _ hs6 fun hH3 => ?_
          clear hKK KK
          try simp only [qc]
          apply tl 7 rfl ?hv hH3 ?_
          case hv => intro w' hS; go_simp; try rfl
          simp only [qc]
          apply tl 8 rfl ?hv hH3 ?_
          case hv => intro w' hS; go_simp; try rfl
          simp only [qc]
          apply tl 9 rfl ?hv hH3 ?_
          case hv => intro w' hS; go_simp; try rfl
          simp only [qc]
          refine rdy [10] (ar1 rfl fun KK hKK => ?_)
          go_simp
          obtain ⟨xa, G9, hxa, hG9, Ad, hz9, hg9, Ac⟩ := al_step (W := W2) hH3 zn 30
          first | rw [← hxa] | (change KK _ (xr.alloc (.cells zn 30)); rw [← hxa])
          first | rw [← hG9] | (have hq : W2.heap.size = G9 := hG9.symm; rw [hq]; clear hq)
          clear hG9 hxa
          try replace hbw := bytes_up hbw Ac
          clear Ac
          refine hKK _ _ Ad fun hH4 => ?_
          clear hKK KK
          try simp only [qc]
          refine rdy [11] (ar1 rfl fun KK hKK => ?_)
          refine step_store_mid rfl 30 (.tmp 7) (.tmp 24) rfl G9 0 (ndV (pfN R1)).toArray rfl rfl (hz9.there 0 _ (by rw [List.size_toArray, (Ae.o _ Af.o.1).2]; exact Nat.le_of_eq (Nat.zero_add _))) (Ae.o _ Af.o.1).1 (ndV_one _) ?_
          have Aa := set_box hH4 hz9 hg9 (Below.size hH4) (Ae.o _ Af.o.1).2
          obtain ⟨xb, hxb⟩ : ∃ y, y = xa.setCells G9 0 (ndV (pfN R1)) := ⟨_, rfl⟩
          rw [← hxb] at Aa
          change KK _ (xa.setCells G9 0 (ndV (pfN R1)))
          rw [← hxb]
          have Ab := Aa.1
          clear hxb
          refine hKK _ _ Ab fun hH5 => ?_
          clear hKK KK
          try simp only [qc]
          apply tl 12 rfl ?hv hH5 ?_
          case hv => intro w' hS; go_simp; try rfl
          simp only [qc]
          refine wpAnyH_done (by kernel_rfl) ?_ _
          refine NoPanic.normal ?_
          have HG := Hh Aa.2.1
          have HS := Hh Ab
          clear Aa Ab
          go_wp2_with fail
          go_meet
          case rel => exact ⟨G9, rfl, rfl, HG.o, HS.o⟩
        · go_simp
          obtain ⟨xa, G9, hxa, hG9, Ad, hz9, hg9, Ac⟩ := al_step (W := W2) hH2 zn 30
          first | rw [← hxa] | (change KK _ (xs.alloc (.cells zn 30)); rw [← hxa])
          first | rw [← hG9] | (have hq : W2.heap.size = G9 := hG9.symm; rw [hq]; clear hq)
          clear hG9 hxa
          try replace hbw := bytes_up hbw Ac
          clear Ac
          refine hKK _ _ Ad fun hH3 => ?_
          clear hKK KK
          try simp only [qc]
          refine rdy [6] (ar1 rfl fun KK hKK => ?_)
          go_simp
          refine (Aj.o.2.2 _ sa sc (Kept.of_below hH3) hbw).mono ?_
          rintro _ xr ⟨rfl, hbr⟩
          have hs6 := Below.trans hH3 (hbr.mono hH3.size)
          try replace hz9 := hz9.below hbr hz9.lt
          clear hbr hbw
          refine hKK _ _ hs6 fun hH4 => ?_
          clear hKK KK
          try simp only [qc]
          apply tl 7 rfl ?hv hH4 ?_
          case hv => intro w' hS; go_simp; try rfl
          simp only [qc]
          apply tl 8 rfl ?hv hH4 ?_
          case hv => intro w' hS; go_simp; try rfl
          simp only [qc]
          apply tl 9 rfl ?hv hH4 ?_
          case hv => intro w' hS; go_simp; try rfl
          simp only [qc]
          refine rdy [11] (ar1 rfl fun KK hKK => ?_)
          refine step_store_mid rfl 30 (.tmp 7) (.tmp 24) rfl G9 0 (ndV (pfN R1)).toArray rfl rfl (hz9.there 0 _ (by rw [List.size_toArray, (Ae.o _ Af.o.1).2]; exact Nat.le_of_eq (Nat.zero_add _))) (Ae.o _ Af.o.1).1 (ndV_one _) ?_
          have Aa := set_box hH4 hz9 hg9 (Below.size hH4) (Ae.o _ Af.o.1).2
          obtain ⟨xb, hxb⟩ : ∃ y, y = xr.setCells G9 0 (ndV (pfN R1)) := ⟨_, rfl⟩
          rw [← hxb] at Aa
          change KK _ (xr.setCells G9 0 (ndV (pfN R1)))
          rw [← hxb]
          have Ab := Aa.1
          clear hxb
          refine hKK _ _ Ab fun hH5 => ?_
          clear hKK KK
          try simp only [qc]
          apply tl 12 rfl ?hv hH5 ?_
          case hv => intro w' hS; go_simp; try rfl
          simp only [qc]
          refine wpAnyH_done (by kernel_rfl) ?_ _
          refine NoPanic.normal ?_
          have HG := Hh Aa.2.1
          have HS := Hh Ab
          clear Aa Ab
          go_wp2_with fail
          go_meet
          case rel => exact ⟨G9, rfl, rfl, HG.o, HS.o⟩
      · go_simp
        obtain ⟨xa, G9, hxa, hG9, Ad, hz9, hg9, Ac⟩ := al_step (W := W2) hH1 zn 30
        first | rw [← hxa] | (change KK _ (xk.alloc (.cells zn 30)); rw [← hxa])
        first | rw [← hG9] | (have hq : W2.heap.size = G9 := hG9.symm; rw [hq]; clear hq)
        clear hG9 hxa
        try replace hbw := bytes_up hbw Ac
        clear Ac
        refine hKK _ _ Ad fun hH2 => ?_
        clear hKK KK
        try simp only [qc]
        refine rdy [5] (ar1 rfl fun KK hKK => ?_)
        go_simp
        refine (Aj.o.2.1 xa).mono ?_
        rintro _ xs ⟨sa, sc, rfl, hbw, hbs⟩
        have hs5 := Below.trans hH2 (hbs.mono hH2.size)
        try replace hz9 := hz9.below hbs hz9.lt
        clear hbs
        refine hKK _ _ hs5 fun hH3 => ?_
        clear hKK KK
        try simp only [qc]
        refine rdy [6] (ar1 rfl fun KK hKK => ?_)
        go_simp
        refine (Aj.o.2.2 _ sa sc (Kept.of_below hH3) hbw).mono ?_
        rintro _ xr ⟨rfl, hbr⟩
        have hs6 := Below.trans hH3 (hbr.mono hH3.size)
        try replace hz9 := hz9.below hbr hz9.lt
        clear hbr hbw
        refine hKK _ _ hs6 fun hH4 => ?_
        clear hKK KK
        try simp only [qc]
        apply tl 7 rfl ?hv hH4 ?_
        case hv => intro w' hS; go_simp; try rfl
        simp only [qc]
        apply tl 8 rfl ?hv hH4 ?_
        case hv => intro w' hS; go_simp; try rfl
        simp only [qc]
        apply tl 9 rfl ?hv hH4 ?_
        case hv => intro w' hS; go_simp; try rfl
        simp only [qc]
        refine rdy [11] (ar1 rfl fun KK hKK => ?_)
        refine step_store_mid rfl 30 (.tmp 7) (.tmp 24) rfl G9 0 (ndV (pfN R1)).toArray rfl rfl (hz9.there 0 _ (by rw [List.size_toArray, (Ae.o _ Af.o.1).2]; exact Nat.le_of_eq (Nat.zero_add _))) (Ae.o _ Af.o.1).1 (ndV_one _) ?_
        have Aa := set_box hH4 hz9 hg9 (Below.size hH4) (Ae.o _ Af.o.1).2
        obtain ⟨xb, hxb⟩ : ∃ y, y = xr.setCells G9 0 (ndV (pfN R1)) := ⟨_, rfl⟩
        rw [← hxb] at Aa
        change KK _ (xr.setCells G9 0 (ndV (pfN R1)))
        rw [← hxb]
        have Ab := Aa.1
        clear hxb
        refine hKK _ _ Ab fun hH5 => ?_
        clear hKK KK
        try simp only [qc]
        apply tl 12 rfl ?hv hH5 ?_
        case hv => intro w' hS; go_simp; try rfl
        simp only [qc]
        refine wpAnyH_done (by kernel_rfl) ?_ _
        refine NoPanic.normal ?_
        have HG := Hh Aa.2.1
        have HS := Hh Ab
        clear Aa Ab
        go_wp2_with fail
        go_meet
        case rel => exact ⟨G9, rfl, rfl, HG.o, HS.o⟩
    · go_simp
      obtain ⟨xa, G9, hxa, hG9, Ad, hz9, hg9, Ac⟩ := al_step (W := W2) hH0 zn 30
      first | rw [← hxa] | (change KK _ (W2.drew.alloc (.cells zn 30)); rw [← hxa])
      first | rw [← hG9] | (have hq : W2.heap.size = G9 := hG9.symm; rw [hq]; clear hq)
      clear hG9 hxa
      try replace hbw := bytes_up hbw Ac
      clear Ac
      refine hKK _ _ Ad fun hH1 => ?_
      clear hKK KK
      try simp only [qc]
      refine rdy [3] (ar1 rfl fun KK hKK => ?_)
      go_simp
      refine (Aj.o.1 _ (Kept.of_below hH1)).mono ?_
      rintro _ xk ⟨rfl, hbk⟩
      have hs3 := Below.trans hH1 (hbk.mono hH1.size)
      try replace hz9 := hz9.below hbk hz9.lt
      clear hbk
      refine hKK _ _ hs3 fun hH2 => ?_
      clear hKK KK
      try simp only [qc]
      refine rdy [5] (ar1 rfl fun KK hKK => ?_)
      go_simp
      refine (Aj.o.2.1 xk).mono ?_
      rintro _ xs ⟨sa, sc, rfl, hbw, hbs⟩
      have hs5 := Below.trans hH2 (hbs.mono hH2.size)
      try replace hz9 := hz9.below hbs hz9.lt
      clear hbs
      refine hKK _ _ hs5 fun hH3 => ?_
      clear hKK KK
      try simp only [qc]
      refine rdy [6] (ar1 rfl fun KK hKK => ?_)
      go_simp
      refine (Aj.o.2.2 _ sa sc (Kept.of_below hH3) hbw).mono ?_
      rintro _ xr ⟨rfl, hbr⟩
      have hs6 := Below.trans hH3 (hbr.mono hH3.size)
      try replace hz9 := hz9.below hbr hz9.lt
      clear hbr hbw
      refine hKK _ _ hs6 fun hH4 => ?_
      clear hKK KK
      try simp only [qc]
      apply tl 7 rfl ?hv hH4 ?_
      case hv => intro w' hS; go_simp; try rfl
      simp only [qc]
      apply tl 8 rfl ?hv hH4 ?_
      case hv => intro w' hS; go_simp; try rfl
      simp only [qc]
      apply tl 9 rfl ?hv hH4 ?_
      case hv => intro w' hS; go_simp; try rfl
      simp only [qc]
      refine rdy [11] (ar1 rfl fun KK hKK => ?_)
      refine step_store_mid rfl 30 (.tmp 7) (.tmp 24) rfl G9 0 (ndV (pfN R1)).toArray rfl rfl (hz9.there 0 _ (by rw [List.size_toArray, (Ae.o _ Af.o.1).2]; exact Nat.le_of_eq (Nat.zero_add _))) (Ae.o _ Af.o.1).1 (ndV_one _) ?_
      have Aa := set_box hH4 hz9 hg9 (Below.size hH4) (Ae.o _ Af.o.1).2
      obtain ⟨xb, hxb⟩ : ∃ y, y = xr.setCells G9 0 (ndV (pfN R1)) := ⟨_, rfl⟩
      rw [← hxb] at Aa
      change KK _ (xr.setCells G9 0 (ndV (pfN R1)))
      rw [← hxb]
      have Ab := Aa.1
      clear hxb
      refine hKK _ _ Ab fun hH5 => ?_
      clear hKK KK
      try simp only [qc]
      apply tl 12 rfl ?hv hH5 ?_
      case hv => intro w' hS; go_simp; try rfl
      simp only [qc]
      refine wpAnyH_done (by kernel_rfl) ?_ _
      refine NoPanic.normal ?_
      have HG := Hh Aa.2.1
      have HS := Hh Ab
      clear Aa Ab
      go_wp2_with fail
      go_meet
      case rel => exact ⟨G9, rfl, rfl, HG.o, HS.o⟩
   case rest =>
    obtain ⟨W4, hW4⟩ : ∃ x, x = wc := ⟨_, rfl⟩
    subst hW4
    obtain ⟨G7, rfl, rfl, hg7, hb4⟩ := hcut
    have Au := Hh (As.o.trans (hb4.mono As.o.size))
    have Bk := Hh (A0.o.below hb4 A0.o.lt)
    have Bd := Hh (Aw.o.below hb4 Aw.o.lt)
    have A2 := Hh (A1.o.below hb4 A1.o.lt)
    have Bw := Hh hg7
    clear hg7 hb4 As A0 Aw A1
    by_cases hu0 : u1 = 0
    · have Az := Hh (show R1 = .ok (pfN R1) by
        rcases Ax.o with ⟨_, e⟩ | ⟨e, _⟩
        · exact e
        · exact absurd hu0 e)
      obtain ⟨n1, hn1⟩ : ∃ n, n = pfN R1 := ⟨_, rfl⟩
      have Am := Bw.o
      have An := Af.o
      rw [← hn1] at Am An
      have Bf := Hh Am
      have Ak := Hh An
      have Br := Hh hn1
      obtain ⟨R2, hR2⟩ : ∃ R, R = highR K s0 q l.id n1 := ⟨_, rfl⟩
      have hn2 : IsHash (pfN R2).h ∧ (pfN R2).s < 18446744073709551616 := by
        rw [hR2]
        exact ⟨pf_hash HT.o.len (leaf_hash K s0 HT.o.len _ _), pf_fits Ak.o.2⟩
      have Ag := Hh hn2
      obtain ⟨u2, hu2⟩ : ∃ u, u = pfE R2 := ⟨_, rfl⟩
      have Ar := pf_case hR2
      rw [← hu2] at Ar
      have Ay := Hh Ar
      have B4 := Hh hu2
      have Ba := Hh hR2
      have Bp := Hh (show (Tryz.prog.info? 30).map (·.size) = some (ndV n1).length by have := (Ae.o n1 Ak.o.1).1; rwa [List.size_toArray] at this)
      have A3 := Hh (show n1.h.length ≤ 1000000 by rw [Ak.o.1.1]; decide)
      subst hu0
      clear Am An hn1 hR2 hn2 hu2 Ar Bw Af
      go_upto_region 7 with (fail)
      go_cut [8, 9] from 10 (fun v8 v9 wx => ∃ G9, v9 = .pointer (some ⟨G9, 0, none⟩) ∧ v8 = .int .i64 (u2 : Int) ∧ Has wx G9 30 (ndV (pfN R2)).toArray ∧ Below W4.heap.size W4 wx)
      case first =>
        have hS0 : Below W4.heap.size W4 W4.drew := (Below.refl _ _).drew
        have Bi := Hh (show ∀ v, Below W4.heap.size W4 v → v.rangeAt B 33 LQ ∧ v.rangeAt (B + 1) 0 LI ∧ v.rangeAt G7 0 (ndV n1) from fun v hv => ⟨(Bx.o v B (Bk.o.below hv Bk.o.lt)).2, B5.o v (B + 1) (Bd.o.below hv Bd.o.lt), (Bf.o.below hv Bf.o.lt).row0⟩)
        have Be := Hh (show ∀ v sa sc, Below W4.heap.size W4 v → Bytes v v.heap.size (.slice sa n1.h.length sc) n1.h → Calls Tryz.prog 16 #[.agg LQ.toArray, .agg LI.toArray, leafV (.slice sa n1.h.length sc) n1.s] v fun e w' => e = .returned (.tuple #[.agg (ndV (pfN R2)).toArray, .int .i64 (u2 : Int)]) ∧ Below v.heap.size v w' from fun v sa sc hv hbw => by
          have hb := Au.o.trans (hv.mono Au.o.size)
          have h := pfRoot_is K s0 v (Bj.o v hb) q.b HQ.o.hash q.a q.n q.c q.xs (HQ.o.below hb).nodes HQ.o.cap l.id HL.o.id sa n1.h sc n1.s hbw A3.o Ak.o.2 R2 Ba.o
          unfold arr at h
          rw [← B2.o, ← B4.o] at h
          rw [EQ.o]
          exact h)
        refine wp_region_noPanic ?_
        refine wp_region_held_drew (S := (fun v => Below W4.heap.size W4 v)) (by kernel_rfl) hS0 (fun hH0 => ?_)
        apply tl 0 rfl ?hv hH0 ?_
        case hv => intro w' hS; go_simp; try rfl
        simp only [qc]
        refine tk 1 (v := (.agg LQ.toArray)) rfl (yieldsIf_load_mid (by kernel_rfl) 39 (.tmp 31) rfl B 33 rfl LQ _ (fun w' h => (Bi.o _ h).1) Tryz.underlying39 rfl Ca.o) hH0 ?_
        simp only [qc]
        apply tl 2 rfl ?hv hH0 ?_
        case hv => intro w' hS; go_simp; try rfl
        simp only [qc]
        refine tk 3 (v := (.agg LI.toArray)) rfl (yieldsIf_load_mid (by kernel_rfl) 27 (.tmp 33) rfl (B + 1) 0 rfl LI _ (fun w' h => (Bi.o _ h).2.1) Tryz.underlying27 rfl B8.o) hH0 ?_
        simp only [qc]
        refine tk 4 (v := (.agg (ndV n1).toArray)) rfl (yieldsIf_load_mid (by kernel_rfl) 30 (.tmp 7) rfl G7 0 rfl (ndV n1) _ (fun w' h => (Bi.o _ h).2.2) Tryz.underlying30 rfl Bp.o) hH0 ?_
        simp only [qc]
        refine rdy [5, 10] (AllReadyH.cons rfl (fun KK hKK => ?_) (ar1 rfl fun KK hKK => ?_))
        · go_simp
          refine (coHigh_is W4.drew n1 Ak.o.1 Ak.o.2).mono ?_
          rintro _ xs ⟨_, rfl, ⟨sa, sc, rfl, hbq⟩, hbs⟩
          have hbw : Bytes xs xs.heap.size (.slice sa n1.h.length sc) n1.h := ⟨_, _, rfl, hbq⟩
          have hs5 := Below.trans hH0 (hbs.mono hH0.size)
          try replace hz9 := hz9.below hbs hz9.lt
          clear hbs hbq
          refine hKK _ _ hs5 fun hH1 => ?_
          clear hKK KK
          try simp only [qc]
          refine rdy [6, 10] (AllReadyH.cons rfl (fun KK hKK => ?_) (ar1 rfl fun KK hKK => ?_))
          · go_simp
            refine (Be.o _ sa sc hH1 hbw).mono ?_
            rintro _ xr ⟨rfl, hbr⟩
            have hs6 := Below.trans hH1 (hbr.mono hH1.size)
            try replace hz9 := hz9.below hbr hz9.lt
            clear hbr hbw
            refine hKK _ _ hs6 fun hH2 => ?_
            clear hKK KK
            try simp only [qc]
            apply tl 7 rfl ?hv hH2 ?_
            case hv => intro w' hS; go_simp; try rfl
            simp only [qc]
            apply tl 8 rfl ?hv hH2 ?_
            case hv => intro w' hS; go_simp; try rfl
            simp only [qc]
            apply tl 9 rfl ?hv hH2 ?_
            case hv => intro w' hS; go_simp; try rfl
            simp only [qc]
            refine rdy [10] (ar1 rfl fun KK hKK => ?_)
            go_simp
            obtain ⟨xa, G9, hxa, hG9, Ad, hz9, hg9, Ac⟩ := al_step (W := W4) hH2 zn 30
            first | rw [← hxa] | (change KK _ (xr.alloc (.cells zn 30)); rw [← hxa])
            first | rw [← hG9] | (have hq : W4.heap.size = G9 := hG9.symm; rw [hq]; clear hq)
            clear hG9 hxa
            try replace hbw := bytes_up hbw Ac
            clear Ac
            refine hKK _ _ Ad fun hH3 => ?_
            clear hKK KK
            try simp only [qc]
            refine rdy [11] (ar1 rfl fun KK hKK => ?_)
            refine step_store_mid rfl 30 (.tmp 9) (.tmp 38) rfl G9 0 (ndV (pfN R2)).toArray rfl rfl (hz9.there 0 _ (by rw [List.size_toArray, (Ae.o _ Ag.o.1).2]; exact Nat.le_of_eq (Nat.zero_add _))) (Ae.o _ Ag.o.1).1 (ndV_one _) ?_
            have Aa := set_box hH3 hz9 hg9 (Below.size hH3) (Ae.o _ Ag.o.1).2
            obtain ⟨xb, hxb⟩ : ∃ y, y = xa.setCells G9 0 (ndV (pfN R2)) := ⟨_, rfl⟩
            rw [← hxb] at Aa
            change KK _ (xa.setCells G9 0 (ndV (pfN R2)))
            rw [← hxb]
            have Ab := Aa.1
            clear hxb
            refine hKK _ _ Ab fun hH4 => ?_
            clear hKK KK
            try simp only [qc]
            apply tl 12 rfl ?hv hH4 ?_
            case hv => intro w' hS; go_simp; try rfl
            simp only [qc]
            refine wpAnyH_done (by kernel_rfl) ?_ _
            refine NoPanic.normal ?_
            have HG := Hh Aa.2.1
            have HS := Hh Ab
            clear Aa Ab
            go_wp2_with fail
            go_meet
            case rel => exact ⟨G9, rfl, rfl, HG.o, HS.o⟩
          · go_simp
            obtain ⟨xa, G9, hxa, hG9, Ad, hz9, hg9, Ac⟩ := al_step (W := W4) hH1 zn 30
            first | rw [← hxa] | (change KK _ (xs.alloc (.cells zn 30)); rw [← hxa])
            first | rw [← hG9] | (have hq : W4.heap.size = G9 := hG9.symm; rw [hq]; clear hq)
            clear hG9 hxa
            try replace hbw := bytes_up hbw Ac
            clear Ac
            refine hKK _ _ Ad fun hH2 => ?_
            clear hKK KK
            try simp only [qc]
            refine rdy [6] (ar1 rfl fun KK hKK => ?_)
            go_simp
            refine (Be.o _ sa sc hH2 hbw).mono ?_
            rintro _ xr ⟨rfl, hbr⟩
            have hs6 := Below.trans hH2 (hbr.mono hH2.size)
            try replace hz9 := hz9.below hbr hz9.lt
            clear hbr hbw
            refine hKK _ _ hs6 fun hH3 => ?_
            clear hKK KK
            try simp only [qc]
            apply tl 7 rfl ?hv hH3 ?_
            case hv => intro w' hS; go_simp; try rfl
            simp only [qc]
            apply tl 8 rfl ?hv hH3 ?_
            case hv => intro w' hS; go_simp; try rfl
            simp only [qc]
            apply tl 9 rfl ?hv hH3 ?_
            case hv => intro w' hS; go_simp; try rfl
            simp only [qc]
            refine rdy [11] (ar1 rfl fun KK hKK => ?_)
            refine step_store_mid rfl 30 (.tmp 9) (.tmp 38) rfl G9 0 (ndV (pfN R2)).toArray rfl rfl (hz9.there 0 _ (by rw [List.size_toArray, (Ae.o _ Ag.o.1).2]; exact Nat.le_of_eq (Nat.zero_add _))) (Ae.o _ Ag.o.1).1 (ndV_one _) ?_
            have Aa := set_box hH3 hz9 hg9 (Below.size hH3) (Ae.o _ Ag.o.1).2
            obtain ⟨xb, hxb⟩ : ∃ y, y = xr.setCells G9 0 (ndV (pfN R2)) := ⟨_, rfl⟩
            rw [← hxb] at Aa
            change KK _ (xr.setCells G9 0 (ndV (pfN R2)))
            rw [← hxb]
            have Ab := Aa.1
            clear hxb
            refine hKK _ _ Ab fun hH4 => ?_
            clear hKK KK
            try simp only [qc]
            apply tl 12 rfl ?hv hH4 ?_
            case hv => intro w' hS; go_simp; try rfl
            simp only [qc]
            refine wpAnyH_done (by kernel_rfl) ?_ _
            refine NoPanic.normal ?_
            have HG := Hh Aa.2.1
            have HS := Hh Ab
            clear Aa Ab
            go_wp2_with fail
            go_meet
            case rel => exact ⟨G9, rfl, rfl, HG.o, HS.o⟩
        · go_simp
          obtain ⟨xa, G9, hxa, hG9, Ad, hz9, hg9, Ac⟩ := al_step (W := W4) hH0 zn 30
          first | rw [← hxa] | (change KK _ (W4.drew.alloc (.cells zn 30)); rw [← hxa])
          first | rw [← hG9] | (have hq : W4.heap.size = G9 := hG9.symm; rw [hq]; clear hq)
          clear hG9 hxa
          try replace hbw := bytes_up hbw Ac
          clear Ac
          refine hKK _ _ Ad fun hH1 => ?_
          clear hKK KK
          try simp only [qc]
          refine rdy [5] (ar1 rfl fun KK hKK => ?_)
          go_simp
          refine (coHigh_is xa n1 Ak.o.1 Ak.o.2).mono ?_
          rintro _ xs ⟨_, rfl, ⟨sa, sc, rfl, hbq⟩, hbs⟩
          have hbw : Bytes xs xs.heap.size (.slice sa n1.h.length sc) n1.h := ⟨_, _, rfl, hbq⟩
          have hs5 := Below.trans hH1 (hbs.mono hH1.size)
          try replace hz9 := hz9.below hbs hz9.lt
          clear hbs hbq
          refine hKK _ _ hs5 fun hH2 => ?_
          clear hKK KK
          try simp only [qc]
          refine rdy [6] (ar1 rfl fun KK hKK => ?_)
          go_simp
          refine (Be.o _ sa sc hH2 hbw).mono ?_
          rintro _ xr ⟨rfl, hbr⟩
          have hs6 := Below.trans hH2 (hbr.mono hH2.size)
          try replace hz9 := hz9.below hbr hz9.lt
          clear hbr hbw
          refine hKK _ _ hs6 fun hH3 => ?_
          clear hKK KK
          try simp only [qc]
          apply tl 7 rfl ?hv hH3 ?_
          case hv => intro w' hS; go_simp; try rfl
          simp only [qc]
          apply tl 8 rfl ?hv hH3 ?_
          case hv => intro w' hS; go_simp; try rfl
          simp only [qc]
          apply tl 9 rfl ?hv hH3 ?_
          case hv => intro w' hS; go_simp; try rfl
          simp only [qc]
          refine rdy [11] (ar1 rfl fun KK hKK => ?_)
          refine step_store_mid rfl 30 (.tmp 9) (.tmp 38) rfl G9 0 (ndV (pfN R2)).toArray rfl rfl (hz9.there 0 _ (by rw [List.size_toArray, (Ae.o _ Ag.o.1).2]; exact Nat.le_of_eq (Nat.zero_add _))) (Ae.o _ Ag.o.1).1 (ndV_one _) ?_
          have Aa := set_box hH3 hz9 hg9 (Below.size hH3) (Ae.o _ Ag.o.1).2
          obtain ⟨xb, hxb⟩ : ∃ y, y = xr.setCells G9 0 (ndV (pfN R2)) := ⟨_, rfl⟩
          rw [← hxb] at Aa
          change KK _ (xr.setCells G9 0 (ndV (pfN R2)))
          rw [← hxb]
          have Ab := Aa.1
          clear hxb
          refine hKK _ _ Ab fun hH4 => ?_
          clear hKK KK
          try simp only [qc]
          apply tl 12 rfl ?hv hH4 ?_
          case hv => intro w' hS; go_simp; try rfl
          simp only [qc]
          refine wpAnyH_done (by kernel_rfl) ?_ _
          refine NoPanic.normal ?_
          have HG := Hh Aa.2.1
          have HS := Hh Ab
          clear Aa Ab
          go_wp2_with fail
          go_meet
          case rel => exact ⟨G9, rfl, rfl, HG.o, HS.o⟩
      case rest =>
        obtain ⟨W7, hW7⟩ : ∃ x, x = wc := ⟨_, rfl⟩
        subst hW7
        obtain ⟨G9, rfl, rfl, hg9, hb7⟩ := hcut
        have A8 := Hh (Au.o.trans (hb7.mono Au.o.size))
        have A9 := Hh (A2.o.below hb7 A2.o.lt)
        have B6 := Hh hg9
        clear hg9 hb7 Au Bk Bd A2 Bf
        by_cases hu2 : u2 = 0
        · have Bg := Hh (show R2 = .ok (pfN R2) by
            rcases Ay.o with ⟨_, e⟩ | ⟨e, _⟩
            · exact e
            · exact absurd hu2 e)
          have HF := Hh (show R = .ok (anchorK K s0 (pfN R2)) by
            rw [ER.o]
            exact lead_ok (n := n1) Ai.o (by rw [← Av.o, Br.o]; exact Az.o) (by rw [← Ba.o]; exact Bg.o))
          obtain ⟨D, hD⟩ : ∃ D, D = anchorK K s0 (pfN R2) := ⟨_, rfl⟩
          have hDh : IsHash D := by rw [hD]; exact anchorK_hash K s0 HT.o.len _
          have han := coAnchor_is K s0 W7 (Bj.o W7 A8.o) (pfN R2) Ag.o.1 Ag.o.2
          rw [← hD] at han
          unfold arr at han
          have Bt := Hh han
          have ED := Hh hD
          have Bz := Hh (Bn.o D hDh)
          have Bo := Hh (Ae.o (pfN R2) Ag.o.1).1
          obtain ⟨LD, hLD⟩ : ∃ L, L = bcells D := ⟨_, rfl⟩
          have Al := Bt.o
          have Ap := Bz.o
          rw [← hLD] at Al Ap
          have Bs := Hh Al
          have Bm := Hh Ap
          have Bl := Hh (show LD.toArray.all (·.oneCell') = true by rw [hLD]; exact all_oneCell_toArray (bcells_one D))
          have B1 := Hh hLD
          subst hu2
          clear hDh han hD Al Ap hLD Bt Bz
          go_wp2_with (refine wpList_load_row rfl 30 (.tmp 9) rfl G9 rfl 30 (ndV (pfN R2)).toArray (0, 0) _ B6.o Tryz.underlying30 rfl Bo.o ?_)
          refine Bs.o.mono ?_
          rintro _ W8 ⟨rfl, hb8⟩
          have By := Hh (A9.o.below hb8 A9.o.lt)
          have Bu := Hh (A8.o.trans (hb8.mono A8.o.size))
          clear hb8 Bs
          go_wp2_with (refine wpList_store_row rfl 27 (.tmp 4) (.tmp 45) rfl (B + 2) LD.toArray rfl rfl 27 zk By.o Bm.o.1 Bm.o.2 Bl.o ?_)
          have HS := Hh (show Has (W8.setRow (B + 2) LD.toArray) (B + 2) 27 LD.toArray ∧ Below w.heap.size w (W8.setRow (B + 2) LD.toArray) from ⟨By.o.setRow, Bu.o.trans ((kept_setRow (g := B + 2) W8 LD.toArray).below Bu.o.size (fun j e => by have e' : j = B + 2 := e; have := EB.o; omega))⟩)
          refine bodyPost_ret (results_cellA_tmp rfl _ _ (B + 2) 27 LD.toArray (0, 0) _ rfl rfl HS.o.1 Tryz.underlying27 Bm.o.1) rfl ?_
          exact ⟨by rw [HF.o, B1.o, ED.o]; rfl, HS.o.2⟩
        · have HF := Hh (show R = .error u2 by
            rcases Ay.o with ⟨e, _⟩ | ⟨_, e⟩
            · exact absurd e hu2
            · rw [ER.o]
              exact lead_err2 (n := n1) Ai.o (by rw [← Av.o, Br.o]; exact Az.o) (by rw [← Ba.o]; exact e))
          have hu2' : ¬ (u2 : Int) = 0 := by omega
          clear hu2
          go_wp2_with (first
            | (refine wpList_build_run rfl 27 #[] rfl #[] (by kernel_rfl) (.agg ZH.toArray) (Bc.o _) ?_)
            | (refine wpList_store_row rfl 27 (.tmp 4) (.tmp 42) rfl (B + 2) ZH.toArray rfl rfl 27 zk A9.o Ah.o.1 Ah.o.2.1 Ah.o.2.2 ?_))
          have HS := Hh (Ao.o W7 A9.o A8.o)
          refine bodyPost_ret (results_cellA_tmp rfl _ _ (B + 2) 27 ZH.toArray (0, 0) _ rfl rfl HS.o.1 Tryz.underlying27 Ah.o.1) rfl ?_
          exact ⟨by rw [HF.o, A7.o]; rfl, HS.o.2⟩
    · have HF := Hh (show R = .error u1 by
        rcases Ax.o with ⟨e, _⟩ | ⟨_, e⟩
        · exact absurd e hu0
        · rw [ER.o]
          exact lead_err1 Ai.o (by rw [← Av.o]; exact e))
      have hu0' : ¬ (u1 : Int) = 0 := by omega
      clear hu0
      go_wp2_with (first
        | (refine wpList_build_run rfl 27 #[] rfl #[] (by kernel_rfl) (.agg ZH.toArray) (Bc.o _) ?_)
        | (refine wpList_store_row rfl 27 (.tmp 4) (.tmp 28) rfl (B + 2) ZH.toArray rfl rfl 27 zk A2.o Ah.o.1 Ah.o.2.1 Ah.o.2.2 ?_))
      have HS := Hh (Ao.o W4 A2.o Au.o)
      refine bodyPost_ret (results_cellA_tmp rfl _ _ (B + 2) 27 ZH.toArray (0, 0) _ rfl rfl HS.o.1 Tryz.underlying27 Ah.o.1) rfl ?_
      exact ⟨by rw [HF.o, A7.o]; rfl, HS.o.2⟩
/- The walk of Check. -/

def chkR (R : Except Nat (List Nat)) (said : List Nat) : Nat := match R with
 | .error e => e
 | .ok h => if h = said then 0 else 30
theorem lead_hash {K s0 : List Wd} (hs : s0.length = 8) (p q : Pf) (l : LeafT) : IsHash (leadH (leadR K s0 p q l)) := by
 have hz : IsHash (List.replicate 32 0) := ⟨rfl, fun k hk => by rw [List.eq_of_mem_replicate hk]; decide⟩
 unfold leadR
 by_cases hb : leafBad l = true
 · rw [if_pos hb]; exact hz
 · rw [if_neg hb]
   cases lowR K s0 p l with
   | error e => exact hz
   | ok n =>
    dsimp only
    cases highR K s0 q l.id n with
    | error e => exact hz
    | ok m => exact anchorK_hash K s0 hs m
theorem lead_errs {K s0 : List Wd} {p q : Pf} {l : LeafT} {e : Nat} (h : leadR K s0 p q l = .error e) : e ≠ 0 := by
 unfold leadR at h
 by_cases hb : leafBad l = true
 · rw [if_pos hb] at h
   injection h with h
   omega
 · rw [if_neg hb] at h
   cases h1 : lowR K s0 p l with
   | error x =>
    rw [h1] at h
    injection h with h
    rcases pf_errs h1 with e1 | e1 | e1 | e1 <;> omega
   | ok n =>
    rw [h1] at h
    dsimp only at h
    cases h2 : highR K s0 q l.id n with
    | error x =>
     rw [h2] at h
     injection h with h
     rcases pf_errs h2 with e1 | e1 | e1 | e1 <;> omega
    | ok m =>
     rw [h2] at h
     cases h
theorem boxes_chk (w : World) (LW LS LC : List Value) : ∃ W1, W1 = (((((w.alloc (.cells LW.toArray 41))).alloc (.cells LS.toArray 27))).alloc (.cells LC.toArray 32)) ∧
   Has W1 (w.heap.size) 41 LW.toArray ∧ Has W1 (w.heap.size + 1) 27 LS.toArray ∧ Has W1 (w.heap.size + 1 + 1) 32 LC.toArray ∧ Below w.heap.size w W1 := by
 refine ⟨_, rfl, ?_, ?_, ?_, ?_⟩
 · have := Has.new w 41 LW.toArray
   exact ((this).alloc _).alloc _
 · have := Has.new (w.alloc (.cells LW.toArray 41)) 27 LS.toArray
   exact ((by simpa using this : Has _ (w.heap.size + 1) _ _)).alloc _
 · have := Has.new (((w.alloc (.cells LW.toArray 41))).alloc (.cells LS.toArray 27)) 32 LC.toArray
   exact (by simpa using this : Has _ (w.heap.size + 1 + 1) _ _)
 · exact (((Below.refl _ _).alloc (Nat.le_refl _) _).alloc (by simp) _).alloc (by simp; omega) _
set_option maxRecDepth 100000 in
set_option maxHeartbeats 8000000 in
theorem coCheck_is (K s0 : List Wd) (w : World) (hT : Tabs K s0 w) (p q : Pf) (hp : p.At w) (hq : q.At w) (said : List Nat) (hsd : IsHash said) (l : LeafT) (hl : l.ok) :
   Calls Tryz.prog 14 #[.agg (waysC p q).toArray, arr said, .agg l.cells.toArray] w fun e w' => e = .returned (.int .i64 (chkR (leadR K s0 p q l) said : Nat)) ∧ Below w.heap.size w w' := by
 obtain ⟨zk, hzk, Aa, hzkn⟩ := zero_hashT
 have hld : ∀ v, Below w.heap.size w v → Calls Tryz.prog 13 #[.agg (waysC p q).toArray, .agg l.cells.toArray] v fun e w' => e = .returned (.tuple #[arr (leadH (leadR K s0 p q l)), .int .i64 (leadE (leadR K s0 p q l) : Nat)]) ∧ Below v.heap.size v w' := fun v hv => coLead_is K s0 v (hT.below hv hT.low) p q (hp.below hv) (hq.below hv) l hl
 obtain ⟨LW, hLW⟩ : ∃ L, L = waysC p q := ⟨_, rfl⟩
 obtain ⟨LC, hLC⟩ : ∃ L, L = l.cells := ⟨_, rfl⟩
 obtain ⟨LS, hLS⟩ : ∃ L, L = bcells said := ⟨_, rfl⟩
 obtain ⟨R, hR⟩ : ∃ R, R = leadR K s0 p q l := ⟨_, rfl⟩
 obtain ⟨D, hD⟩ : ∃ D, D = leadH R := ⟨_, rfl⟩
 obtain ⟨u, hu⟩ : ∃ u, u = leadE R := ⟨_, rfl⟩
 obtain ⟨LD, hLD⟩ : ∃ L, L = bcells D := ⟨_, rfl⟩
 have hDh : IsHash D := by rw [hD, hR]; exact lead_hash hT.len p q l
 have hcs : (u = 0 ∧ R = .ok D) ∨ (u ≠ 0 ∧ R = .error u) := by
   cases hc : R with
   | error e => rw [hc] at hu; exact .inr ⟨by rw [hu]; exact lead_errs (e := e) (by rw [← hR]; exact hc), by rw [hu]; rfl⟩
   | ok h => rw [hc] at hu hD; exact .inl ⟨hu, by rw [hD]; rfl⟩
 unfold arr at hld ⊢
 rw [← hLW, ← hLC, ← hLS, ← hR]
 rw [← hLW, ← hLC, ← hR, ← hD, ← hu, ← hLD] at hld
 have Ap := Hh (show (Tryz.prog.info? 41).map (·.size) = some LW.toArray.size by rw [List.size_toArray, hLW, waysC_len hp.hash hq.hash]; kernel_rfl)
 have Ao := Hh (show (Tryz.prog.info? 32).map (·.size) = some LC.toArray.size by rw [List.size_toArray, hLC, LeafT.len hl]; kernel_rfl)
 have Am := Hh (show (Tryz.prog.info? 27).map (·.size) = some LS.toArray.size by rw [List.size_toArray, hLS, bcells_length, hsd.1]; kernel_rfl)
 have Ah := Hh (show (Tryz.prog.info? 27).map (·.size) = some LD.toArray.size by rw [List.size_toArray, hLD, bcells_length, hDh.1]; kernel_rfl)
 have Aq := Hh (show zk.size = LD.toArray.size by rw [Aa, List.size_toArray, hLD, bcells_length, hDh.1])
 have Ag := Hh (show LD.toArray.all (·.oneCell') = true by rw [hLD]; exact all_oneCell_toArray (bcells_one D))
 have An := Hh (show ∀ v, (Op.equalIn 10000 27 (.agg LD.toArray) (.agg LS.toArray)).run Tryz.prog v = .ok (decide (D = said)) v from fun v => by rw [hLD, hLS]; exact hash_eqC D said hDh hsd v)
 have Aj := Hh hcs
 have Ak := Hh hld
 obtain ⟨W1, hW1, h1, h2, h3, hb1⟩ := boxes_chk w LW LS LC
 have EW := Hh hW1
 have H1 := Hh h1
 have H2 := Hh h2
 have H3 := Hh h3
 have Ab := Hh hb1
 clear hld hLW hLC hLS hR hD hu hLD hDh hcs hW1 h1 h2 h3 hb1 Aa hp hq hsd hl hT
 go_enter Tryz.func14, Tryz.ntmps14
 go_upto_region 1 with (fail)
 rw [← EW.o]
 obtain ⟨B, hB⟩ : ∃ y, y = w.heap.size := ⟨_, rfl⟩
 rw [← hB] at H1 H2 H3 ⊢
 clear hB EW
 go_wp2_with (first
   | (refine wpList_load_row rfl 41 (.tmp 3) rfl B rfl 41 LW.toArray (0, 0) _ H1.o Tryz.underlying41 rfl Ap.o ?_)
   | (refine wpList_load_row rfl 32 (.tmp 5) rfl (B + 2) rfl 32 LC.toArray (0, 0) _ H3.o Tryz.underlying32 rfl Ao.o ?_))
 refine (Ak.o W1 Ab.o).mono ?_
 rintro _ W2 ⟨rfl, hb2⟩
 have Ad := Hh (Ab.o.trans (hb2.mono Ab.o.size))
 have Ae := Hh (H2.o.below hb2 H2.o.lt)
 clear hb2 Ak H1 H2 H3 Ab
 go_upto_region 2 with (refine wpList_store_row rfl 27 (.tmp 7) (.tmp 13) rfl W2.heap.size LD.toArray rfl rfl 27 zk (heap_alloc_new W2 _) Ah.o Aq.o Ag.o ?_)
 have hnw : ∀ C, Has ((W2.alloc (.cells zk 27)).setRow W2.heap.size C) W2.heap.size 27 C ∧ Below W2.heap.size W2 ((W2.alloc (.cells zk 27)).setRow W2.heap.size C) := fun C => by
   rw [World.setRow_alloc_new]
   exact ⟨Has.new W2 _ _, (Below.refl _ _).alloc (Nat.le_refl _) _⟩
 obtain ⟨h7, hb7⟩ := hnw LD.toArray
 clear hnw
 have Af := Hh (Ae.o.below hb7 Ae.o.lt)
 have Ac := Hh (Ad.o.trans (hb7.mono Ad.o.size))
 clear hb7 Ae Ad
 generalize (W2.alloc (.cells zk 27)).setRow W2.heap.size LD.toArray = W7 at h7 Af Ac ⊢
 generalize W2.heap.size = G7 at h7 ⊢
 have H7 := Hh h7
 clear h7
 by_cases hu0 : u = 0
 · have hok : R = .ok D := by
    rcases Aj.o with ⟨_, e⟩ | ⟨e, _⟩
    · exact e
    · exact absurd hu0 e
   have Al := Hh hok
   have heq := An.o W7
   obtain ⟨b, hb⟩ : ∃ b, b = decide (D = said) := ⟨_, rfl⟩
   rw [← hb] at heq
   have Ai := Hh hb
   subst hu0
   clear hok hb
   cases b with
   | true =>
    have HF := Hh (show chkR R said = 0 by rw [Al.o]; exact if_pos (of_decide_eq_true Ai.o.symm))
    go_wp2_with (first
      | (refine wpList_load_row rfl 27 (.tmp 7) rfl G7 rfl 27 LD.toArray (0, 0) _ H7.o Tryz.underlying27 rfl Ah.o ?_)
      | (refine wpList_load_row rfl 27 (.tmp 4) rfl (B + 1) rfl 27 LS.toArray (0, 0) _ Af.o Tryz.underlying27 rfl Am.o ?_))
    go_ret
    exact ⟨by rw [HF.o]; rfl, Ac.o⟩
   | false =>
    have HF := Hh (show chkR R said = 30 by rw [Al.o]; exact if_neg (of_decide_eq_false Ai.o.symm))
    go_wp2_with (first
      | (refine wpList_load_row rfl 27 (.tmp 7) rfl G7 rfl 27 LD.toArray (0, 0) _ H7.o Tryz.underlying27 rfl Ah.o ?_)
      | (refine wpList_load_row rfl 27 (.tmp 4) rfl (B + 1) rfl 27 LS.toArray (0, 0) _ Af.o Tryz.underlying27 rfl Am.o ?_))
    go_ret
    exact ⟨by rw [HF.o]; rfl, Ac.o⟩
 · have hu1 : ¬ (u : Int) = 0 := by omega
   have HF := Hh (show chkR R said = u by
    rcases Aj.o with ⟨e, _⟩ | ⟨_, e⟩
    · exact absurd e hu0
    · rw [e]; rfl)
   clear hu0
   go_wp2
   go_ret
   exact ⟨by rw [HF.o]; rfl, Ac.o⟩
end Go.Proofs.YtknfbccbdiidjaaGreatDoor
