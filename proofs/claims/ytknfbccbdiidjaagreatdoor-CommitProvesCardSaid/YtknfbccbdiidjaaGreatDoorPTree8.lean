/- The walk of part: what stands for the part of a height that has these keys. -/
import Derived.Test.YtknfbccbdiidjaaGreatDoorWu
import Derived.Test.YtknfbccbdiidjaaGreatDoorPTree7
namespace Go.Proofs.YtknfbccbdiidjaaGreatDoor
set_option linter.unusedVariables false
set_option linter.unusedSimpArgs false
set_option linter.unusedSectionVars false
open Go.ChangeShapes Go.WideShapes Go.ChangeAt Go.RowKit Go.Maps

def PartP (K s0 : List Wd) (S : Nat → Prop) (w : World) (g m : Nat) (es : List Ent) (T : List Lf) (n : Nd) (e : Ending) (w' : World) : Prop :=
 e = .returned (.agg (ndV n).toArray) ∧ TreeAt K s0 S w' g m es T ∧ Kept (· = g) w w'
theorem row_set {w : World} {B : Nat} {t : TypeId} {Z : Array Value} {L : List Value} (h : Has w B t Z) (hl : Z.size = L.length) : Has (w.setCells B 0 L) B t L.toArray ∧ Kept (· = B) w (w.setCells B 0 L) := by
 obtain ⟨cur, h1, h2, h3, h4⟩ := Has.setCells L 0 w Z h
 have e : cur = L.toArray := by
  apply Array.toList_inj.1
  apply List.ext_getElem?
  intro j
  by_cases hj : j < Z.size
  · rw [Array.getElem?_toList, h3 j hj, if_pos (by omega), Nat.sub_zero]
  · rw [List.getElem?_eq_none (by rw [Array.length_toList, h2]; omega), List.getElem?_eq_none (by show L.length ≤ j; omega)]
 rw [e] at h1
 exact ⟨h1, h4⟩

theorem le_sum {T : List Lf} {t : Lf} (h : t ∈ T) : t.s ≤ sumT T := by
 induction T with
 | nil => cases h
 | cons u T ih =>
  unfold sumT at ih ⊢
  simp only [List.map_cons, List.sum_cons]
  rcases List.mem_cons.1 h with rfl | h
  · omega
  · have := ih h; omega
theorem enters_turn : ∀ args w, (callFunc 103 args).run Tryz.prog w = .ok (.enter 103 args) w := enters_of Tryz.func103 (by kernel_rfl) rfl
theorem wrap_small (h : Nat) (hh : h < 256) : IntKind.i64.wrap (h : Int) = (h : Int) := by rw [IntKind.wrap_i64]; omega
theorem sum_some {T : List Lf} (hT : (T.map (·.k)).Nodup) {L : List Nat → Lf} (hL : ∀ k, (∃ l, findT T k = some l) → findT T k = some (L k)) : ∀ {ks : List (List Nat)}, ks.Nodup → (∀ k ∈ ks, ∃ l, findT T k = some l) → sumT (ks.map L) ≤ sumT T := by
 intro ks
 induction ks generalizing T with
 | nil => intro _ _; exact Nat.zero_le _
 | cons k ks ih =>
  intro hn hin
  rw [List.nodup_cons] at hn
  have hk := hL k (hin k (by simp))
  have hd : ∀ x, x ≠ k → findT (dropT T k) x = findT T x := fun x hx => by rw [drop_find hT, if_neg (fun e => hx e.symm)]
  have hne : ∀ x ∈ ks, x ≠ k := fun x hx e => hn.1 (e ▸ hx)
  have := ih (T := dropT T k) (List.Nodup.sublist ((drop_sub T k).map _) hT) (fun x ⟨l, hl⟩ => by
   have hxk : x ≠ k := fun e => by rw [e, drop_find hT, if_pos rfl] at hl; cases hl
   rw [hd x hxk] at hl ⊢
   exact hL x ⟨l, hl⟩) hn.2 (fun x hx => by
   rw [hd x (hne x hx)]
   exact hin x (List.mem_cons_of_mem _ hx))
  have hs := sum_drop T k
  have hw : wasS T k = (L k).s := by unfold wasS; rw [hk]
  rw [List.map_cons]
  have e : sumT (L k :: ks.map L) = (L k).s + sumT (ks.map L) := by unfold sumT; rw [List.map_cons, List.sum_cons]
  omega
section
section
variable (K s0 : List Wd) (S : Nat → Prop) (g m : Nat) (es : List Ent) (T : List Lf) (hlow : 2 + 1 ≤ g)
include hlow
set_option maxRecDepth 100000 in
set_option maxHeartbeats 2000000 in
theorem part_none (w : World) (hT : Tabs K s0 w) (htr : TreeAt K s0 S w g m es T) (a : Option Addr) (c ht : Nat) (hh : ht ≤ 256) :
  Calls Tryz.prog 75 #[.pointer (some ⟨g, 0, none⟩), .slice a 0 c, .int .i64 (ht : Int)] w (PartP K s0 S w g m es T (partNd K s0 ht [])) := by
 obtain ⟨Z, hz, hZs, hZn, -⟩ := zero_node
 have s1 : ∀ (x : World) o, (x.alloc o).heap.size = x.heap.size + 1 := fun x o => by simp
 have b5 := (Has.new w 3 #[.int .i64 (ht : Int)]).alloc (.cells Z 30)
 have b6 := Has.new (w.alloc (.cells #[.int .i64 (ht : Int)] 3)) 30 Z
 rw [s1] at b6
 have hk0 : Kept (fun _ => False) w ((w.alloc (.cells #[.int .i64 (ht : Int)] 3)).alloc (.cells Z 30)) := ((Kept.refl _ _).alloc _).alloc _
 have Ab := htr.kept (S := S) hk0 (fun _ _ _ h => h)
 have hT0 := hT.kept hk0 (fun _ h => h.elim)
 have Aa : g < w.heap.size := by obtain ⟨cs, hf⟩ := htr.frame; exact hf.obj.lt
 have c5 : ((w.alloc (.cells #[.int .i64 (ht : Int)] 3)).alloc (.cells Z 30)).cell? ⟨w.heap.size, 0, none⟩ = some (.int .i64 (ht : Int)) := b5.cell_is rfl
 obtain ⟨cs, hf⟩ := Ab.frame
 have hno := nothing_is K s0 _ hT0 g m (sumT T) cs hf hlow ht hh
 obtain ⟨LN, hLN⟩ : ∃ L, L = ndV (emptyNd K s0 ht) := ⟨_, rfl⟩
 have ln : LN.length = 33 := by rw [hLN]; exact ndV_len (empty_hash K s0 hT.len ht)
 rw [← hLN] at hno
 have Ah := Hh (show (Tryz.prog.info? 30).map (·.size) = some LN.toArray.size by rw [List.size_toArray, ln]; kernel_rfl)
 have An := Hh (show LN.toArray.all (·.oneCell') = true by rw [hLN]; exact ndV_one _)
 have Am := Hh (show Z.size = LN.toArray.size by rw [hZs, List.size_toArray, ln])
 have Af := Hh hno
 have Ac := Hh b6
 have Al := Hh htr
 have Ae := Hh (hk0.mono (S' := (· = g)) (fun _ _ h => h.elim))
 have Ak := Hh Aa
 have Ai := Hh hLN
 clear htr Ab hf hno hT hT0 b5 b6 hk0 hZs s1 Aa hLN ln hlow
 unfold PartP
 go_enter Tryz.func75, Tryz.ntmps75
 go_upto_region 1 with (fail)
 generalize (w.alloc (.cells #[.int .i64 (ht : Int)] 3)).alloc (.cells Z 30) = W0 at Af Ac Ae c5 ⊢
 go_wp2_with fail
 refine Af.o.mono ?_
 rintro _ w1 ⟨rfl, ⟨cs', hf1⟩, hk1⟩
 have hgg := Ak.o
 have hb6 := Ac.o.kept hk1 (by omega)
 have hk2 : Kept (· = w.heap.size + 1) w1 (w1.setRow (w.heap.size + 1) LN.toArray) := kept_setRow (g := w.heap.size + 1) w1 LN.toArray
 have Ag := Hh (show Has (w1.setRow (w.heap.size + 1) LN.toArray) (w.heap.size + 1) 30 LN.toArray from hb6.setRow)
 have hkF : Kept (· = g) w (w1.setRow (w.heap.size + 1) LN.toArray) := (Ae.o.trans hk1).step hk2 (fun k e => by have e' : k = w.heap.size + 1 := e; omega)
 have Ad := Hh (And.intro (Al.o.framed hkF (cs := cs') ⟨hf1.obj.kept hk2 (by omega), hf1.size, hf1.lock, hf1.lv, hf1.sm, hf1.once⟩) hkF)
 have Aj := Hh hb6
 clear hf1 hk1 hk2 hb6 hkF hgg Af Ac Ae c5
 go_wp2_with (refine wpList_store_row rfl 30 (.tmp 6) (.tmp 17) rfl (w.heap.size + 1) LN.toArray rfl rfl 30 Z Aj.o Ah.o Am.o An.o ?_)
 refine bodyPost_ret (results_cell_row rfl _ _ (w.heap.size + 1) 30 LN.toArray (0, 0) _ rfl Ag.o Tryz.underlying30 rfl Ah.o) rfl ?_
 exact ⟨by rw [part_nil, ← Ai.o], Ad.o⟩

set_option maxRecDepth 100000 in
set_option maxHeartbeats 4000000 in
theorem part_leaf (w : World) (hT : Tabs K s0 w) (htr : TreeAt K s0 S w g m es T) (a : Option Addr) (n c : Nat) (hn : 0 < n) (ks : List (List Nat)) (hks : KeysAt w a n ks) (hfk : FarK a g) (L : List Nat → Lf) (hL : ∀ k ∈ ks, findT T k = some (L k)) :
  Calls Tryz.prog 75 #[.pointer (some ⟨g, 0, none⟩), .slice a n c, .int .i64 0] w (PartP K s0 S w g m es T (partNd K s0 0 (ks.map L))) := by
 obtain ⟨Z, hz, hZs, hZn, -⟩ := zero_node
 have s1 : ∀ (x : World) o, (x.alloc o).heap.size = x.heap.size + 1 := fun x o => by simp
 have b5 := (Has.new w 3 #[.int .i64 0]).alloc (.cells Z 30)
 have b6 := Has.new (w.alloc (.cells #[.int .i64 0] 3)) 30 Z
 rw [s1] at b6
 have hk0 : Kept (fun _ => False) w ((w.alloc (.cells #[.int .i64 0] 3)).alloc (.cells Z 30)) := ((Kept.refl _ _).alloc _).alloc _
 have Ad := htr.kept (S := S) hk0 (fun _ _ _ h => h)
 have hT0 := hT.kept hk0 (fun _ h => h.elim)
 have Ap : g < w.heap.size := by obtain ⟨cs, hf⟩ := htr.frame; exact hf.obj.lt
 have c5 : ((w.alloc (.cells #[.int .i64 0] 3)).alloc (.cells Z 30)).cell? ⟨w.heap.size, 0, none⟩ = some (.int .i64 0) := b5.cell_is rfl
 obtain ⟨cs, hf⟩ := Ad.frame
 have Ag := hks.kept hk0 (fun _ _ _ h => h)
 obtain ⟨kb, ko, rfl, hkb, hr⟩ := Ag.at_ hn
 obtain ⟨k0, us, rfl⟩ : ∃ k us, ks = k :: us := by
  match ks, hks.len with
  | [], h => exact absurd h (by simp; omega)
  | k :: us, _ => exact ⟨k, us, rfl⟩
 have hkh := hks.hash k0 (by simp)
 have hrk := hr 0 k0 rfl
 rw [Nat.zero_mul, Nat.add_zero] at hrk
 have Aa := hL k0 (by simp)
 obtain ⟨lv, l, hlk, hfl, Ai⟩ : ∃ v l, look es k0 = some (leafV v l.s) ∧ findT T k0 = some l ∧ RowB S ((w.alloc (.cells #[.int .i64 0] 3)).alloc (.cells Z 30)) v l.v := by
  rcases Ad.leaves.look_ k0 with ⟨_, h⟩ | h
  · rw [h] at Aa; cases Aa
  · exact h
 have hl : l = L k0 := Option.some.inj (hfl.symm.trans Aa)
 have Ah := (find_key hfl).2
 have hsh := htr.short l Ah
 have hls : l.s < 18446744073709551616 := Nat.lt_of_le_of_lt (le_sum Ah) htr.fit
 obtain ⟨ls, Ac⟩ : ∃ x, x = l.s := ⟨_, rfl⟩
 obtain ⟨LN, hLN⟩ : ∃ L, L = ndV (leafNd K s0 l.v l.s) := ⟨_, rfl⟩
 have ln : LN.length = 33 := by rw [hLN]; exact ndV_len (leaf_hash K s0 hT.len _ _)
 obtain ⟨LK, hLK⟩ : ∃ L, L = bcells k0 := ⟨_, rfl⟩
 have lk : LK.length = 32 := by rw [hLK, bcells_length, hkh.1]
 have hzl : ∀ w, (zeroValue 50).run Tryz.prog w = .ok (leafV (.slice none 0 0) 0) w := fun w => by kernel_rfl
 obtain ⟨W0, hW0⟩ : ∃ W, W = (w.alloc (.cells #[.int .i64 0] 3)).alloc (.cells Z 30) := ⟨_, rfl⟩
 rw [← hW0] at b5 b6 hk0 Ad hT0 c5 Ag hkb hr hrk Ai hf
 have Ae : ∀ v, Below W0.heap.size W0.drew v → Calls Tryz.prog 48 #[.agg #[lv, .int .u64 (ls : Int)]] v fun e v' => e = .returned (.agg LN.toArray) ∧ Below W0.heap.size W0.drew v' := fun v hv => by
  have hv' : Below W0.heap.size W0 v := below_undrew hv
  have hb := (Ai.kept (Kept.of_below (S := fun _ => False) hv') (fun _ _ _ h => h)).bytes (g := v.heap.size) (Nat.le_refl _)
  have := leafNode_is K s0 v lv l.v ls (hT0.kept (Kept.of_below (S := fun _ => False) hv') (fun _ h => h.elim)) hb (by omega) (by rw [Ac]; exact hls)
  refine this.mono fun e v' h => ⟨?_, hv.trans (h.2.mono hv.size)⟩
  rw [h.1, hLN, Ac]; rfl
 have Al : ∀ v, Below W0.heap.size W0 v → v.cell? ⟨g, 8484, none⟩ = some (.map (some m)) := fun v hv => (hf.obj.below hv hf.obj.lt).cell_is hf.lv
 have Af : ∀ v, Below W0.heap.size W0 v → (Instr.lookup 149 (.map (some m)) (.agg LK.toArray) false).run Tryz.prog v = .ok (.agg #[lv, .int .u64 (ls : Int)]) v := fun v hv => by
  have := lookup_is (T := 149) Tryz.underlying149 hzl (Ad.map.kept (Kept.of_below (S := fun _ => False) hv) (fun h => h)) hkh
  rw [hlk] at this
  rw [hLK, Ac]
  exact this
 obtain ⟨B6, hB6⟩ : ∃ B, B = w.heap.size + 1 := ⟨_, rfl⟩
 rw [← hB6] at b6
 have hS : ∀ v, Below W0.heap.size W0 v → (v.cell? ⟨g, 8484, none⟩ = some (.map (some m)) ∧ v.rangeAt kb ko LK ∧ (Instr.lookup 149 (.map (some m)) (.agg LK.toArray) false).run Tryz.prog v = .ok (.agg #[lv, .int .u64 (ls : Int)]) v ∧ v.there B6 0 33) := fun v hv =>
  ⟨Al v hv, by rw [hLK]; exact rangeAt_kept hrk (Kept.of_below (S := fun _ => False) hv) (fun h => h), Af v hv, (b6.below hv b6.lt).there 0 33 (by rw [hZs]; decide)⟩
 have Aq : kb < w.heap.size := by
  obtain ⟨b', o', e1, h1, _⟩ := hks.at_ hn
  injection e1 with e1
  injection e1 with e1 e2
  rw [e1]; exact h1
 have Am : kb ≠ B6 := by omega
 have Ab : ∀ v, Below W0.heap.size W0 v → (((v.setCells B6 0 LN.toArray.toList).cell? ⟨g, 8484, none⟩ = some (.map (some m)) ∧ (v.setCells B6 0 LN.toArray.toList).rangeAt kb ko LK ∧ (Instr.lookup 149 (.map (some m)) (.agg LK.toArray) false).run Tryz.prog (v.setCells B6 0 LN.toArray.toList) = .ok (.agg #[lv, .int .u64 (ls : Int)]) (v.setCells B6 0 LN.toArray.toList) ∧ (v.setCells B6 0 LN.toArray.toList).there B6 0 33) ∧
    Has (v.setCells B6 0 LN.toArray.toList) B6 30 LN.toArray ∧ TreeAt K s0 S (v.setCells B6 0 LN.toArray.toList) g m es T ∧ Kept (· = g) w (v.setCells B6 0 LN.toArray.toList)) := fun v hv => by
  obtain ⟨p1, p2⟩ := row_set (L := LN) (b6.below hv b6.lt) (by rw [hZs, ln])
  have hk : Kept (· = B6) W0 (v.setCells B6 0 LN) := (Kept.of_below hv).trans p2
  have hgB : g ≠ B6 := by omega
  have hmB : m < w.heap.size := htr.map.lt
  have hkw : Kept (fun _ => False) w (v.setCells B6 0 LN) := (hk0.step hk (fun k e => by have e' : k = B6 := e; omega))
  have hmm := htr.map.kept hkw (fun h => h)
  refine ⟨⟨?_, ?_, ?_, ?_⟩, p1, htr.kept hkw (fun _ _ _ h => h), hkw.mono (fun _ _ h => h.elim)⟩
  · exact (hf.obj.kept hk hgB).cell_is hf.lv
  · rw [hLK]; exact rangeAt_kept hrk hk Am
  · have := lookup_is (T := 149) Tryz.underlying149 hzl hmm hkh
    rw [hlk] at this
    rw [hLK, Ac]
    exact this
  · exact p1.there 0 33 (by rw [List.size_toArray, ln]; decide)
 have Ar := Hh (show (Tryz.prog.info? 30).map (·.size) = some LN.toArray.size by rw [List.size_toArray, ln]; kernel_rfl)
 have Ao := Hh (show LN.toArray.all (·.oneCell') = true by rw [hLN]; exact ndV_one _)
 have Aw := Hh (show LN.toArray.size = 33 by rw [List.size_toArray, ln])
 have Ax := Hh (show (Tryz.prog.info? 27).map (·.size) = some LK.length by rw [lk]; kernel_rfl)
 have hS4 := hS W0.drew (Below.refl _ _).drew
 have HL := Hh Ae
 have HS := Hh hS
 have HF := Hh Ab
 have As := Hh (show partNd K s0 0 (L k0 :: us.map L) = leafNd K s0 l.v l.s by rw [hl]; rfl)
 have Au := Hh hLN
 have hn1 : ¬ ((n : Int) = 0) := by omega
 have hn2 : (0 : Int) < (n : Int) := by omega
 clear hT htr Ad hks Ag hkb hr hrk hlk hfl Ai hl Ah hsh hls Ac hLN ln hLK lk hzl hf hT0 hk0 b5 b6 Ae Al Af hS Am Aq Ab s1 hZs Ap Aa hkh hL hfk hlow
 unfold PartP
 go_enter Tryz.func75, Tryz.ntmps75
 go_upto_region 1 with (fail)
 rw [← hW0, ← hB6]
 clear hW0 hB6
 go_upto_region 4 with (fail)
 refine wp_region_noPanic ?_
 refine wp_region_held_drew (S := fun w' => w'.cell? ⟨g, 8484, none⟩ = some (.map (some m)) ∧ w'.rangeAt kb ko LK ∧ (Instr.lookup 149 (.map (some m)) (.agg LK.toArray) false).run Tryz.prog w' = .ok (.agg #[lv, .int .u64 (ls : Int)]) w' ∧ w'.there B6 0 33) (by kernel_rfl) hS4 (fun hH0 => ?_)
 refine tl 0 (v := (.pointer (some ⟨g, 0, none⟩))) rfl (by intro w' hS; obtain ⟨e0, e1, e2, e3⟩ := hS; go_simp) hH0 ?_
 simp only [qc]
 refine tl 1 (v := (.pointer (some ⟨g, 0, none⟩))) rfl (by intro w' hS; obtain ⟨e0, e1, e2, e3⟩ := hS; go_simp) hH0 ?_
 simp only [qc]
 refine tl 2 (v := (.pointer (some ⟨g, 8484, none⟩))) rfl (by intro w' hS; obtain ⟨e0, e1, e2, e3⟩ := hS; go_simp) hH0 ?_
 simp only [qc]
 refine tl 3 (v := (.map (some m))) rfl (by intro w' hS; obtain ⟨e0, e1, e2, e3⟩ := hS; go_simp) hH0 ?_
 simp only [qc]
 refine tl 4 (v := (.slice (some ⟨kb, ko, none⟩) n c)) rfl (by intro w' hS; obtain ⟨e0, e1, e2, e3⟩ := hS; go_simp) hH0 ?_
 simp only [qc]
 refine tl 5 (v := (.pointer (some ⟨kb, ko, none⟩))) rfl (by intro w' hS; obtain ⟨e0, e1, e2, e3⟩ := hS; go_simp) hH0 ?_
 simp only [qc]
 refine tk 6 (v := (.agg LK.toArray)) rfl (yieldsIf_load_mid (by kernel_rfl) 27 (.tmp 26) rfl kb ko rfl LK _ (fun w' h => h.2.1) Tryz.underlying27 rfl Ax.o) hH0 ?_
 simp only [qc]
 refine tl 7 (v := (.agg #[lv, .int .u64 (ls : Int)])) rfl (by intro w' hS; obtain ⟨e0, e1, e2, e3⟩ := hS; go_simp) hH0 ?_
 simp only [qc]
 refine rdy [8] (ar1 rfl fun K hK => ?_)
 go_simp
 refine (HL.o _ (Below.refl _ _)).mono ?_
 rintro _ v1 ⟨rfl, hb1⟩
 have hs1 := HS.o v1 (below_undrew hb1)
 obtain ⟨hs2, An, Ab⟩ := HF.o v1 (below_undrew hb1)
 have Ak := Hh An
 have Aj := Hh Ab
 have Av := Hh hs1.2.2.2
 clear hb1 An Ab
 refine hK _ _ hs1 fun hH1 => ?_
 clear hK K
 try simp only [qc]
 refine rdy [9] (ar1 rfl fun K hK => ?_)
 refine step_store_mid rfl 30 (.tmp 6) (.tmp 29) rfl B6 0 LN.toArray rfl rfl (by rw [Aw.o]; exact Av.o) Ar.o Ao.o ?_
 refine hK _ _ hs2 fun hH2 => ?_
 clear hK K
 try simp only [qc]
 refine wpAnyH_done (by kernel_rfl) ?_ _
 refine NoPanic.normal ?_
 generalize v1.setCells B6 0 LN.toArray.toList = WF at Ak Aj ⊢
 go_wp2
 refine bodyPost_ret (results_cell_row rfl _ _ B6 30 LN.toArray (0, 0) _ rfl Ak.o Tryz.underlying30 rfl Ar.o) rfl ?_
 exact ⟨by rw [As.o, ← Au.o], Aj.o⟩

def Gd (K s0 : List Wd) (S : Nat → Prop) (g m : Nat) (es : List Ent) (T : List Lf) (W0 v : World) : Prop := TreeAt K s0 S v g m es T ∧ Kept (· = g) W0 v
set_option maxRecDepth 100000 in
set_option maxHeartbeats 16000000 in
theorem part_two (h : Nat) (hh : h < 256) (L : List Nat → Lf) (hLk : ∀ k, (∃ l, findT T k = some l) → findT T k = some (L k))
   (IH : ∀ (w : World), Tabs K s0 w → TreeAt K s0 S w g m es T → ∀ (a : Option Addr) (n c : Nat) (ks : List (List Nat)), KeysAt w a n ks → n ≤ c → n ≤ 256 → FarK a g → Sorted ks → Coh ks h → (∀ k ∈ ks, ∃ l, findT T k = some l) →
     Calls Tryz.prog 75 #[.pointer (some ⟨g, 0, none⟩), .slice a n c, .int .i64 (h : Int)] w (PartP K s0 S w g m es T (partNd K s0 h (ks.map L))))
   (w : World) (hT : Tabs K s0 w) (htr : TreeAt K s0 S w g m es T) (a : Option Addr) (n c : Nat) (hn : 0 < n) (ks : List (List Nat)) (hks : KeysAt w a n ks) (hnc : n ≤ c) (hn256 : n ≤ 256) (hfk : FarK a g) (hso : Sorted ks) (hco : Coh ks (h + 1)) (hin : ∀ k ∈ ks, ∃ l, findT T k = some l) :
   Calls Tryz.prog 75 #[.pointer (some ⟨g, 0, none⟩), .slice a n c, .int .i64 ((h : Int) + 1)] w (PartP K s0 S w g m es T (partNd K s0 (h + 1) (ks.map L))) := by
 obtain ⟨Z, hz, hZs, hZn, -⟩ := zero_node
 have s1 : ∀ (x : World) o, (x.alloc o).heap.size = x.heap.size + 1 := fun x o => by simp
 have b5 := (Has.new w 3 #[.int .i64 ((h : Int) + 1)]).alloc (.cells Z 30)
 have b6 := Has.new (w.alloc (.cells #[.int .i64 ((h : Int) + 1)] 3)) 30 Z
 rw [s1] at b6
 have hk0 : Kept (fun _ => False) w ((w.alloc (.cells #[.int .i64 ((h : Int) + 1)] 3)).alloc (.cells Z 30)) := ((Kept.refl _ _).alloc _).alloc _
 have Aq := htr.kept (S := S) hk0 (fun _ _ _ h => h)
 have hT0 := hT.kept hk0 (fun _ h => h.elim)
 have A0 : g < w.heap.size := by obtain ⟨cs, hf⟩ := htr.frame; exact hf.obj.lt
 have c5 : ((w.alloc (.cells #[.int .i64 ((h : Int) + 1)] 3)).alloc (.cells Z 30)).cell? ⟨w.heap.size, 0, none⟩ = some (.int .i64 ((h : Int) + 1)) := b5.cell_is rfl
 have As := Hh hZs
 have A6 : Keyed ks := ⟨hks.hash, hso.nodup⟩
 have hLkey : ∀ k ∈ ks, (L k).k = k := fun k hk => (find_key (hLk k (hin k hk))).1
 obtain ⟨W0, hW0⟩ : ∃ W, W = (w.alloc (.cells #[.int .i64 ((h : Int) + 1)] 3)).alloc (.cells Z 30) := ⟨_, rfl⟩
 rw [← hW0] at b5 b6 hk0 Aq hT0 c5
 have Ap : KeysAt W0 a n ks := hks.kept hk0 (fun _ _ _ h => h)
 have Az : Gd K s0 S g m es T W0 W0 := ⟨Aq, Kept.refl _ _⟩
 have hbs := bsearch_is 103 (.pointer (some ⟨w.heap.size, 0, none⟩)) W0 h a n c ks (by omega) Ap enters_turn
   (fun W k hW hk => turn_part W k hk w.heap.size h hh (cell_held (Kept.of_below (S := fun _ => False) hW) c5 (fun h => h)))
   (fun i j x y hi hj hij => sorted_mono hso hks.hash hh hco hi hj hij)
 have hgw : g < W0.heap.size := by have := hk0.size; omega
 have Ax : ∀ v, Gd K s0 S g m es T W0 v → Tabs K s0 v ∧ KeysAt v a n ks ∧ v.cell? ⟨w.heap.size, 0, none⟩ = some (.int .i64 ((h : Int) + 1)) ∧ Has v (w.heap.size + 1) 30 Z := fun v hv =>
   ⟨hT0.kept hv.2 (fun k e => by have e' : k = g := e; omega), Ap.kept hv.2 (fun b o e e' => hfk _ e e'), cell_held hv.2 c5 (by show ¬ w.heap.size = g; omega), b6.kept hv.2 (by omega)⟩
 have Bq := Hh hbs
 have Ad := Hh Ax
 have Ah := Hh Az
 have Bs := Hh htr
 have Aw := Hh hk0
 have Ai := Hh (And.intro A0 hgw)
 have Bi := Hh hks
 have Aj := Hh A6
 have Ar := Hh hso
 have Au := Hh hco
 have Ba := Hh hin
 have Bb := Hh hLkey
 have Bg := Hh hfk
 have Bh := Hh IH
 have Ag := Hh hT.len
 have Av := Hh htr.fit
 have Bu := Hh hLk
 have Bv := Hh htr.keyed
 have hn1 : ¬ ((n : Int) = 0) := by omega
 have hn2 : (0 : Int) < (n : Int) := by omega
 have hh1 : ¬ ((h : Int) + 1 = 0) := by omega
 have hmf : ∀ (fn : Fn) (first cap : Array Value) (w : World), (Instr.makeFunc fn first cap).run Tryz.prog w = .ok (.func fn first cap) w := fun _ _ _ _ => rfl
 clear hbs Ax Az hT htr Aq hks Ap A6 hso hco hin hLkey hfk IH hT0 hk0 b5 b6 s1 hZs A0 hgw hLk hlow
 unfold PartP
 go_enter Tryz.func75, Tryz.ntmps75
 go_upto_region 1 with (fail)
 rw [← hW0]
 clear hW0
 go_wp2_with fail
 refine Bq.o.mono ?_
 rintro _ w1 ⟨p, pb, rfl, hpn, hp0, hp1, hb1⟩
 obtain ⟨e0, e1⟩ := split_at hp0 hp1
 have hgd : Gd K s0 S g m es T W0 w1.drew := ⟨(Ah.o.1.kept (Z := fun _ => False) (Kept.of_below hb1) (fun _ _ _ h => h)).kept (Z := fun _ => False) ((Kept.refl _ _).drew) (fun _ _ _ h => h), ((Kept.of_below hb1).drew)⟩
 obtain ⟨a1, c1, hcut1, A4, hc1, Ak⟩ := (Bi.o).lo c p hnc hpn g Bg.o
 obtain ⟨a2, c2, hcut2, A5, hc2, Al⟩ := (Bi.o).hi c p hnc hpn g Bg.o
 have m1 : ∀ k ∈ ks.take p, k ∈ ks := fun k hk => List.mem_of_mem_take hk
 have m2 : ∀ k ∈ ks.drop p, k ∈ ks := fun k hk => List.mem_of_mem_drop hk
 have q1 : ∀ k ∈ ks.take p, bitAt k h = 0 := fun k hk => by rw [← e0] at hk; simpa using (List.mem_filter.1 hk).2
 have q2 : ∀ k ∈ ks.drop p, bitAt k h = 1 := fun k hk => by rw [← e1] at hk; simpa using (List.mem_filter.1 hk).2
 obtain ⟨T1, hT1⟩ : ∃ x, x = partNd K s0 h ((ks.take p).map L) := ⟨_, rfl⟩
 obtain ⟨T2, hT2⟩ : ∃ x, x = partNd K s0 h ((ks.drop p).map L) := ⟨_, rfl⟩
 have eP : partNd K s0 (h + 1) (ks.map L) = brNd K s0 T1 T2 := by
   show brNd K s0 (partNd K s0 h (side (ks.map L) h 0)) (partNd K s0 h (side (ks.map L) h 1)) = _
   rw [side_map Bb.o, side_map Bb.o, e0, e1, hT1, hT2]
 have A7 : T1.s + T2.s < 18446744073709551616 := by
   have k1 : ∀ us : List (List Nat), (∀ k ∈ us, k ∈ ks) → (us.map L).map (·.k) = us := fun us hu => by
     rw [List.map_map]
     conv => rhs; rw [← List.map_id us]
     exact List.map_congr_left fun k hk => Bb.o k (hu k hk)
   have s1 := part_sum K s0 h ((ks.take p).map L) (by rw [k1 _ m1]; exact ⟨fun k hk => Aj.o.hash k (m1 k hk), (Ar.o.take p).nodup⟩) (by rw [k1 _ m1]; exact Au.o.less m1 q1)
   have s2 := part_sum K s0 h ((ks.drop p).map L) (by rw [k1 _ m2]; exact ⟨fun k hk => Aj.o.hash k (m2 k hk), (Ar.o.drop p).nodup⟩) (by rw [k1 _ m2]; exact Au.o.less m2 q2)
   rw [hT1, hT2, s1, s2]
   have := sum_some Bv.o.nodup Bu.o Ar.o.nodup Ba.o
   have e : sumT (ks.map L) = sumT ((ks.take p).map L) + sumT ((ks.drop p).map L) := by
     conv => lhs; rw [← List.take_append_drop p ks, List.map_append]
     unfold sumT
     rw [List.map_append, List.sum_append]
   have := Av.o
   omega
 obtain ⟨L1, hL1⟩ : ∃ x, x = ndV T1 := ⟨_, rfl⟩
 obtain ⟨L2, hL2⟩ : ∃ x, x = ndV T2 := ⟨_, rfl⟩
 obtain ⟨L3, hL3⟩ : ∃ x, x = ndV (brNd K s0 T1 T2) := ⟨_, rfl⟩
 have l3 : L3.length = 33 := by rw [hL3]; exact ndV_len (br_hash K s0 Ag.o _ _)
 have th1 : IsHash T1.h := by rw [hT1]; exact part_hash K s0 Ag.o _ _
 have th2 : IsHash T2.h := by rw [hT2]; exact part_hash K s0 Ag.o _ _
 have Ae : ∀ {v v' : World}, Gd K s0 S g m es T W0 v → TreeAt K s0 S v' g m es T → Kept (· = g) v v' → Gd K s0 S g m es T W0 v' ∧ Kept (· = g) v v' := fun hv h1 h2 => ⟨⟨h1, hv.2.trans h2⟩, h2⟩
 have hc1' : ∀ v, Gd K s0 S g m es T W0 v → Calls Tryz.prog 75 #[.pointer (some ⟨g, 0, none⟩), .slice a1 p c1, .int .i64 (h : Int)] v fun e v' => e = .returned (.agg L1.toArray) ∧ Gd K s0 S g m es T W0 v' ∧ Kept (· = g) v v' := fun v hv => by
   have hkw : Kept (· = g) w v := (Aw.o.mono (fun _ _ h => h.elim)).trans hv.2
   have := Bh.o v (Ad.o v hv).1 hv.1 a1 p c1 (ks.take p) (A4.kept hkw (fun b o e e' => Ak _ e e')) hc1 (by omega) Ak (Ar.o.take p) (Au.o.less m1 q1) (fun k hk => Ba.o k (m1 k hk))
   rw [← hT1] at this
   rw [hL1]
   exact this.mono fun e v' h => ⟨h.1, Ae hv h.2.1 h.2.2⟩
 have hc2' : ∀ v, Gd K s0 S g m es T W0 v → Calls Tryz.prog 75 #[.pointer (some ⟨g, 0, none⟩), .slice a2 (n - p) c2, .int .i64 (h : Int)] v fun e v' => e = .returned (.agg L2.toArray) ∧ Gd K s0 S g m es T W0 v' ∧ Kept (· = g) v v' := fun v hv => by
   have hkw : Kept (· = g) w v := (Aw.o.mono (fun _ _ h => h.elim)).trans hv.2
   have := Bh.o v (Ad.o v hv).1 hv.1 a2 (n - p) c2 (ks.drop p) (A5.kept hkw (fun b o e e' => Al _ e e')) hc2 (by omega) Al (Ar.o.drop p) (Au.o.less m2 q2) (fun k hk => Ba.o k (m2 k hk))
   rw [← hT2] at this
   rw [hL2]
   exact this.mono fun e v' h => ⟨h.1, Ae hv h.2.1 h.2.2⟩
 have hc3' : ∀ v, Gd K s0 S g m es T W0 v → Calls Tryz.prog 52 #[.agg L1.toArray, .agg L2.toArray] v fun e v' => e = .returned (.tuple #[.agg L3.toArray, .int .i64 0]) ∧ Gd K s0 S g m es T W0 v' ∧ Kept (· = g) v v' := fun v hv => by
   have := branch_fits K s0 v T1.h T2.h T1.s T2.s (Ad.o v hv).1 th1 th2 A7
   rw [hL1, hL2, hL3]
   refine this.mono fun e v' h => ⟨h.1, ?_⟩
   have hk : Kept (fun _ => False) v v' := Kept.of_below h.2
   exact Ae hv (hv.1.kept hk (fun _ _ _ h => h)) (hk.mono (fun _ _ h => h.elim))
 have hal : ∀ v, Gd K s0 S g m es T W0 v → Gd K s0 S g m es T W0 (v.alloc (.cells Z 30)) := fun v hv => ⟨hv.1.kept (Z := fun _ => False) ((Kept.refl _ _).alloc _) (fun _ _ _ h => h), hv.2.alloc _⟩
 have Ay : ∀ v B, Gd K s0 S g m es T W0 v → Has v B 30 Z → W0.heap.size ≤ B →
     (v.setCells B 0 L3.toArray.toList).cell? ⟨w.heap.size, 0, none⟩ = some (.int .i64 ((h : Int) + 1)) ∧ Has (v.setCells B 0 L3.toArray.toList) B 30 L3.toArray ∧ Has (v.setCells B 0 L3.toArray.toList) (w.heap.size + 1) 30 Z ∧
     Has ((v.setCells B 0 L3.toArray.toList).setRow (w.heap.size + 1) L3.toArray) (w.heap.size + 1) 30 L3.toArray ∧
     (TreeAt K s0 S ((v.setCells B 0 L3.toArray.toList).setRow (w.heap.size + 1) L3.toArray) g m es T ∧ Kept (· = g) w ((v.setCells B 0 L3.toArray.toList).setRow (w.heap.size + 1) L3.toArray)) := fun v B hv hB hle => by
   obtain ⟨p1, p2⟩ := row_set (L := L3) hB (by rw [As.o, l3])
   obtain ⟨f1, f2, f3, f4⟩ := Ad.o v hv
   have hg1 := Ai.o
   have hw0 := Aw.o.size
   have hb6 : w.heap.size + 1 < W0.heap.size := Ad.o W0 Ah.o |>.2.2.2.lt
   have p3 := f4.kept p2 (by omega)
   have p4 : Kept (· = w.heap.size + 1) (v.setCells B 0 L3) ((v.setCells B 0 L3).setRow (w.heap.size + 1) L3.toArray) := kept_setRow (g := w.heap.size + 1) _ L3.toArray
   have hkw : Kept (· = g) w ((v.setCells B 0 L3).setRow (w.heap.size + 1) L3.toArray) := (((Aw.o.mono (fun _ _ h => h.elim)).trans hv.2).step p2 (fun k e => by have e' : k = B := e; omega)).step p4 (fun k e => by have e' : k = w.heap.size + 1 := e; omega)
   refine ⟨cell_held p2 f3 (by show ¬ w.heap.size = B; omega), p1, p3, p3.setRow, ?_, hkw⟩
   obtain ⟨cs, hf⟩ := hv.1.frame
   exact Bs.o.framed hkw (cs := cs) ⟨(hf.obj.kept p2 (by omega)).kept p4 (by omega), hf.size, hf.lock, hf.lv, hf.sm, hf.once⟩
 have hS6 : w1.drew.cell? ⟨w.heap.size, 0, none⟩ = some (.int .i64 ((h : Int) + 1)) := (Ad.o _ hgd).2.2.1
 have HS := Hh (fun v hv => (Ad.o v hv).2.2.1)
 have Br := Hh hc1'
 have Bf := Hh hc2'
 have A9 := Hh hc3'
 have HA := Hh hal
 have Af := Hh Ay
 have GD := Hh hgd
 have A8 := Hh (show L3 = ndV (partNd K s0 (h + 1) (ks.map L)) by rw [hL3, eP])
 have Ac := Hh (show (Tryz.prog.info? 30).map (·.size) = some L3.toArray.size by rw [List.size_toArray, l3]; kernel_rfl)
 have Ab := Hh (show L3.toArray.all (·.oneCell') = true by rw [hL3]; exact ndV_one _)
 have Bd := Hh (show L3.toArray.size = 33 by rw [List.size_toArray, l3])
 have Bc := Hh (show Z.size = L3.toArray.size by rw [As.o, List.size_toArray, l3])
 have hq : wrap64 ((h : Int) + 1 - 1) = (h : Int) := by unfold wrap64; omega
 have hq1 : (h : Int) + 1 - 1 = (h : Int) := by omega
 have hq3 : wrap64 (h : Int) = (h : Int) := by unfold wrap64; omega
 have hq4 : IntKind.i64.wrap (h : Int) = (h : Int) := wrap_small h hh
 clear hpn hp0 hp1 hb1 e0 e1 hgd A4 hc1 Ak A5 hc2 Al m1 m2 q1 q2 hT1 hT2 eP A7 hL1 hL2 hL3 l3 th1 th2 Ae hc1' hc2' hc3' hal Ay Bq Bi Aj Ar Au Ba Bb Bg Bh Ag Av Bs Aw Ah
 go_upto_region 6 with (fail)
 refine wp_region_noPanic ?_
 refine wp_region_held_drew (S := fun w' => w'.cell? ⟨w.heap.size, 0, none⟩ = some (.int .i64 ((h : Int) + 1))) (by kernel_rfl) hS6 (fun hH0 => ?_)
 refine tl 0 (v := (.pointer (some ⟨g, 0, none⟩))) rfl (by intro w' hS; go_simp) hH0 ?_
 simp only [qc]
 refine tl 1 (v := (.slice a n c)) rfl (by intro w' hS; go_simp) hH0 ?_
 simp only [qc]
 refine tl 2 (v := (.int .i64 (p : Int))) rfl (by intro w' hS; go_simp) hH0 ?_
 simp only [qc]
 refine tl 3 (v := (.slice a1 p c1)) rfl (by intro w' hS; go_simp) hH0 ?_
 simp only [qc]
 refine tl 4 (v := (.int .i64 ((h : Int) + 1))) rfl (by intro w' hS; go_simp) hH0 ?_
 simp only [qc]
 refine tl 5 (v := (.int .i64 (h : Int))) rfl (by intro w' hS; go_simp) hH0 ?_
 simp only [qc]
 refine tl 7 (v := (.pointer (some ⟨g, 0, none⟩))) rfl (by intro w' hS; go_simp) hH0 ?_
 simp only [qc]
 refine tl 8 (v := (.slice a n c)) rfl (by intro w' hS; go_simp) hH0 ?_
 simp only [qc]
 refine tl 9 (v := (.int .i64 (p : Int))) rfl (by intro w' hS; go_simp) hH0 ?_
 simp only [qc]
 refine tl 10 (v := (.slice a2 (n - p) c2)) rfl (by intro w' hS; go_simp) hH0 ?_
 simp only [qc]
 refine tl 11 (v := (.int .i64 ((h : Int) + 1))) rfl (by intro w' hS; go_simp) hH0 ?_
 simp only [qc]
 refine tl 12 (v := (.int .i64 (h : Int))) rfl (by intro w' hS; go_simp) hH0 ?_
 simp only [qc]
 refine rdy [6, 18] (AllReadyH.cons rfl (fun K hK => ?_) (ar1 rfl fun K hK => ?_))
 · skip
   go_simp
   refine (Br.o _ GD.o).mono ?_
   rintro _ v1 ⟨rfl, hg1, hk1⟩
   have G1 := Hh hg1
   have hs1 := HS.o v1 hg1
   clear hg1 hk1
   refine hK _ _ hs1 fun hH1 => ?_
   clear hK K
   try simp only [qc]
   refine rdy [13, 18] (AllReadyH.cons rfl (fun K hK => ?_) (ar1 rfl fun K hK => ?_))
   · skip
     go_simp
     refine (Bf.o _ G1.o).mono ?_
     rintro _ v2 ⟨rfl, hg2, hk2⟩
     have G2 := Hh hg2
     have hs2 := HS.o v2 hg2
     clear hg2 hk2
     refine hK _ _ hs2 fun hH2 => ?_
     clear hK K
     try simp only [qc]
     refine rdy [14, 18] (AllReadyH.cons rfl (fun K hK => ?_) (ar1 rfl fun K hK => ?_))
     · skip
       go_simp
       refine (A9.o _ G2.o).mono ?_
       rintro _ v3 ⟨rfl, hg3, hk3⟩
       have G3 := Hh hg3
       have hs3 := HS.o v3 hg3
       clear hg3 hk3
       refine hK _ _ hs3 fun hH3 => ?_
       clear hK K
       try simp only [qc]
       refine tl 15 (v := (.tuple #[.agg L3.toArray, .int .i64 0])) rfl (by intro w' hS; go_simp) hH3 ?_
       simp only [qc]
       refine tl 16 (v := (.agg L3.toArray)) rfl (by intro w' hS; go_simp) hH3 ?_
       simp only [qc]
       refine tl 17 (v := (.int .i64 0)) rfl (by intro w' hS; go_simp) hH3 ?_
       simp only [qc]
       refine rdy [18] (ar1 rfl fun K hK => ?_)
       go_simp
       have G4 := Hh (HA.o _ G3.o)
       have hs4 := HS.o _ G4.o
       have P4 := Hh (Has.new v3 30 Z)
       have Aa := Hh G3.o.2.size
       refine hK _ _ hs4 fun hH4 => ?_
       clear hK K
       try simp only [qc]
       obtain ⟨f1, f2, f3, f4, f5⟩ := Af.o (v3.alloc (.cells Z 30)) (v3.heap.size) G4.o P4.o (by first | exact G4.o.2.size | exact Aa.o)
       have F2 := Hh f2
       have F3 := Hh f3
       have F4 := Hh f4
       have F5 := Hh f5
       clear f2 f3 f4 f5
       refine rdy [19] (ar1 rfl fun K hK => ?_)
       refine step_store_mid rfl 30 (.tmp 9) (.tmp 52) rfl (v3.heap.size) 0 L3.toArray rfl rfl (by rw [Bd.o]; exact P4.o.there 0 33 (by rw [As.o]; decide)) Ac.o Ab.o ?_
       refine hK _ _ f1 fun hHf => ?_
       clear hK K
       try simp only [qc]
       refine tl 20 (v := (.int .i64 0)) rfl (by intro w' hS; go_simp) hHf ?_
       simp only [qc]
       refine wpAnyH_done (by kernel_rfl) ?_ _
       refine NoPanic.normal ?_
       generalize (v3.alloc (.cells Z 30)).setCells (v3.heap.size) 0 L3.toArray.toList = WF at F2 F3 F4 F5 ⊢
       go_wp2_with (first | (refine wpList_load_row rfl 30 (.tmp 9) rfl (v3.heap.size) rfl 30 L3.toArray (0, 0) _ F2.o Tryz.underlying30 rfl Ac.o ?_) | (refine wpList_store_row rfl 30 (.tmp 6) (.tmp 54) rfl (w.heap.size + 1) L3.toArray rfl rfl 30 Z F3.o Ac.o Bc.o Ab.o ?_))
       refine bodyPost_ret (results_cell_row rfl _ _ (w.heap.size + 1) 30 L3.toArray (0, 0) _ rfl F4.o Tryz.underlying30 rfl Ac.o) rfl ?_
       exact ⟨by rw [← A8.o], F5.o⟩
     · skip
       go_simp
       have G5 := Hh (HA.o _ G2.o)
       have hs5 := HS.o _ G5.o
       have P5 := Hh (Has.new v2 30 Z)
       have Aa := Hh G2.o.2.size
       refine hK _ _ hs5 fun hH5 => ?_
       clear hK K
       try simp only [qc]
       refine rdy [14] (ar1 rfl fun K hK => ?_)
       go_simp
       refine (A9.o _ G5.o).mono ?_
       rintro _ v6 ⟨rfl, hg6, hk6⟩
       have G6 := Hh hg6
       have hs6 := HS.o v6 hg6
       have P6 := Hh (P5.o.kept hk6 (by have := Ai.o; have := G5.o.2.size; first | omega | (have := Aa.o; omega)))
       clear hg6 hk6
       refine hK _ _ hs6 fun hH6 => ?_
       clear hK K
       try simp only [qc]
       refine tl 15 (v := (.tuple #[.agg L3.toArray, .int .i64 0])) rfl (by intro w' hS; go_simp) hH6 ?_
       simp only [qc]
       refine tl 16 (v := (.agg L3.toArray)) rfl (by intro w' hS; go_simp) hH6 ?_
       simp only [qc]
       refine tl 17 (v := (.int .i64 0)) rfl (by intro w' hS; go_simp) hH6 ?_
       simp only [qc]
       obtain ⟨f1, f2, f3, f4, f5⟩ := Af.o v6 (v2.heap.size) G6.o P6.o (by first | exact G6.o.2.size | exact Aa.o)
       have F2 := Hh f2
       have F3 := Hh f3
       have F4 := Hh f4
       have F5 := Hh f5
       clear f2 f3 f4 f5
       refine rdy [19] (ar1 rfl fun K hK => ?_)
       refine step_store_mid rfl 30 (.tmp 9) (.tmp 52) rfl (v2.heap.size) 0 L3.toArray rfl rfl (by rw [Bd.o]; exact P6.o.there 0 33 (by rw [As.o]; decide)) Ac.o Ab.o ?_
       refine hK _ _ f1 fun hHf => ?_
       clear hK K
       try simp only [qc]
       refine tl 20 (v := (.int .i64 0)) rfl (by intro w' hS; go_simp) hHf ?_
       simp only [qc]
       refine wpAnyH_done (by kernel_rfl) ?_ _
       refine NoPanic.normal ?_
       generalize v6.setCells (v2.heap.size) 0 L3.toArray.toList = WF at F2 F3 F4 F5 ⊢
       go_wp2_with (first | (refine wpList_load_row rfl 30 (.tmp 9) rfl (v2.heap.size) rfl 30 L3.toArray (0, 0) _ F2.o Tryz.underlying30 rfl Ac.o ?_) | (refine wpList_store_row rfl 30 (.tmp 6) (.tmp 54) rfl (w.heap.size + 1) L3.toArray rfl rfl 30 Z F3.o Ac.o Bc.o Ab.o ?_))
       refine bodyPost_ret (results_cell_row rfl _ _ (w.heap.size + 1) 30 L3.toArray (0, 0) _ rfl F4.o Tryz.underlying30 rfl Ac.o) rfl ?_
       exact ⟨by rw [← A8.o], F5.o⟩
   · skip
     go_simp
     have G7 := Hh (HA.o _ G1.o)
     have hs7 := HS.o _ G7.o
     have P7 := Hh (Has.new v1 30 Z)
     have Aa := Hh G1.o.2.size
     refine hK _ _ hs7 fun hH7 => ?_
     clear hK K
     try simp only [qc]
     refine rdy [13] (ar1 rfl fun K hK => ?_)
     go_simp
     refine (Bf.o _ G7.o).mono ?_
     rintro _ v8 ⟨rfl, hg8, hk8⟩
     have G8 := Hh hg8
     have hs8 := HS.o v8 hg8
     have P8 := Hh (P7.o.kept hk8 (by have := Ai.o; have := G7.o.2.size; first | omega | (have := Aa.o; omega)))
     clear hg8 hk8
     refine hK _ _ hs8 fun hH8 => ?_
     clear hK K
     try simp only [qc]
     refine rdy [14] (ar1 rfl fun K hK => ?_)
     go_simp
     refine (A9.o _ G8.o).mono ?_
     rintro _ v9 ⟨rfl, hg9, hk9⟩
     have G9 := Hh hg9
     have hs9 := HS.o v9 hg9
     have P9 := Hh (P8.o.kept hk9 (by have := Ai.o; have := G8.o.2.size; first | omega | (have := Aa.o; omega)))
     clear hg9 hk9
     refine hK _ _ hs9 fun hH9 => ?_
     clear hK K
     try simp only [qc]
     refine tl 15 (v := (.tuple #[.agg L3.toArray, .int .i64 0])) rfl (by intro w' hS; go_simp) hH9 ?_
     simp only [qc]
     refine tl 16 (v := (.agg L3.toArray)) rfl (by intro w' hS; go_simp) hH9 ?_
     simp only [qc]
     refine tl 17 (v := (.int .i64 0)) rfl (by intro w' hS; go_simp) hH9 ?_
     simp only [qc]
     obtain ⟨f1, f2, f3, f4, f5⟩ := Af.o v9 (v1.heap.size) G9.o P9.o (by first | exact G9.o.2.size | exact Aa.o)
     have F2 := Hh f2
     have F3 := Hh f3
     have F4 := Hh f4
     have F5 := Hh f5
     clear f2 f3 f4 f5
     refine rdy [19] (ar1 rfl fun K hK => ?_)
     refine step_store_mid rfl 30 (.tmp 9) (.tmp 52) rfl (v1.heap.size) 0 L3.toArray rfl rfl (by rw [Bd.o]; exact P9.o.there 0 33 (by rw [As.o]; decide)) Ac.o Ab.o ?_
     refine hK _ _ f1 fun hHf => ?_
     clear hK K
     try simp only [qc]
     refine tl 20 (v := (.int .i64 0)) rfl (by intro w' hS; go_simp) hHf ?_
     simp only [qc]
     refine wpAnyH_done (by kernel_rfl) ?_ _
     refine NoPanic.normal ?_
     generalize v9.setCells (v1.heap.size) 0 L3.toArray.toList = WF at F2 F3 F4 F5 ⊢
     go_wp2_with (first | (refine wpList_load_row rfl 30 (.tmp 9) rfl (v1.heap.size) rfl 30 L3.toArray (0, 0) _ F2.o Tryz.underlying30 rfl Ac.o ?_) | (refine wpList_store_row rfl 30 (.tmp 6) (.tmp 54) rfl (w.heap.size + 1) L3.toArray rfl rfl 30 Z F3.o Ac.o Bc.o Ab.o ?_))
     refine bodyPost_ret (results_cell_row rfl _ _ (w.heap.size + 1) 30 L3.toArray (0, 0) _ rfl F4.o Tryz.underlying30 rfl Ac.o) rfl ?_
     exact ⟨by rw [← A8.o], F5.o⟩
 · skip
   go_simp
   have Be := Hh (HA.o _ GD.o)
   have Bj := HS.o _ Be.o
   have Bw := Hh (Has.new w1.drew 30 Z)
   have Aa := Hh GD.o.2.size
   refine hK _ _ Bj fun hH10 => ?_
   clear hK K
   try simp only [qc]
   refine rdy [6] (ar1 rfl fun K hK => ?_)
   go_simp
   refine (Br.o _ Be.o).mono ?_
   rintro _ v11 ⟨rfl, Am, A1⟩
   have Bn := Hh Am
   have Bk := HS.o v11 Am
   have Bx := Hh (Bw.o.kept A1 (by have := Ai.o; have := Be.o.2.size; first | omega | (have := Aa.o; omega)))
   clear Am A1
   refine hK _ _ Bk fun hH11 => ?_
   clear hK K
   try simp only [qc]
   refine rdy [13] (ar1 rfl fun K hK => ?_)
   go_simp
   refine (Bf.o _ Bn.o).mono ?_
   rintro _ v12 ⟨rfl, An, A2⟩
   have Bo := Hh An
   have Bl := HS.o v12 An
   have By := Hh (Bx.o.kept A2 (by have := Ai.o; have := Bn.o.2.size; first | omega | (have := Aa.o; omega)))
   clear An A2
   refine hK _ _ Bl fun hH12 => ?_
   clear hK K
   try simp only [qc]
   refine rdy [14] (ar1 rfl fun K hK => ?_)
   go_simp
   refine (A9.o _ Bo.o).mono ?_
   rintro _ v13 ⟨rfl, Ao, A3⟩
   have Bp := Hh Ao
   have Bm := HS.o v13 Ao
   have Bt := Hh (By.o.kept A3 (by have := Ai.o; have := Bo.o.2.size; first | omega | (have := Aa.o; omega)))
   clear Ao A3
   refine hK _ _ Bm fun hH13 => ?_
   clear hK K
   try simp only [qc]
   refine tl 15 (v := (.tuple #[.agg L3.toArray, .int .i64 0])) rfl (by intro w' hS; go_simp) hH13 ?_
   simp only [qc]
   refine tl 16 (v := (.agg L3.toArray)) rfl (by intro w' hS; go_simp) hH13 ?_
   simp only [qc]
   refine tl 17 (v := (.int .i64 0)) rfl (by intro w' hS; go_simp) hH13 ?_
   simp only [qc]
   obtain ⟨f1, f2, f3, f4, f5⟩ := Af.o v13 (w1.drew.heap.size) Bp.o Bt.o (by first | exact Bp.o.2.size | exact Aa.o)
   have F2 := Hh f2
   have F3 := Hh f3
   have F4 := Hh f4
   have F5 := Hh f5
   clear f2 f3 f4 f5
   refine rdy [19] (ar1 rfl fun K hK => ?_)
   refine step_store_mid rfl 30 (.tmp 9) (.tmp 52) rfl (w1.drew.heap.size) 0 L3.toArray rfl rfl (by rw [Bd.o]; exact Bt.o.there 0 33 (by rw [As.o]; decide)) Ac.o Ab.o ?_
   refine hK _ _ f1 fun hHf => ?_
   clear hK K
   try simp only [qc]
   refine tl 20 (v := (.int .i64 0)) rfl (by intro w' hS; go_simp) hHf ?_
   simp only [qc]
   refine wpAnyH_done (by kernel_rfl) ?_ _
   refine NoPanic.normal ?_
   generalize v13.setCells (w1.drew.heap.size) 0 L3.toArray.toList = WF at F2 F3 F4 F5 ⊢
   go_wp2_with (first | (refine wpList_load_row rfl 30 (.tmp 9) rfl (w1.drew.heap.size) rfl 30 L3.toArray (0, 0) _ F2.o Tryz.underlying30 rfl Ac.o ?_) | (refine wpList_store_row rfl 30 (.tmp 6) (.tmp 54) rfl (w.heap.size + 1) L3.toArray rfl rfl 30 Z F3.o Ac.o Bc.o Ab.o ?_))
   refine bodyPost_ret (results_cell_row rfl _ _ (w.heap.size + 1) 30 L3.toArray (0, 0) _ rfl F4.o Tryz.underlying30 rfl Ac.o) rfl ?_
   exact ⟨by rw [← A8.o], F5.o⟩

theorem part_is (L : List Nat → Lf) (hLk : ∀ k, (∃ l, findT T k = some l) → findT T k = some (L k)) : ∀ (h : Nat), h ≤ 256 → ∀ (w : World), Tabs K s0 w → TreeAt K s0 S w g m es T → ∀ (a : Option Addr) (n c : Nat) (ks : List (List Nat)), KeysAt w a n ks → n ≤ c → n ≤ 256 → FarK a g → Sorted ks → Coh ks h → (∀ k ∈ ks, ∃ l, findT T k = some l) →
    Calls Tryz.prog 75 #[.pointer (some ⟨g, 0, none⟩), .slice a n c, .int .i64 (h : Int)] w (PartP K s0 S w g m es T (partNd K s0 h (ks.map L))) := by
 have nil : ∀ (w : World) (a : Option Addr) (ks : List (List Nat)), KeysAt w a 0 ks → ks = [] := fun w a ks h => List.eq_nil_of_length_eq_zero h.len
 intro h
 induction h with
 | zero =>
  intro hh w hT htr a n c ks hks hnc hn hfk hso hco hin
  rcases Nat.eq_zero_or_pos n with h0 | h0
  · subst h0
    rw [nil w a ks hks]
    exact part_none K s0 S g m es T hlow w hT htr a c 0 (by decide)
  · exact part_leaf K s0 S g m es T hlow w hT htr a n c h0 ks hks hfk L (fun k hk => hLk k (hin k hk))
 | succ h ih =>
  intro hh w hT htr a n c ks hks hnc hn hfk hso hco hin
  rcases Nat.eq_zero_or_pos n with h0 | h0
  · subst h0
    rw [nil w a ks hks]
    exact part_none K s0 S g m es T hlow w hT htr a c (h + 1) hh
  · exact part_two K s0 S g m es T hlow h (by omega) L hLk (ih (by omega)) w hT htr a n c h0 ks hks hnc hn hfk hso hco hin
end
end
end Go.Proofs.YtknfbccbdiidjaaGreatDoor
