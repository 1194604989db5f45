/- The walk of part: what stands for the part of a height that has these keys. -/
import Derived.Test.YtknfbccbdiidjaaGreatDoorWu
import Derived.Test.YtknfbccbdiidjaaGreatDoorLTree7
import Derived.Test.YtknfbccbdiidjaaGreatDoorLKeys1
import Derived.Test.YtknfbccbdiidjaaGreatDoorLBits
import Derived.Test.YtknfbccbdiidjaaGreatDoorLMem
import Derived.Shelf.SlSortCmp.NoneTotal
import Derived.Deep.WholeRow
import Derived.WideLaws
namespace Go.Proofs.YtknfbccbdiidjaaGreatDoor
set_option linter.unusedVariables false
set_option linter.unusedSimpArgs false
set_option linter.unusedSectionVars false
open Go.ChangeShapes Go.WideShapes Go.ChangeAt Go.RowKit Go.Maps

def PartP (K s0 : List Wd) (S : Nat → Prop) (w : World) (g m : Nat) (es : List Ent) (T : List Lf) (n : Nd) (e : Ending) (w' : World) : Prop :=
 e = .returned (.agg (ndV n).toArray) ∧ TreeAt K s0 S w' g m es T ∧ Kept (· = g) w w'
theorem row_set {w : World} {B : Nat} {t : TypeId} {Z : Array Value} {L : List Value} (h : Has w B t Z) (hl : Z.size = L.length) : Has (w.setCells B 0 L) B t L.toArray ∧ Kept (· = B) w (w.setCells B 0 L) := by
 obtain ⟨cur, h1, h2, h3, h4⟩ := Has.setCells L 0 w Z h
 have e : cur = L.toArray := by
  apply Array.toList_inj.1
  apply List.ext_getElem?
  intro j
  by_cases hj : j < Z.size
  · rw [Array.getElem?_toList, h3 j hj, if_pos (by omega), Nat.sub_zero]
  · rw [List.getElem?_eq_none (by rw [Array.length_toList, h2]; omega), List.getElem?_eq_none (by show L.length ≤ j; omega)]
 rw [e] at h1
 exact ⟨h1, h4⟩

theorem le_sum {T : List Lf} {t : Lf} (h : t ∈ T) : t.s ≤ sumT T := by
 induction T with
 | nil => cases h
 | cons u T ih =>
  unfold sumT at ih ⊢
  simp only [List.map_cons, List.sum_cons]
  rcases List.mem_cons.1 h with rfl | h
  · omega
  · have := ih h; omega
theorem enters_turn : ∀ args w, (callFunc 103 args).run Tryz.prog w = .ok (.enter 103 args) w := enters_of Tryz.func103 (by kernel_rfl) rfl
theorem wrap_small (h : Nat) (hh : h < 256) : IntKind.i64.wrap (h : Int) = (h : Int) := by rw [IntKind.wrap_i64]; omega
theorem sum_some {T : List Lf} (hT : (T.map (·.k)).Nodup) {L : List Nat → Lf} (hL : ∀ k, (∃ l, findT T k = some l) → findT T k = some (L k)) : ∀ {ks : List (List Nat)}, ks.Nodup → (∀ k ∈ ks, ∃ l, findT T k = some l) → sumT (ks.map L) ≤ sumT T := by
 intro ks
 induction ks generalizing T with
 | nil => intro _ _; exact Nat.zero_le _
 | cons k ks ih =>
  intro hn hin
  rw [List.nodup_cons] at hn
  have hk := hL k (hin k (by simp))
  have hd : ∀ x, x ≠ k → findT (dropT T k) x = findT T x := fun x hx => by rw [drop_find hT, if_neg (fun e => hx e.symm)]
  have hne : ∀ x ∈ ks, x ≠ k := fun x hx e => hn.1 (e ▸ hx)
  have := ih (T := dropT T k) (List.Nodup.sublist ((drop_sub T k).map _) hT) (fun x ⟨l, hl⟩ => by
   have hxk : x ≠ k := fun e => by rw [e, drop_find hT, if_pos rfl] at hl; cases hl
   rw [hd x hxk] at hl ⊢
   exact hL x ⟨l, hl⟩) hn.2 (fun x hx => by
   rw [hd x (hne x hx)]
   exact hin x (List.mem_cons_of_mem _ hx))
  have hs := sum_drop T k
  have hw : wasS T k = (L k).s := by unfold wasS; rw [hk]
  rw [List.map_cons]
  have e : sumT (L k :: ks.map L) = (L k).s + sumT (ks.map L) := by unfold sumT; rw [List.map_cons, List.sum_cons]
  omega
section
section
variable (K s0 : List Wd) (S : Nat → Prop) (g m : Nat) (es : List Ent) (T : List Lf) (hlow : 2 + 1 ≤ g)
include hlow
set_option maxRecDepth 100000 in
set_option maxHeartbeats 2000000 in
theorem part_none (w : World) (hT : Tabs K s0 w) (htr : TreeAt K s0 S w g m es T) (a : Option Addr) (c ht : Nat) (hh : ht ≤ 256) :
  Calls Tryz.prog 75 #[.pointer (some ⟨g, 0, none⟩), .slice a 0 c, .int .i64 (ht : Int)] w (PartP K s0 S w g m es T (partNd K s0 ht [])) := by
 obtain ⟨Z, hz, hZs, hZn, -⟩ := zero_node
 have s1 : ∀ (x : World) o, (x.alloc o).heap.size = x.heap.size + 1 := fun x o => by simp
 have b5 := (Has.new w 3 #[.int .i64 (ht : Int)]).alloc (.cells Z 30)
 have b6 := Has.new (w.alloc (.cells #[.int .i64 (ht : Int)] 3)) 30 Z
 rw [s1] at b6
 have hk0 : Kept (fun _ => False) w ((w.alloc (.cells #[.int .i64 (ht : Int)] 3)).alloc (.cells Z 30)) := ((Kept.refl _ _).alloc _).alloc _
 have Ab := htr.kept (S := S) hk0 (fun _ _ _ h => h)
 have hT0 := hT.kept hk0 (fun _ h => h.elim)
 have Aa : g < w.heap.size := by obtain ⟨cs, hf⟩ := htr.frame; exact hf.obj.lt
 have c5 : ((w.alloc (.cells #[.int .i64 (ht : Int)] 3)).alloc (.cells Z 30)).cell? ⟨w.heap.size, 0, none⟩ = some (.int .i64 (ht : Int)) := b5.cell_is rfl
 obtain ⟨cs, hf⟩ := Ab.frame
 have hno := nothing_is K s0 _ hT0 g m (sumT T) cs hf hlow ht hh
 obtain ⟨LN, hLN⟩ : ∃ L, L = ndV (emptyNd K s0 ht) := ⟨_, rfl⟩
 have ln : LN.length = 33 := by rw [hLN]; exact ndV_len (empty_hash K s0 hT.len ht)
 rw [← hLN] at hno
 have Ah := Hh (show (Tryz.prog.info? 30).map (·.size) = some LN.toArray.size by rw [List.size_toArray, ln]; kernel_rfl)
 have An := Hh (show LN.toArray.all (·.oneCell') = true by rw [hLN]; exact ndV_one _)
 have Am := Hh (show Z.size = LN.toArray.size by rw [hZs, List.size_toArray, ln])
 have Af := Hh hno
 have Ac := Hh b6
 have Al := Hh htr
 have Ae := Hh (hk0.mono (S' := (· = g)) (fun _ _ h => h.elim))
 have Ak := Hh Aa
 have Ai := Hh hLN
 clear htr Ab hf hno hT hT0 b5 b6 hk0 hZs s1 Aa hLN ln hlow
 unfold PartP
 go_enter Tryz.func75, Tryz.ntmps75
 go_upto_region 1 with (fail)
 generalize (w.alloc (.cells #[.int .i64 (ht : Int)] 3)).alloc (.cells Z 30) = W0 at Af Ac Ae c5 ⊢
 go_wp2_with fail
 refine Af.o.mono ?_
 rintro _ w1 ⟨rfl, ⟨cs', hf1⟩, hk1⟩
 have hgg := Ak.o
 have hb6 := Ac.o.kept hk1 (by omega)
 have hk2 : Kept (· = w.heap.size + 1) w1 (w1.setRow (w.heap.size + 1) LN.toArray) := kept_setRow (g := w.heap.size + 1) w1 LN.toArray
 have Ag := Hh (show Has (w1.setRow (w.heap.size + 1) LN.toArray) (w.heap.size + 1) 30 LN.toArray from hb6.setRow)
 have hkF : Kept (· = g) w (w1.setRow (w.heap.size + 1) LN.toArray) := (Ae.o.trans hk1).step hk2 (fun k e => by have e' : k = w.heap.size + 1 := e; omega)
 have Ad := Hh (And.intro (Al.o.framed hkF (cs := cs') ⟨hf1.obj.kept hk2 (by omega), hf1.size, hf1.lock, hf1.lv, hf1.sm, hf1.once⟩) hkF)
 have Aj := Hh hb6
 clear hf1 hk1 hk2 hb6 hkF hgg Af Ac Ae c5
 go_wp2_with (refine wpList_store_row rfl 30 (.tmp 6) (.tmp 17) rfl (w.heap.size + 1) LN.toArray rfl rfl 30 Z Aj.o Ah.o Am.o An.o ?_)
 refine bodyPost_ret (results_cell_row rfl _ _ (w.heap.size + 1) 30 LN.toArray (0, 0) _ rfl Ag.o Tryz.underlying30 rfl Ah.o) rfl ?_
 exact ⟨by rw [part_nil, ← Ai.o], Ad.o⟩

set_option maxRecDepth 100000 in
set_option maxHeartbeats 4000000 in
theorem part_leaf (w : World) (hT : Tabs K s0 w) (htr : TreeAt K s0 S w g m es T) (a : Option Addr) (n c : Nat) (hn : 0 < n) (ks : List (List Nat)) (hks : KeysAt w a n ks) (hfk : FarK a g) (L : List Nat → Lf) (hL : ∀ k ∈ ks, findT T k = some (L k)) :
  Calls Tryz.prog 75 #[.pointer (some ⟨g, 0, none⟩), .slice a n c, .int .i64 0] w (PartP K s0 S w g m es T (partNd K s0 0 (ks.map L))) := by
 obtain ⟨Z, hz, hZs, hZn, -⟩ := zero_node
 have s1 : ∀ (x : World) o, (x.alloc o).heap.size = x.heap.size + 1 := fun x o => by simp
 have b5 := (Has.new w 3 #[.int .i64 0]).alloc (.cells Z 30)
 have b6 := Has.new (w.alloc (.cells #[.int .i64 0] 3)) 30 Z
 rw [s1] at b6
 have hk0 : Kept (fun _ => False) w ((w.alloc (.cells #[.int .i64 0] 3)).alloc (.cells Z 30)) := ((Kept.refl _ _).alloc _).alloc _
 have Ad := htr.kept (S := S) hk0 (fun _ _ _ h => h)
 have hT0 := hT.kept hk0 (fun _ h => h.elim)
 have Ap : g < w.heap.size := by obtain ⟨cs, hf⟩ := htr.frame; exact hf.obj.lt
 have c5 : ((w.alloc (.cells #[.int .i64 0] 3)).alloc (.cells Z 30)).cell? ⟨w.heap.size, 0, none⟩ = some (.int .i64 0) := b5.cell_is rfl
 obtain ⟨cs, hf⟩ := Ad.frame
 have Ag := hks.kept hk0 (fun _ _ _ h => h)
 obtain ⟨kb, ko, rfl, hkb, hr⟩ := Ag.at_ hn
 obtain ⟨k0, us, rfl⟩ : ∃ k us, ks = k :: us := by
  match ks, hks.len with
  | [], h => exact absurd h (by simp; omega)
  | k :: us, _ => exact ⟨k, us, rfl⟩
 have hkh := hks.hash k0 (by simp)
 have hrk := hr 0 k0 rfl
 rw [Nat.zero_mul, Nat.add_zero] at hrk
 have Aa := hL k0 (by simp)
 obtain ⟨lv, l, hlk, hfl, Ai⟩ : ∃ v l, look es k0 = some (leafV v l.s) ∧ findT T k0 = some l ∧ RowB S ((w.alloc (.cells #[.int .i64 0] 3)).alloc (.cells Z 30)) v l.v := by
  rcases Ad.leaves.look_ k0 with ⟨_, h⟩ | h
  · rw [h] at Aa; cases Aa
  · exact h
 have hl : l = L k0 := Option.some.inj (hfl.symm.trans Aa)
 have Ah := (find_key hfl).2
 have hsh := htr.short l Ah
 have hls : l.s < 18446744073709551616 := Nat.lt_of_le_of_lt (le_sum Ah) htr.fit
 obtain ⟨ls, Ac⟩ : ∃ x, x = l.s := ⟨_, rfl⟩
 obtain ⟨LN, hLN⟩ : ∃ L, L = ndV (leafNd K s0 l.v l.s) := ⟨_, rfl⟩
 have ln : LN.length = 33 := by rw [hLN]; exact ndV_len (leaf_hash K s0 hT.len _ _)
 obtain ⟨LK, hLK⟩ : ∃ L, L = bcells k0 := ⟨_, rfl⟩
 have lk : LK.length = 32 := by rw [hLK, bcells_length, hkh.1]
 have hzl : ∀ w, (zeroValue 50).run Tryz.prog w = .ok (leafV (.slice none 0 0) 0) w := fun w => by kernel_rfl
 obtain ⟨W0, hW0⟩ : ∃ W, W = (w.alloc (.cells #[.int .i64 0] 3)).alloc (.cells Z 30) := ⟨_, rfl⟩
 rw [← hW0] at b5 b6 hk0 Ad hT0 c5 Ag hkb hr hrk Ai hf
 have Ae : ∀ v, Below W0.heap.size W0.drew v → Calls Tryz.prog 48 #[.agg #[lv, .int .u64 (ls : Int)]] v fun e v' => e = .returned (.agg LN.toArray) ∧ Below W0.heap.size W0.drew v' := fun v hv => by
  have hv' : Below W0.heap.size W0 v := below_undrew hv
  have hb := (Ai.kept (Kept.of_below (S := fun _ => False) hv') (fun _ _ _ h => h)).bytes (g := v.heap.size) (Nat.le_refl _)
  have := leafNode_is K s0 v lv l.v ls (hT0.kept (Kept.of_below (S := fun _ => False) hv') (fun _ h => h.elim)) hb (by omega) (by rw [Ac]; exact hls)
  refine this.mono fun e v' h => ⟨?_, hv.trans (h.2.mono hv.size)⟩
  rw [h.1, hLN, Ac]; rfl
 have Al : ∀ v, Below W0.heap.size W0 v → v.cell? ⟨g, 8484, none⟩ = some (.map (some m)) := fun v hv => (hf.obj.below hv hf.obj.lt).cell_is hf.lv
 have Af : ∀ v, Below W0.heap.size W0 v → (Instr.lookup 149 (.map (some m)) (.agg LK.toArray) false).run Tryz.prog v = .ok (.agg #[lv, .int .u64 (ls : Int)]) v := fun v hv => by
  have := lookup_is (T := 149) Tryz.underlying149 hzl (Ad.map.kept (Kept.of_below (S := fun _ => False) hv) (fun h => h)) hkh
  rw [hlk] at this
  rw [hLK, Ac]
  exact this
 obtain ⟨B6, hB6⟩ : ∃ B, B = w.heap.size + 1 := ⟨_, rfl⟩
 rw [← hB6] at b6
 have hS : ∀ v, Below W0.heap.size W0 v → (v.cell? ⟨g, 8484, none⟩ = some (.map (some m)) ∧ v.rangeAt kb ko LK ∧ (Instr.lookup 149 (.map (some m)) (.agg LK.toArray) false).run Tryz.prog v = .ok (.agg #[lv, .int .u64 (ls : Int)]) v ∧ v.there B6 0 33) := fun v hv =>
  ⟨Al v hv, by rw [hLK]; exact rangeAt_kept hrk (Kept.of_below (S := fun _ => False) hv) (fun h => h), Af v hv, (b6.below hv b6.lt).there 0 33 (by rw [hZs]; decide)⟩
 have Aq : kb < w.heap.size := by
  obtain ⟨b', o', e1, h1, _⟩ := hks.at_ hn
  injection e1 with e1
  injection e1 with e1 e2
  rw [e1]; exact h1
 have Am : kb ≠ B6 := by omega
 have Ab : ∀ v, Below W0.heap.size W0 v → (((v.setCells B6 0 LN.toArray.toList).cell? ⟨g, 8484, none⟩ = some (.map (some m)) ∧ (v.setCells B6 0 LN.toArray.toList).rangeAt kb ko LK ∧ (Instr.lookup 149 (.map (some m)) (.agg LK.toArray) false).run Tryz.prog (v.setCells B6 0 LN.toArray.toList) = .ok (.agg #[lv, .int .u64 (ls : Int)]) (v.setCells B6 0 LN.toArray.toList) ∧ (v.setCells B6 0 LN.toArray.toList).there B6 0 33) ∧
    Has (v.setCells B6 0 LN.toArray.toList) B6 30 LN.toArray ∧ TreeAt K s0 S (v.setCells B6 0 LN.toArray.toList) g m es T ∧ Kept (· = g) w (v.setCells B6 0 LN.toArray.toList)) := fun v hv => by
  obtain ⟨p1, p2⟩ := row_set (L := LN) (b6.below hv b6.lt) (by rw [hZs, ln])
  have hk : Kept (· = B6) W0 (v.setCells B6 0 LN) := (Kept.of_below hv).trans p2
  have hgB : g ≠ B6 := by omega
  have hmB : m < w.heap.size := htr.map.lt
  have hkw : Kept (fun _ => False) w (v.setCells B6 0 LN) := (hk0.step hk (fun k e => by have e' : k = B6 := e; omega))
  have hmm := htr.map.kept hkw (fun h => h)
  refine ⟨⟨?_, ?_, ?_, ?_⟩, p1, htr.kept hkw (fun _ _ _ h => h), hkw.mono (fun _ _ h => h.elim)⟩
  · exact (hf.obj.kept hk hgB).cell_is hf.lv
  · rw [hLK]; exact rangeAt_kept hrk hk Am
  · have := lookup_is (T := 149) Tryz.underlying149 hzl hmm hkh
    rw [hlk] at this
    rw [hLK, Ac]
    exact this
  · exact p1.there 0 33 (by rw [List.size_toArray, ln]; decide)
 have Ar := Hh (show (Tryz.prog.info? 30).map (·.size) = some LN.toArray.size by rw [List.size_toArray, ln]; kernel_rfl)
 have Ao := Hh (show LN.toArray.all (·.oneCell') = true by rw [hLN]; exact ndV_one _)
 have Aw := Hh (show LN.toArray.size = 33 by rw [List.size_toArray, ln])
 have Ax := Hh (show (Tryz.prog.info? 27).map (·.size) = some LK.length by rw [lk]; kernel_rfl)
 have hS4 := hS W0.drew (Below.refl _ _).drew
 have HL := Hh Ae
 have HS := Hh hS
 have HF := Hh Ab
 have As := Hh (show partNd K s0 0 (L k0 :: us.map L) = leafNd K s0 l.v l.s by rw [hl]; rfl)
 have Au := Hh hLN
 have hn1 : ¬ ((n : Int) = 0) := by omega
 have hn2 : (0 : Int) < (n : Int) := by omega
 clear hT htr Ad hks Ag hkb hr hrk hlk hfl Ai hl Ah hsh hls Ac hLN ln hLK lk hzl hf hT0 hk0 b5 b6 Ae Al Af hS Am Aq Ab s1 hZs Ap Aa hkh hL hfk hlow
 unfold PartP
 go_enter Tryz.func75, Tryz.ntmps75
 go_upto_region 1 with (fail)
 rw [← hW0, ← hB6]
 clear hW0 hB6
 go_upto_region 4 with (fail)
 refine wp_region_noPanic ?_
 refine wp_region_held_drew (S := fun w' => w'.cell? ⟨g, 8484, none⟩ = some (.map (some m)) ∧ w'.rangeAt kb ko LK ∧ (Instr.lookup 149 (.map (some m)) (.agg LK.toArray) false).run Tryz.prog w' = .ok (.agg #[lv, .int .u64 (ls : Int)]) w' ∧ w'.there B6 0 33) (by kernel_rfl) hS4 (fun hH0 => ?_)
 refine tl 0 (v := (.pointer (some ⟨g, 0, none⟩))) rfl (by intro w' hS; obtain ⟨e0, e1, e2, e3⟩ := hS; go_simp) hH0 ?_
 simp only [qc]
 refine tl 1 (v := (.pointer (some ⟨g, 0, none⟩))) rfl (by intro w' hS; obtain ⟨e0, e1, e2, e3⟩ := hS; go_simp) hH0 ?_
 simp only [qc]
 refine tl 2 (v := (.pointer (some ⟨g, 8484, none⟩))) rfl (by intro w' hS; obtain ⟨e0, e1, e2, e3⟩ := hS; go_simp) hH0 ?_
 simp only [qc]
 refine tl 3 (v := (.map (some m))) rfl (by intro w' hS; obtain ⟨e0, e1, e2, e3⟩ := hS; go_simp) hH0 ?_
 simp only [qc]
 refine tl 4 (v := (.slice (some ⟨kb, ko, none⟩) n c)) rfl (by intro w' hS; obtain ⟨e0, e1, e2, e3⟩ := hS; go_simp) hH0 ?_
 simp only [qc]
 refine tl 5 (v := (.pointer (some ⟨kb, ko, none⟩))) rfl (by intro w' hS; obtain ⟨e0, e1, e2, e3⟩ := hS; go_simp) hH0 ?_
 simp only [qc]
 refine tk 6 (v := (.agg LK.toArray)) rfl (yieldsIf_load_mid (by kernel_rfl) 27 (.tmp 26) rfl kb ko rfl LK _ (fun w' h => h.2.1) Tryz.underlying27 rfl Ax.o) hH0 ?_
 simp only [qc]
 refine tl 7 (v := (.agg #[lv, .int .u64 (ls : Int)])) rfl (by intro w' hS; obtain ⟨e0, e1, e2, e3⟩ := hS; go_simp) hH0 ?_
 simp only [qc]
 refine rdy [8] (ar1 rfl fun K hK => ?_)
 go_simp
 refine (HL.o _ (Below.refl _ _)).mono ?_
 rintro _ v1 ⟨rfl, hb1⟩
 have hs1 := HS.o v1 (below_undrew hb1)
 obtain ⟨hs2, An, Ab⟩ := HF.o v1 (below_undrew hb1)
 have Ak := Hh An
 have Aj := Hh Ab
 have Av := Hh hs1.2.2.2
 clear hb1 An Ab
 refine hK _ _ hs1 fun hH1 => ?_
 clear hK K
 try simp only [qc]
 refine rdy [9] (ar1 rfl fun K hK => ?_)
 refine step_store_mid rfl 30 (.tmp 6) (.tmp 29) rfl B6 0 LN.toArray rfl rfl (by rw [Aw.o]; exact Av.o) Ar.o Ao.o ?_
 refine hK _ _ hs2 fun hH2 => ?_
 clear hK K
 try simp only [qc]
 refine wpAnyH_done (by kernel_rfl) ?_ _
 refine NoPanic.normal ?_
 generalize v1.setCells B6 0 LN.toArray.toList = WF at Ak Aj ⊢
 go_wp2
 refine bodyPost_ret (results_cell_row rfl _ _ B6 30 LN.toArray (0, 0) _ rfl Ak.o Tryz.underlying30 rfl Ar.o) rfl ?_
 exact ⟨by rw [As.o, ← Au.o], Aj.o⟩

def Gd (K s0 : List Wd) (S : Nat → Prop) (g m : Nat) (es : List Ent) (T : List Lf) (W0 v : World) : Prop := TreeAt K s0 S v g m es T ∧ Kept (· = g) W0 v
set_option maxRecDepth 100000 in
set_option maxHeartbeats 16000000 in
theorem part_two (h : Nat) (hh : h < 256) (L : List Nat → Lf) (hLk : ∀ k, (∃ l, findT T k = some l) → findT T k = some (L k))
   (IH : ∀ (w : World), Tabs K s0 w → TreeAt K s0 S w g m es T → ∀ (a : Option Addr) (n c : Nat) (ks : List (List Nat)), KeysAt w a n ks → n ≤ c → n ≤ 256 → FarK a g → Sorted ks → Coh ks h → (∀ k ∈ ks, ∃ l, findT T k = some l) →
     Calls Tryz.prog 75 #[.pointer (some ⟨g, 0, none⟩), .slice a n c, .int .i64 (h : Int)] w (PartP K s0 S w g m es T (partNd K s0 h (ks.map L))))
   (w : World) (hT : Tabs K s0 w) (htr : TreeAt K s0 S w g m es T) (a : Option Addr) (n c : Nat) (hn : 0 < n) (ks : List (List Nat)) (hks : KeysAt w a n ks) (hnc : n ≤ c) (hn256 : n ≤ 256) (hfk : FarK a g) (hso : Sorted ks) (hco : Coh ks (h + 1)) (hin : ∀ k ∈ ks, ∃ l, findT T k = some l) :
   Calls Tryz.prog 75 #[.pointer (some ⟨g, 0, none⟩), .slice a n c, .int .i64 ((h : Int) + 1)] w (PartP K s0 S w g m es T (partNd K s0 (h + 1) (ks.map L))) := by
 obtain ⟨Z, hz, hZs, hZn, -⟩ := zero_node
 have s1 : ∀ (x : World) o, (x.alloc o).heap.size = x.heap.size + 1 := fun x o => by simp
 have b5 := (Has.new w 3 #[.int .i64 ((h : Int) + 1)]).alloc (.cells Z 30)
 have b6 := Has.new (w.alloc (.cells #[.int .i64 ((h : Int) + 1)] 3)) 30 Z
 rw [s1] at b6
 have hk0 : Kept (fun _ => False) w ((w.alloc (.cells #[.int .i64 ((h : Int) + 1)] 3)).alloc (.cells Z 30)) := ((Kept.refl _ _).alloc _).alloc _
 have Aq := htr.kept (S := S) hk0 (fun _ _ _ h => h)
 have hT0 := hT.kept hk0 (fun _ h => h.elim)
 have A0 : g < w.heap.size := by obtain ⟨cs, hf⟩ := htr.frame; exact hf.obj.lt
 have c5 : ((w.alloc (.cells #[.int .i64 ((h : Int) + 1)] 3)).alloc (.cells Z 30)).cell? ⟨w.heap.size, 0, none⟩ = some (.int .i64 ((h : Int) + 1)) := b5.cell_is rfl
 have As := Hh hZs
 have A6 : Keyed ks := ⟨hks.hash, hso.nodup⟩
 have hLkey : ∀ k ∈ ks, (L k).k = k := fun k hk => (find_key (hLk k (hin k hk))).1
 obtain ⟨W0, hW0⟩ : ∃ W, W = (w.alloc (.cells #[.int .i64 ((h : Int) + 1)] 3)).alloc (.cells Z 30) := ⟨_, rfl⟩
 rw [← hW0] at b5 b6 hk0 Aq hT0 c5
 have Ap : KeysAt W0 a n ks := hks.kept hk0 (fun _ _ _ h => h)
 have Az : Gd K s0 S g m es T W0 W0 := ⟨Aq, Kept.refl _ _⟩
 have hbs := bsearch_is 103 (.pointer (some ⟨w.heap.size, 0, none⟩)) W0 h a n c ks (by omega) Ap enters_turn
   (fun W k hW hk => turn_part W k hk w.heap.size h hh (cell_held (Kept.of_below (S := fun _ => False) hW) c5 (fun h => h)))
   (fun i j x y hi hj hij => sorted_mono hso hks.hash hh hco hi hj hij)
 have hgw : g < W0.heap.size := by have := hk0.size; omega
 have Ax : ∀ v, Gd K s0 S g m es T W0 v → Tabs K s0 v ∧ KeysAt v a n ks ∧ v.cell? ⟨w.heap.size, 0, none⟩ = some (.int .i64 ((h : Int) + 1)) ∧ Has v (w.heap.size + 1) 30 Z := fun v hv =>
   ⟨hT0.kept hv.2 (fun k e => by have e' : k = g := e; omega), Ap.kept hv.2 (fun b o e e' => hfk _ e e'), cell_held hv.2 c5 (by show ¬ w.heap.size = g; omega), b6.kept hv.2 (by omega)⟩
 have Bq := Hh hbs
 have Ad := Hh Ax
 have Ah := Hh Az
 have Bs := Hh htr
 have Aw := Hh hk0
 have Ai := Hh (And.intro A0 hgw)
 have Bi := Hh hks
 have Aj := Hh A6
 have Ar := Hh hso
 have Au := Hh hco
 have Ba := Hh hin
 have Bb := Hh hLkey
 have Bg := Hh hfk
 have Bh := Hh IH
 have Ag := Hh hT.len
 have Av := Hh htr.fit
 have Bu := Hh hLk
 have Bv := Hh htr.keyed
 have hn1 : ¬ ((n : Int) = 0) := by omega
 have hn2 : (0 : Int) < (n : Int) := by omega
 have hh1 : ¬ ((h : Int) + 1 = 0) := by omega
 have hmf : ∀ (fn : Fn) (first cap : Array Value) (w : World), (Instr.makeFunc fn first cap).run Tryz.prog w = .ok (.func fn first cap) w := fun _ _ _ _ => rfl
 clear hbs Ax Az hT htr Aq hks Ap A6 hso hco hin hLkey hfk IH hT0 hk0 b5 b6 s1 hZs A0 hgw hLk hlow
 unfold PartP
 go_enter Tryz.func75, Tryz.ntmps75
 go_upto_region 1 with (fail)
 rw [← hW0]
 clear hW0
 go_wp2_with fail
 refine Bq.o.mono ?_
 rintro _ w1 ⟨p, pb, rfl, hpn, hp0, hp1, hb1⟩
 obtain ⟨e0, e1⟩ := split_at hp0 hp1
 have hgd : Gd K s0 S g m es T W0 w1.drew := ⟨(Ah.o.1.kept (Z := fun _ => False) (Kept.of_below hb1) (fun _ _ _ h => h)).kept (Z := fun _ => False) ((Kept.refl _ _).drew) (fun _ _ _ h => h), ((Kept.of_below hb1).drew)⟩
 obtain ⟨a1, c1, hcut1, A4, hc1, Ak⟩ := (Bi.o).lo c p hnc hpn g Bg.o
 obtain ⟨a2, c2, hcut2, A5, hc2, Al⟩ := (Bi.o).hi c p hnc hpn g Bg.o
 have m1 : ∀ k ∈ ks.take p, k ∈ ks := fun k hk => List.mem_of_mem_take hk
 have m2 : ∀ k ∈ ks.drop p, k ∈ ks := fun k hk => List.mem_of_mem_drop hk
 have q1 : ∀ k ∈ ks.take p, bitAt k h = 0 := fun k hk => by rw [← e0] at hk; simpa using (List.mem_filter.1 hk).2
 have q2 : ∀ k ∈ ks.drop p, bitAt k h = 1 := fun k hk => by rw [← e1] at hk; simpa using (List.mem_filter.1 hk).2
 obtain ⟨T1, hT1⟩ : ∃ x, x = partNd K s0 h ((ks.take p).map L) := ⟨_, rfl⟩
 obtain ⟨T2, hT2⟩ : ∃ x, x = partNd K s0 h ((ks.drop p).map L) := ⟨_, rfl⟩
 have eP : partNd K s0 (h + 1) (ks.map L) = brNd K s0 T1 T2 := by
   show brNd K s0 (partNd K s0 h (side (ks.map L) h 0)) (partNd K s0 h (side (ks.map L) h 1)) = _
   rw [side_map Bb.o, side_map Bb.o, e0, e1, hT1, hT2]
 have A7 : T1.s + T2.s < 18446744073709551616 := by
   have k1 : ∀ us : List (List Nat), (∀ k ∈ us, k ∈ ks) → (us.map L).map (·.k) = us := fun us hu => by
     rw [List.map_map]
     conv => rhs; rw [← List.map_id us]
     exact List.map_congr_left fun k hk => Bb.o k (hu k hk)
   have s1 := part_sum K s0 h ((ks.take p).map L) (by rw [k1 _ m1]; exact ⟨fun k hk => Aj.o.hash k (m1 k hk), (Ar.o.take p).nodup⟩) (by rw [k1 _ m1]; exact Au.o.less m1 q1)
   have s2 := part_sum K s0 h ((ks.drop p).map L) (by rw [k1 _ m2]; exact ⟨fun k hk => Aj.o.hash k (m2 k hk), (Ar.o.drop p).nodup⟩) (by rw [k1 _ m2]; exact Au.o.less m2 q2)
   rw [hT1, hT2, s1, s2]
   have := sum_some Bv.o.nodup Bu.o Ar.o.nodup Ba.o
   have e : sumT (ks.map L) = sumT ((ks.take p).map L) + sumT ((ks.drop p).map L) := by
     conv => lhs; rw [← List.take_append_drop p ks, List.map_append]
     unfold sumT
     rw [List.map_append, List.sum_append]
   have := Av.o
   omega
 obtain ⟨L1, hL1⟩ : ∃ x, x = ndV T1 := ⟨_, rfl⟩
 obtain ⟨L2, hL2⟩ : ∃ x, x = ndV T2 := ⟨_, rfl⟩
 obtain ⟨L3, hL3⟩ : ∃ x, x = ndV (brNd K s0 T1 T2) := ⟨_, rfl⟩
 have l3 : L3.length = 33 := by rw [hL3]; exact ndV_len (br_hash K s0 Ag.o _ _)
 have th1 : IsHash T1.h := by rw [hT1]; exact part_hash K s0 Ag.o _ _
 have th2 : IsHash T2.h := by rw [hT2]; exact part_hash K s0 Ag.o _ _
 have Ae : ∀ {v v' : World}, Gd K s0 S g m es T W0 v → TreeAt K s0 S v' g m es T → Kept (· = g) v v' → Gd K s0 S g m es T W0 v' ∧ Kept (· = g) v v' := fun hv h1 h2 => ⟨⟨h1, hv.2.trans h2⟩, h2⟩
 have hc1' : ∀ v, Gd K s0 S g m es T W0 v → Calls Tryz.prog 75 #[.pointer (some ⟨g, 0, none⟩), .slice a1 p c1, .int .i64 (h : Int)] v fun e v' => e = .returned (.agg L1.toArray) ∧ Gd K s0 S g m es T W0 v' ∧ Kept (· = g) v v' := fun v hv => by
   have hkw : Kept (· = g) w v := (Aw.o.mono (fun _ _ h => h.elim)).trans hv.2
   have := Bh.o v (Ad.o v hv).1 hv.1 a1 p c1 (ks.take p) (A4.kept hkw (fun b o e e' => Ak _ e e')) hc1 (by omega) Ak (Ar.o.take p) (Au.o.less m1 q1) (fun k hk => Ba.o k (m1 k hk))
   rw [← hT1] at this
   rw [hL1]
   exact this.mono fun e v' h => ⟨h.1, Ae hv h.2.1 h.2.2⟩
 have hc2' : ∀ v, Gd K s0 S g m es T W0 v → Calls Tryz.prog 75 #[.pointer (some ⟨g, 0, none⟩), .slice a2 (n - p) c2, .int .i64 (h : Int)] v fun e v' => e = .returned (.agg L2.toArray) ∧ Gd K s0 S g m es T W0 v' ∧ Kept (· = g) v v' := fun v hv => by
   have hkw : Kept (· = g) w v := (Aw.o.mono (fun _ _ h => h.elim)).trans hv.2
   have := Bh.o v (Ad.o v hv).1 hv.1 a2 (n - p) c2 (ks.drop p) (A5.kept hkw (fun b o e e' => Al _ e e')) hc2 (by omega) Al (Ar.o.drop p) (Au.o.less m2 q2) (fun k hk => Ba.o k (m2 k hk))
   rw [← hT2] at this
   rw [hL2]
   exact this.mono fun e v' h => ⟨h.1, Ae hv h.2.1 h.2.2⟩
 have hc3' : ∀ v, Gd K s0 S g m es T W0 v → Calls Tryz.prog 52 #[.agg L1.toArray, .agg L2.toArray] v fun e v' => e = .returned (.tuple #[.agg L3.toArray, .int .i64 0]) ∧ Gd K s0 S g m es T W0 v' ∧ Kept (· = g) v v' := fun v hv => by
   have := branch_fits K s0 v T1.h T2.h T1.s T2.s (Ad.o v hv).1 th1 th2 A7
   rw [hL1, hL2, hL3]
   refine this.mono fun e v' h => ⟨h.1, ?_⟩
   have hk : Kept (fun _ => False) v v' := Kept.of_below h.2
   exact Ae hv (hv.1.kept hk (fun _ _ _ h => h)) (hk.mono (fun _ _ h => h.elim))
 have hal : ∀ v, Gd K s0 S g m es T W0 v → Gd K s0 S g m es T W0 (v.alloc (.cells Z 30)) := fun v hv => ⟨hv.1.kept (Z := fun _ => False) ((Kept.refl _ _).alloc _) (fun _ _ _ h => h), hv.2.alloc _⟩
 have Ay : ∀ v B, Gd K s0 S g m es T W0 v → Has v B 30 Z → W0.heap.size ≤ B →
     (v.setCells B 0 L3.toArray.toList).cell? ⟨w.heap.size, 0, none⟩ = some (.int .i64 ((h : Int) + 1)) ∧ Has (v.setCells B 0 L3.toArray.toList) B 30 L3.toArray ∧ Has (v.setCells B 0 L3.toArray.toList) (w.heap.size + 1) 30 Z ∧
     Has ((v.setCells B 0 L3.toArray.toList).setRow (w.heap.size + 1) L3.toArray) (w.heap.size + 1) 30 L3.toArray ∧
     (TreeAt K s0 S ((v.setCells B 0 L3.toArray.toList).setRow (w.heap.size + 1) L3.toArray) g m es T ∧ Kept (· = g) w ((v.setCells B 0 L3.toArray.toList).setRow (w.heap.size + 1) L3.toArray)) := fun v B hv hB hle => by
   obtain ⟨p1, p2⟩ := row_set (L := L3) hB (by rw [As.o, l3])
   obtain ⟨f1, f2, f3, f4⟩ := Ad.o v hv
   have hg1 := Ai.o
   have hw0 := Aw.o.size
   have hb6 : w.heap.size + 1 < W0.heap.size := Ad.o W0 Ah.o |>.2.2.2.lt
   have p3 := f4.kept p2 (by omega)
   have p4 : Kept (· = w.heap.size + 1) (v.setCells B 0 L3) ((v.setCells B 0 L3).setRow (w.heap.size + 1) L3.toArray) := kept_setRow (g := w.heap.size + 1) _ L3.toArray
   have hkw : Kept (· = g) w ((v.setCells B 0 L3).setRow (w.heap.size + 1) L3.toArray) := (((Aw.o.mono (fun _ _ h => h.elim)).trans hv.2).step p2 (fun k e => by have e' : k = B := e; omega)).step p4 (fun k e => by have e' : k = w.heap.size + 1 := e; omega)
   refine ⟨cell_held p2 f3 (by show ¬ w.heap.size = B; omega), p1, p3, p3.setRow, ?_, hkw⟩
   obtain ⟨cs, hf⟩ := hv.1.frame
   exact Bs.o.framed hkw (cs := cs) ⟨(hf.obj.kept p2 (by omega)).kept p4 (by omega), hf.size, hf.lock, hf.lv, hf.sm, hf.once⟩
 have hS6 : w1.drew.cell? ⟨w.heap.size, 0, none⟩ = some (.int .i64 ((h : Int) + 1)) := (Ad.o _ hgd).2.2.1
 have HS := Hh (fun v hv => (Ad.o v hv).2.2.1)
 have Br := Hh hc1'
 have Bf := Hh hc2'
 have A9 := Hh hc3'
 have HA := Hh hal
 have Af := Hh Ay
 have GD := Hh hgd
 have A8 := Hh (show L3 = ndV (partNd K s0 (h + 1) (ks.map L)) by rw [hL3, eP])
 have Ac := Hh (show (Tryz.prog.info? 30).map (·.size) = some L3.toArray.size by rw [List.size_toArray, l3]; kernel_rfl)
 have Ab := Hh (show L3.toArray.all (·.oneCell') = true by rw [hL3]; exact ndV_one _)
 have Bd := Hh (show L3.toArray.size = 33 by rw [List.size_toArray, l3])
 have Bc := Hh (show Z.size = L3.toArray.size by rw [As.o, List.size_toArray, l3])
 have hq : wrap64 ((h : Int) + 1 - 1) = (h : Int) := by unfold wrap64; omega
 have hq1 : (h : Int) + 1 - 1 = (h : Int) := by omega
 have hq3 : wrap64 (h : Int) = (h : Int) := by unfold wrap64; omega
 have hq4 : IntKind.i64.wrap (h : Int) = (h : Int) := wrap_small h hh
 clear hpn hp0 hp1 hb1 e0 e1 hgd A4 hc1 Ak A5 hc2 Al m1 m2 q1 q2 hT1 hT2 eP A7 hL1 hL2 hL3 l3 th1 th2 Ae hc1' hc2' hc3' hal Ay Bq Bi Aj Ar Au Ba Bb Bg Bh Ag Av Bs Aw Ah
 go_upto_region 6 with (fail)
 refine wp_region_noPanic ?_
 refine wp_region_held_drew (S := fun w' => w'.cell? ⟨w.heap.size, 0, none⟩ = some (.int .i64 ((h : Int) + 1))) (by kernel_rfl) hS6 (fun hH0 => ?_)
 refine tl 0 (v := (.pointer (some ⟨g, 0, none⟩))) rfl (by intro w' hS; go_simp) hH0 ?_
 simp only [qc]
 refine tl 1 (v := (.slice a n c)) rfl (by intro w' hS; go_simp) hH0 ?_
 simp only [qc]
 refine tl 2 (v := (.int .i64 (p : Int))) rfl (by intro w' hS; go_simp) hH0 ?_
 simp only [qc]
 refine tl 3 (v := (.slice a1 p c1)) rfl (by intro w' hS; go_simp) hH0 ?_
 simp only [qc]
 refine tl 4 (v := (.int .i64 ((h : Int) + 1))) rfl (by intro w' hS; go_simp) hH0 ?_
 simp only [qc]
 refine tl 5 (v := (.int .i64 (h : Int))) rfl (by intro w' hS; go_simp) hH0 ?_
 simp only [qc]
 refine tl 7 (v := (.pointer (some ⟨g, 0, none⟩))) rfl (by intro w' hS; go_simp) hH0 ?_
 simp only [qc]
 refine tl 8 (v := (.slice a n c)) rfl (by intro w' hS; go_simp) hH0 ?_
 simp only [qc]
 refine tl 9 (v := (.int .i64 (p : Int))) rfl (by intro w' hS; go_simp) hH0 ?_
 simp only [qc]
 refine tl 10 (v := (.slice a2 (n - p) c2)) rfl (by intro w' hS; go_simp) hH0 ?_
 simp only [qc]
 refine tl 11 (v := (.int .i64 ((h : Int) + 1))) rfl (by intro w' hS; go_simp) hH0 ?_
 simp only [qc]
 refine tl 12 (v := (.int .i64 (h : Int))) rfl (by intro w' hS; go_simp) hH0 ?_
 simp only [qc]
 refine rdy [6, 18] (AllReadyH.cons rfl (fun K hK => ?_) (ar1 rfl fun K hK => ?_))
 · skip
   go_simp
   refine (Br.o _ GD.o).mono ?_
   rintro _ v1 ⟨rfl, hg1, hk1⟩
   have G1 := Hh hg1
   have hs1 := HS.o v1 hg1
   clear hg1 hk1
   refine hK _ _ hs1 fun hH1 => ?_
   clear hK K
   try simp only [qc]
   refine rdy [13, 18] (AllReadyH.cons rfl (fun K hK => ?_) (ar1 rfl fun K hK => ?_))
   · skip
     go_simp
     refine (Bf.o _ G1.o).mono ?_
     rintro _ v2 ⟨rfl, hg2, hk2⟩
     have G2 := Hh hg2
     have hs2 := HS.o v2 hg2
     clear hg2 hk2
     refine hK _ _ hs2 fun hH2 => ?_
     clear hK K
     try simp only [qc]
     refine rdy [14, 18] (AllReadyH.cons rfl (fun K hK => ?_) (ar1 rfl fun K hK => ?_))
     · skip
       go_simp
       refine (A9.o _ G2.o).mono ?_
       rintro _ v3 ⟨rfl, hg3, hk3⟩
       have G3 := Hh hg3
       have hs3 := HS.o v3 hg3
       clear hg3 hk3
       refine hK _ _ hs3 fun hH3 => ?_
       clear hK K
       try simp only [qc]
       refine tl 15 (v := (.tuple #[.agg L3.toArray, .int .i64 0])) rfl (by intro w' hS; go_simp) hH3 ?_
       simp only [qc]
       refine tl 16 (v := (.agg L3.toArray)) rfl (by intro w' hS; go_simp) hH3 ?_
       simp only [qc]
       refine tl 17 (v := (.int .i64 0)) rfl (by intro w' hS; go_simp) hH3 ?_
       simp only [qc]
       refine rdy [18] (ar1 rfl fun K hK => ?_)
       go_simp
       have G4 := Hh (HA.o _ G3.o)
       have hs4 := HS.o _ G4.o
       have P4 := Hh (Has.new v3 30 Z)
       have Aa := Hh G3.o.2.size
       refine hK _ _ hs4 fun hH4 => ?_
       clear hK K
       try simp only [qc]
       obtain ⟨f1, f2, f3, f4, f5⟩ := Af.o (v3.alloc (.cells Z 30)) (v3.heap.size) G4.o P4.o (by first | exact G4.o.2.size | exact Aa.o)
       have F2 := Hh f2
       have F3 := Hh f3
       have F4 := Hh f4
       have F5 := Hh f5
       clear f2 f3 f4 f5
       refine rdy [19] (ar1 rfl fun K hK => ?_)
       refine step_store_mid rfl 30 (.tmp 9) (.tmp 52) rfl (v3.heap.size) 0 L3.toArray rfl rfl (by rw [Bd.o]; exact P4.o.there 0 33 (by rw [As.o]; decide)) Ac.o Ab.o ?_
       refine hK _ _ f1 fun hHf => ?_
       clear hK K
       try simp only [qc]
       refine tl 20 (v := (.int .i64 0)) rfl (by intro w' hS; go_simp) hHf ?_
       simp only [qc]
       refine wpAnyH_done (by kernel_rfl) ?_ _
       refine NoPanic.normal ?_
       generalize (v3.alloc (.cells Z 30)).setCells (v3.heap.size) 0 L3.toArray.toList = WF at F2 F3 F4 F5 ⊢
       go_wp2_with (first | (refine wpList_load_row rfl 30 (.tmp 9) rfl (v3.heap.size) rfl 30 L3.toArray (0, 0) _ F2.o Tryz.underlying30 rfl Ac.o ?_) | (refine wpList_store_row rfl 30 (.tmp 6) (.tmp 54) rfl (w.heap.size + 1) L3.toArray rfl rfl 30 Z F3.o Ac.o Bc.o Ab.o ?_))
       refine bodyPost_ret (results_cell_row rfl _ _ (w.heap.size + 1) 30 L3.toArray (0, 0) _ rfl F4.o Tryz.underlying30 rfl Ac.o) rfl ?_
       exact ⟨by rw [← A8.o], F5.o⟩
     · skip
       go_simp
       have G5 := Hh (HA.o _ G2.o)
       have hs5 := HS.o _ G5.o
       have P5 := Hh (Has.new v2 30 Z)
       have Aa := Hh G2.o.2.size
       refine hK _ _ hs5 fun hH5 => ?_
       clear hK K
       try simp only [qc]
       refine rdy [14] (ar1 rfl fun K hK => ?_)
       go_simp
       refine (A9.o _ G5.o).mono ?_
       rintro _ v6 ⟨rfl, hg6, hk6⟩
       have G6 := Hh hg6
       have hs6 := HS.o v6 hg6
       have P6 := Hh (P5.o.kept hk6 (by have := Ai.o; have := G5.o.2.size; first | omega | (have := Aa.o; omega)))
       clear hg6 hk6
       refine hK _ _ hs6 fun hH6 => ?_
       clear hK K
       try simp only [qc]
       refine tl 15 (v := (.tuple #[.agg L3.toArray, .int .i64 0])) rfl (by intro w' hS; go_simp) hH6 ?_
       simp only [qc]
       refine tl 16 (v := (.agg L3.toArray)) rfl (by intro w' hS; go_simp) hH6 ?_
       simp only [qc]
       refine tl 17 (v := (.int .i64 0)) rfl (by intro w' hS; go_simp) hH6 ?_
       simp only [qc]
       obtain ⟨f1, f2, f3, f4, f5⟩ := Af.o v6 (v2.heap.size) G6.o P6.o (by first | exact G6.o.2.size | exact Aa.o)
       have F2 := Hh f2
       have F3 := Hh f3
       have F4 := Hh f4
       have F5 := Hh f5
       clear f2 f3 f4 f5
       refine rdy [19] (ar1 rfl fun K hK => ?_)
       refine step_store_mid rfl 30 (.tmp 9) (.tmp 52) rfl (v2.heap.size) 0 L3.toArray rfl rfl (by rw [Bd.o]; exact P6.o.there 0 33 (by rw [As.o]; decide)) Ac.o Ab.o ?_
       refine hK _ _ f1 fun hHf => ?_
       clear hK K
       try simp only [qc]
       refine tl 20 (v := (.int .i64 0)) rfl (by intro w' hS; go_simp) hHf ?_
       simp only [qc]
       refine wpAnyH_done (by kernel_rfl) ?_ _
       refine NoPanic.normal ?_
       generalize v6.setCells (v2.heap.size) 0 L3.toArray.toList = WF at F2 F3 F4 F5 ⊢
       go_wp2_with (first | (refine wpList_load_row rfl 30 (.tmp 9) rfl (v2.heap.size) rfl 30 L3.toArray (0, 0) _ F2.o Tryz.underlying30 rfl Ac.o ?_) | (refine wpList_store_row rfl 30 (.tmp 6) (.tmp 54) rfl (w.heap.size + 1) L3.toArray rfl rfl 30 Z F3.o Ac.o Bc.o Ab.o ?_))
       refine bodyPost_ret (results_cell_row rfl _ _ (w.heap.size + 1) 30 L3.toArray (0, 0) _ rfl F4.o Tryz.underlying30 rfl Ac.o) rfl ?_
       exact ⟨by rw [← A8.o], F5.o⟩
   · skip
     go_simp
     have G7 := Hh (HA.o _ G1.o)
     have hs7 := HS.o _ G7.o
     have P7 := Hh (Has.new v1 30 Z)
     have Aa := Hh G1.o.2.size
     refine hK _ _ hs7 fun hH7 => ?_
     clear hK K
     try simp only [qc]
     refine rdy [13] (ar1 rfl fun K hK => ?_)
     go_simp
     refine (Bf.o _ G7.o).mono ?_
     rintro _ v8 ⟨rfl, hg8, hk8⟩
     have G8 := Hh hg8
     have hs8 := HS.o v8 hg8
     have P8 := Hh (P7.o.kept hk8 (by have := Ai.o; have := G7.o.2.size; first | omega | (have := Aa.o; omega)))
     clear hg8 hk8
     refine hK _ _ hs8 fun hH8 => ?_
     clear hK K
     try simp only [qc]
     refine rdy [14] (ar1 rfl fun K hK => ?_)
     go_simp
     refine (A9.o _ G8.o).mono ?_
     rintro _ v9 ⟨rfl, hg9, hk9⟩
     have G9 := Hh hg9
     have hs9 := HS.o v9 hg9
     have P9 := Hh (P8.o.kept hk9 (by have := Ai.o; have := G8.o.2.size; first | omega | (have := Aa.o; omega)))
     clear hg9 hk9
     refine hK _ _ hs9 fun hH9 => ?_
     clear hK K
     try simp only [qc]
     refine tl 15 (v := (.tuple #[.agg L3.toArray, .int .i64 0])) rfl (by intro w' hS; go_simp) hH9 ?_
     simp only [qc]
     refine tl 16 (v := (.agg L3.toArray)) rfl (by intro w' hS; go_simp) hH9 ?_
     simp only [qc]
     refine tl 17 (v := (.int .i64 0)) rfl (by intro w' hS; go_simp) hH9 ?_
     simp only [qc]
     obtain ⟨f1, f2, f3, f4, f5⟩ := Af.o v9 (v1.heap.size) G9.o P9.o (by first | exact G9.o.2.size | exact Aa.o)
     have F2 := Hh f2
     have F3 := Hh f3
     have F4 := Hh f4
     have F5 := Hh f5
     clear f2 f3 f4 f5
     refine rdy [19] (ar1 rfl fun K hK => ?_)
     refine step_store_mid rfl 30 (.tmp 9) (.tmp 52) rfl (v1.heap.size) 0 L3.toArray rfl rfl (by rw [Bd.o]; exact P9.o.there 0 33 (by rw [As.o]; decide)) Ac.o Ab.o ?_
     refine hK _ _ f1 fun hHf => ?_
     clear hK K
     try simp only [qc]
     refine tl 20 (v := (.int .i64 0)) rfl (by intro w' hS; go_simp) hHf ?_
     simp only [qc]
     refine wpAnyH_done (by kernel_rfl) ?_ _
     refine NoPanic.normal ?_
     generalize v9.setCells (v1.heap.size) 0 L3.toArray.toList = WF at F2 F3 F4 F5 ⊢
     go_wp2_with (first | (refine wpList_load_row rfl 30 (.tmp 9) rfl (v1.heap.size) rfl 30 L3.toArray (0, 0) _ F2.o Tryz.underlying30 rfl Ac.o ?_) | (refine wpList_store_row rfl 30 (.tmp 6) (.tmp 54) rfl (w.heap.size + 1) L3.toArray rfl rfl 30 Z F3.o Ac.o Bc.o Ab.o ?_))
     refine bodyPost_ret (results_cell_row rfl _ _ (w.heap.size + 1) 30 L3.toArray (0, 0) _ rfl F4.o Tryz.underlying30 rfl Ac.o) rfl ?_
     exact ⟨by rw [← A8.o], F5.o⟩
 · skip
   go_simp
   have Be := Hh (HA.o _ GD.o)
   have Bj := HS.o _ Be.o
   have Bw := Hh (Has.new w1.drew 30 Z)
   have Aa := Hh GD.o.2.size
   refine hK _ _ Bj fun hH10 => ?_
   clear hK K
   try simp only [qc]
   refine rdy [6] (ar1 rfl fun K hK => ?_)
   go_simp
   refine (Br.o _ Be.o).mono ?_
   rintro _ v11 ⟨rfl, Am, A1⟩
   have Bn := Hh Am
   have Bk := HS.o v11 Am
   have Bx := Hh (Bw.o.kept A1 (by have := Ai.o; have := Be.o.2.size; first | omega | (have := Aa.o; omega)))
   clear Am A1
   refine hK _ _ Bk fun hH11 => ?_
   clear hK K
   try simp only [qc]
   refine rdy [13] (ar1 rfl fun K hK => ?_)
   go_simp
   refine (Bf.o _ Bn.o).mono ?_
   rintro _ v12 ⟨rfl, An, A2⟩
   have Bo := Hh An
   have Bl := HS.o v12 An
   have By := Hh (Bx.o.kept A2 (by have := Ai.o; have := Bn.o.2.size; first | omega | (have := Aa.o; omega)))
   clear An A2
   refine hK _ _ Bl fun hH12 => ?_
   clear hK K
   try simp only [qc]
   refine rdy [14] (ar1 rfl fun K hK => ?_)
   go_simp
   refine (A9.o _ Bo.o).mono ?_
   rintro _ v13 ⟨rfl, Ao, A3⟩
   have Bp := Hh Ao
   have Bm := HS.o v13 Ao
   have Bt := Hh (By.o.kept A3 (by have := Ai.o; have := Bo.o.2.size; first | omega | (have := Aa.o; omega)))
   clear Ao A3
   refine hK _ _ Bm fun hH13 => ?_
   clear hK K
   try simp only [qc]
   refine tl 15 (v := (.tuple #[.agg L3.toArray, .int .i64 0])) rfl (by intro w' hS; go_simp) hH13 ?_
   simp only [qc]
   refine tl 16 (v := (.agg L3.toArray)) rfl (by intro w' hS; go_simp) hH13 ?_
   simp only [qc]
   refine tl 17 (v := (.int .i64 0)) rfl (by intro w' hS; go_simp) hH13 ?_
   simp only [qc]
   obtain ⟨f1, f2, f3, f4, f5⟩ := Af.o v13 (w1.drew.heap.size) Bp.o Bt.o (by first | exact Bp.o.2.size | exact Aa.o)
   have F2 := Hh f2
   have F3 := Hh f3
   have F4 := Hh f4
   have F5 := Hh f5
   clear f2 f3 f4 f5
   refine rdy [19] (ar1 rfl fun K hK => ?_)
   refine step_store_mid rfl 30 (.tmp 9) (.tmp 52) rfl (w1.drew.heap.size) 0 L3.toArray rfl rfl (by rw [Bd.o]; exact Bt.o.there 0 33 (by rw [As.o]; decide)) Ac.o Ab.o ?_
   refine hK _ _ f1 fun hHf => ?_
   clear hK K
   try simp only [qc]
   refine tl 20 (v := (.int .i64 0)) rfl (by intro w' hS; go_simp) hHf ?_
   simp only [qc]
   refine wpAnyH_done (by kernel_rfl) ?_ _
   refine NoPanic.normal ?_
   generalize v13.setCells (w1.drew.heap.size) 0 L3.toArray.toList = WF at F2 F3 F4 F5 ⊢
   go_wp2_with (first | (refine wpList_load_row rfl 30 (.tmp 9) rfl (w1.drew.heap.size) rfl 30 L3.toArray (0, 0) _ F2.o Tryz.underlying30 rfl Ac.o ?_) | (refine wpList_store_row rfl 30 (.tmp 6) (.tmp 54) rfl (w.heap.size + 1) L3.toArray rfl rfl 30 Z F3.o Ac.o Bc.o Ab.o ?_))
   refine bodyPost_ret (results_cell_row rfl _ _ (w.heap.size + 1) 30 L3.toArray (0, 0) _ rfl F4.o Tryz.underlying30 rfl Ac.o) rfl ?_
   exact ⟨by rw [← A8.o], F5.o⟩

theorem part_is (L : List Nat → Lf) (hLk : ∀ k, (∃ l, findT T k = some l) → findT T k = some (L k)) : ∀ (h : Nat), h ≤ 256 → ∀ (w : World), Tabs K s0 w → TreeAt K s0 S w g m es T → ∀ (a : Option Addr) (n c : Nat) (ks : List (List Nat)), KeysAt w a n ks → n ≤ c → n ≤ 256 → FarK a g → Sorted ks → Coh ks h → (∀ k ∈ ks, ∃ l, findT T k = some l) →
    Calls Tryz.prog 75 #[.pointer (some ⟨g, 0, none⟩), .slice a n c, .int .i64 (h : Int)] w (PartP K s0 S w g m es T (partNd K s0 h (ks.map L))) := by
 have nil : ∀ (w : World) (a : Option Addr) (ks : List (List Nat)), KeysAt w a 0 ks → ks = [] := fun w a ks h => List.eq_nil_of_length_eq_zero h.len
 intro h
 induction h with
 | zero =>
  intro hh w hT htr a n c ks hks hnc hn hfk hso hco hin
  rcases Nat.eq_zero_or_pos n with h0 | h0
  · subst h0
    rw [nil w a ks hks]
    exact part_none K s0 S g m es T hlow w hT htr a c 0 (by decide)
  · exact part_leaf K s0 S g m es T hlow w hT htr a n c h0 ks hks hfk L (fun k hk => hLk k (hin k hk))
 | succ h ih =>
  intro hh w hT htr a n c ks hks hnc hn hfk hso hco hin
  rcases Nat.eq_zero_or_pos n with h0 | h0
  · subst h0
    rw [nil w a ks hks]
    exact part_none K s0 S g m es T hlow w hT htr a c (h + 1) hh
  · exact part_two K s0 S g m es T hlow h (by omega) L hLk (ih (by omega)) w hT htr a n c h0 ks hks hnc hn hfk hso hco hin
end
end
/- The walk of Keys. -/

structure KeysOf (l : List Ent) (ys : List HK) : Prop where
 rise : RisingK ys
 mem : ∀ k, k ∈ ys.map (·.k) ↔ k ∈ l.map (·.1)
theorem zero_key : ∃ Z : Array Value, (∀ w, (zeroValue 27).run Tryz.prog w = .ok (.agg Z) w) ∧ Z.size = 32 ∧ ¬ Z = #[] := by
 have hs : (bcells (List.replicate 32 0)).toArray.size = 32 := by kernel_rfl
 exact ⟨_, fun w => by kernel_rfl, hs, fun e => by rw [e] at hs; cases hs⟩
theorem info_key : (Tryz.prog.info? 27).map (fun i => (i.zero, i.size, i.bytes)) = some (some (.agg (bcells (List.replicate 32 0)).toArray), 32, 32) := by kernel_rfl
theorem Iter.mem {w : World} {b r : Nat} {l : List Ent} {done : List (List Nat)} (h : Iter w b r l done) : ∀ k ∈ done, k ∈ l.map (·.1) := by
 obtain ⟨_, _, _, _, _, _, _, _, _, _, _, _, _, _, h⟩ := h
 exact h
def GathK (w : World) (m r : Nat) (l : List Ent) (done : List (List Nat)) (xs : List HK) (ov : Value) (wr : World) : Prop :=
 Iter wr m r l done ∧ xs.map (·.k) = done ∧ (∃ oa on oc, ov = .slice oa on oc) ∧ wr.ownsRow (r + 1) 27 32 ov xs.length (xs.flatMap HK.enc) ∧ Kept (fun k => w.heap.size ≤ k) w wr ∧ r < wr.heap.size

set_option maxRecDepth 100000 in
set_option maxHeartbeats 4000000 in
theorem keys_is (w : World) (g m : Nat) (l : List Ent) (hc : w.cell? ⟨g, 8484, none⟩ = some (.map (some m))) (hm : MapIs w m l) (hlen : l.length ≤ 1000) :
  Calls Tryz.prog 76 #[.pointer (some ⟨g, 0, none⟩)] w fun e w' => ∃ v' ys, e = .returned v' ∧ KeysOf l ys ∧ w'.ownsRow w.heap.size 27 32 v' ys.length (ys.flatMap HK.enc) ∧ Below w.heap.size w w' := by
 have A1 := hm.lt
 obtain ⟨w0, Af, hit, hk0, A3⟩ := range_is (T := 149) Tryz.underlying149 hm
 have A6 := Hh hlen
 have Bj := Hh hit
 have Bp := Hh hk0
 have Bk := Hh A3
 have A8 := Hh A1
 have hu30 := Tryz.underlying27
 clear hm hit hk0 A3 hlen A1
 go_enter Tryz.func76, Tryz.ntmps76
 go_wp2_with fail
 generalize hr : w.heap.size = r at Af Bj Bk A8 ⊢
 have HR := Hh hr
 clear hr
 go_loopw [3] (fun ov wr => ∃ done xs, GathK w m r l done xs ov wr) (fun _ wr => wr.rangeLeft m r)
 case atStart => exact ⟨[], [], Bj.o, rfl, ⟨_, _, _, rfl⟩, World.ownsRow_nil _ _ _ _, Bp.o.mono (fun _ _ h => h.elim), by rw [Bk.o]; omega⟩
 case round =>
  obtain ⟨done, xs, hit, hxs, ⟨oa, on, oc, rfl⟩, Ab, hkw, hr⟩ := hrel
  have hdl : xs.length ≤ 1000000 := by
    have h1 := hit.size
    have h2 : xs.length = done.length := by rw [← hxs]; simp
    have h3 := A6.o
    omega
  rcases next_is hit 0 with ⟨hd, hnx⟩ | ⟨key, vv, w2, hmem, hnd, hkh, hnx, hit1, hk1, hsz1, hlt1, hen⟩
  · have hxd : (xs.map (·.k)).Nodup := by rw [hxs]; exact hit.nodup.1
    have Aj : Below w.heap.size w wr := hkw.below (Nat.le_refl _) (fun k e => e)
    have Al : ∀ ys : List HK, ys.Perm xs → RisingK ys → KeysOf l ys := fun ys hp hr => ⟨hr, fun k => ⟨fun hk => by
      have h1 : k ∈ xs.map (·.k) := (hp.map (·.k)).mem_iff.1 hk
      rw [hxs] at h1
      exact hit.mem k h1, fun hk => by
      obtain ⟨p, hp1, rfl⟩ := List.mem_map.1 hk
      have h1 := hd p hp1
      rw [← hxs] at h1
      exact (hp.map (·.k)).mem_iff.2 h1⟩⟩
    have Aq := Hh Al
    have Ai := Hh Aj
    have hrw : w.heap.size ≤ r := by rw [HR.o]; exact Nat.le_refl _
    rcases Ab.2 with ⟨e, h0⟩ | ⟨gs, cap, cur, e, hbase, hh, h1, h2, h3, h4⟩
    · injection e with e1 e2 e3
      subst e1 e2 e3
      have Bg : xs = [] := List.eq_nil_of_length_eq_zero h0
      subst Bg
      have Aa := AnyF.slices_SortFunc_none (P := Tryz.prog) sortHash none 0 (.func (.func 104) #[] #[]) wr
      change Calls Tryz.prog 60 _ _ _ at Aa
      have Ac := Hh Aa
      clear Aa Ab hit hxs hkw hr hdl hd hxd Aj Al hrw h0 Af
      go_wp2_with fail
      refine Ac.o.mono ?_
      rintro _ W7 ⟨rfl, e8⟩
      have e9 := e8.symm
      subst e9
      clear e8
      go_wp2
      go_ret
      exact ⟨_, [], rfl, Aq.o [] (List.Perm.refl _) List.Pairwise.nil, World.ownsRow_nil _ _ _ _, Ai.o⟩
    · injection e with e1 e2 e3
      subst e1 e2 e3
      have Aa := sort_keys wr w.heap.size gs xs.length oc cur xs rfl (by omega) hh h1 h2 h3 h4 hxd hdl
      have Ac := Hh Aa
      have Bo := Hh (show w.heap.size ≤ gs by omega)
      clear Aa Ab hit hxs hkw hr hd hxd Aj Al hrw Af hbase hh h1 h2 h3 h4
      go_wp2_with fail
      refine Ac.o.mono ?_
      rintro _ W7 ⟨rfl, ys, hp, hri, Ae, hk7⟩
      have hl7 := hp.length_eq
      rw [← hl7] at Ae
      have HE := Hh (And.intro (Aq.o ys hp hri) (And.intro Ae (Ai.o.trans (hk7.below Ai.o.size (fun k e => by rw [e]; exact Bo.o)))))
      have Bq := Hh hl7
      clear hp hri Ae hk7 hl7
      go_wp2
      go_ret
      exact ⟨.slice (some ⟨gs, 0, none⟩) ys.length oc, ys, by rw [Bq.o]; rfl, HE.o⟩
  · obtain ⟨ZH, hzh, Bh, hzhn⟩ := zero_key
    obtain ⟨isum, his, Aw, Ax, Be⟩ := info_parts info_key
    have hnw : ∀ C, Has ((w2.alloc (.cells ZH 27)).setRow w2.heap.size C) w2.heap.size 27 C ∧ Kept (fun _ => False) w2 ((w2.alloc (.cells ZH 27)).setRow w2.heap.size C) := fun C => by
      rw [World.setRow_alloc_new]
      exact ⟨Has.new w2 _ _, (Kept.refl _ _).alloc _⟩
    have hmr : m < r := A8.o
    have Ag : w2.ownsRow (r + 1) 27 32 (.slice oa on oc) xs.length (xs.flatMap HK.enc) := own_kept Ab hk1 (fun k hk e => by
      rcases Ab.2 with ⟨e2, _⟩ | ⟨gs, cap, cur, e2, hbase, _⟩
      · rw [e2] at hk; simp [Value.ownBlock] at hk
      · rw [e2] at hk
        simp [Value.ownBlock] at hk
        omega)
    have Ay : Kept (fun k => w.heap.size ≤ k) w w2 := hkw.step hk1 (fun k e => .inr (by rw [e, HR.o]; exact Nat.le_refl _))
    obtain ⟨X, hX⟩ : ∃ X : HK, X = ⟨key, hkh⟩ := ⟨_, rfl⟩
    obtain ⟨L, hL⟩ : ∃ L, L = bcells key := ⟨_, rfl⟩
    have hLX : L = X.enc := by rw [hL, hX]; rfl
    have hLl : L.length = 32 := by rw [hL, bcells_length, hkh.1]
    have szk : (Tryz.prog.info? 27).map (·.size) = some L.toArray.size := by rw [List.size_toArray, hLl]; kernel_rfl
    have A2 : L.toArray.all (·.oneCell') = true := by rw [hL]; exact all_oneCell_toArray (bcells_oneC key)
    have hzL : ZH.size = L.toArray.size := by rw [Bh, List.size_toArray, hLl]
    unfold arr at hnx hen
    rw [← hL] at hnx hen
    have Bs := Hh hnw
    have Ao := Hh Ag
    have A5 := Hh Ay
    have An := Hh hit1
    have A7 := Hh hlt1
    have Bl := Hh szk
    have Ba := Hh A2
    have Bv := Hh hzL
    have Ar := Hh X.len
    have Bt := Hh X.one
    have Br := Hh hLX
    have Bu := Hh (show xs.map (·.k) ++ [X.k] = done ++ [key] by rw [hxs, hX])
    have Bi := Hh hdl
    have Bb := Hh (show r < w2.heap.size by rw [hsz1]; exact hr)
    clear hnw Ag Ay hit1 hlt1 szk A2 hzL hmem hxs hdl hL hLX hX hLl hk1 hsz1 hit Ab hkw hr Af hnd hkh
    go_upto_region 7 with (refine wpList_store_row rfl 27 (.tmp 4) (.tmp 15) rfl w2.heap.size L.toArray rfl rfl 27 ZH (heap_alloc_new w2 _) Bl.o Bv.o Ba.o ?_)
    obtain ⟨h9, hk9⟩ := Bs.o L.toArray
    generalize (w2.alloc (.cells ZH 27)).setRow w2.heap.size L.toArray = W5 at h9 hk9 ⊢
    have Ak := An.o.kept hk9 (fun h => h) (fun h => h)
    have A0 := An.o.left_kept hk9 (fun h => h) (fun h => h)
    have Ad := own_kept Ao.o hk9 (fun _ _ h => h)
    have Az := A5.o.trans (hk9.mono (fun _ _ h => h.elim))
    have hr5 : r < W5.heap.size := Nat.lt_of_lt_of_le Bb.o hk9.size
    generalize w2.heap.size = G5 at h9 ⊢
    have H9 := Hh h9
    have Ap := Hh Ad
    have Bm := Hh (show r + 1 ≤ (W5.alloc (.cells X.enc.toArray 27)).heap.size by show r + 1 ≤ (W5.heap.push _).size; rw [Array.size_push]; omega)
    have Bc := Hh (show (Value.agg (bcells (List.replicate 32 0)).toArray).cells.size = 32 by kernel_rfl)
    have A9 := Hh (show xs.length + 1 ≤ maxLen by unfold maxLen; have := Bi.o; omega)
    have Bn := Hh (show (xs.length + 1) * 32 ≤ 140737488355328 by have := Bi.o; omega)
    have As : ∀ g6 cap6 w6, w6.ownsRow (r + 1) 27 32 (.slice (some ⟨g6, 0, none⟩) (xs.length + 1) cap6) (xs.length + 1) (xs.flatMap HK.enc ++ X.enc) → (W5.alloc (.cells X.enc.toArray 27)).grownBy w6 (Value.slice oa on oc).ownBlock →
        (∃ done zs, GathK w m r l done zs (.slice (some ⟨g6, 0, none⟩) (xs.length + 1) cap6) w6) ∧ w6.rangeLeft m r < wr.rangeLeft m r := fun g6 cap6 w6 ho6 hg6 => by
      have hob : ∀ k, (Value.slice oa on oc).ownBlock = some k → r + 1 ≤ k := fun k hk => by
        rcases Ad.2 with ⟨e2, _⟩ | ⟨gs, cap, cur, e2, hbase, _⟩
        · rw [e2] at hk; simp [Value.ownBlock] at hk
        · rw [e2] at hk
          simp [Value.ownBlock] at hk
          omega
      have hk6 : Kept (fun k => (Value.slice oa on oc).ownBlock = some k) W5 w6 := ((Kept.refl _ W5).alloc _).grown hg6 (fun k e => .inl e)
      have hmr : m < r := A8.o
      refine ⟨⟨_, xs ++ [X], Ak.kept hk6 (fun e => by have := hob m e; omega) (fun e => by have := hob r e; omega), by rw [List.map_append, List.map_singleton]; exact Bu.o, ⟨_, _, _, rfl⟩, ?_, Az.step hk6 (fun k e => .inl (by have h1 := hob k e; have h2 := HR.o; show w.heap.size ≤ k; omega)), Nat.lt_of_lt_of_le hr5 hk6.size⟩, ?_⟩
      · rw [List.length_append, List.flatMap_append]
        simpa using ho6
      · rw [Ak.left_kept hk6 (fun e => by have := hob m e; omega) (fun e => by have := hob r e; omega), A0]
        exact A7.o
    have A4 := Hh As
    clear h9 hk9 Ak A0 Ad Az hr5 As hen hnx
    go_wp2_with (first
      | (refine wpList_load_row rfl 27 (.tmp 4) rfl G5 rfl 27 L.toArray (0, 0) _ H9.o Tryz.underlying27 rfl Bl.o ?_)
      | (refine wpList_build1 rfl 124 27 (.tmp 17) rfl isum _ Tryz.underlying124 his Aw X.enc (by rw [Ax, Ar.o]) (by rw [Ar.o]; kernel_rfl) (by rw [Ar.o]; decide) (by rw [Ar.o]; decide) (by rw [← Br.o]; rfl) ?_)
      | (at_builtin; refine wpList_append_lies _ rfl (.tmp 16) (.tmp 18) 124 rfl (r + 1) 27 isum _ 32 32 Tryz.underlying124 his Aw Ax Be Bc.o (by decide) _ xs.length _ rfl (Ap.o.alloc _) ⟨W5.heap.size, 0, none⟩ 1 1 X.enc rfl Ar.o (World.news_of_block (cs := X.enc.toArray) (heap_alloc_new W5 _)) Bt.o (by decide) A9.o Bn.o Bm.o _ rfl ?_; intro g6 cap6 w6 Ah Av Bd Bf))
    have Au := A4.o g6 cap6 w6 Ah Av
    have Am := Hh Au
    clear Au Ah Av Bd Bf
    go_wp2
    go_roundw
    case rel =>
      obtain ⟨dn, ys, e⟩ := Am.o.1
      exact ⟨dn, ys, e⟩
    case measure => exact Am.o.2
section

/- What stands for all of a tree: Root. -/

def leafAt (T : List Lf) (k : List Nat) : Lf := (findT T k).getD ⟨k, [], 0⟩
theorem leafAt_some (T : List Lf) : ∀ k, (∃ l, findT T k = some l) → findT T k = some (leafAt T k) := fun k ⟨l, h⟩ => by unfold leafAt; rw [h]; rfl
structure KeysT (T : List Lf) (ks : List (List Nat)) : Prop where
 sorted : Sorted ks
 mem : ∀ k, k ∈ ks ↔ k ∈ T.map (·.k)
theorem KeysT.find {T : List Lf} {ks : List (List Nat)} (h : KeysT T ks) : ∀ k ∈ ks, ∃ l, findT T k = some l := fun k hk => by
 obtain ⟨t, ht, e⟩ := List.mem_map.1 ((h.mem k).1 hk)
 cases hf : findT T k with
 | some l => exact ⟨l, rfl⟩
 | none => exact absurd e (find_none hf t ht)
theorem KeysT.len {T : List Lf} {ks : List (List Nat)} (h : KeysT T ks) : ks.length ≤ T.length := by
 have := len_sub ks (T.map (·.k)) h.sorted.nodup (fun k hk => (h.mem k).1 hk)
 simpa using this
theorem KeysT.perm {T : List Lf} {ks : List (List Nat)} (h : KeysT T ks) (hT : (T.map (·.k)).Nodup) : (ks.map (leafAt T)).Perm T := by
 have hk : ∀ k ∈ ks, (leafAt T k).k = k := fun k hk => (find_key (leafAt_some T k (h.find k hk))).1
 have nd : (ks.map (leafAt T)).Nodup := by
   refine List.pairwise_map.2 (List.Pairwise.imp_of_mem (fun {a b} ha hb hne e => hne ?_) h.sorted.nodup)
   rw [← hk a ha, ← hk b hb, e]
 have nT : T.Nodup := (List.pairwise_map.1 hT).imp fun hne e => hne (by rw [e])
 refine (List.perm_ext_iff_of_nodup nd nT).2 fun t => ⟨fun ht => ?_, fun ht => ?_⟩
 · obtain ⟨k, hk1, rfl⟩ := List.mem_map.1 ht
   exact (find_key (leafAt_some T k (h.find k hk1))).2
 · refine List.mem_map.2 ⟨t.k, (h.mem _).2 (List.mem_map.2 ⟨t, ht, rfl⟩), ?_⟩
   unfold leafAt
   rw [find_mem hT ht]; rfl
theorem KeysT.part {T : List Lf} {ks : List (List Nat)} (h : KeysT T ks) (hT : Keyed (T.map (·.k))) (K s0 : List Wd) : partNd K s0 256 (ks.map (leafAt T)) = partNd K s0 256 T := by
 have hk : (ks.map (leafAt T)).map (·.k) = ks := by
   rw [List.map_map]
   conv => rhs; rw [← List.map_id ks]
   exact List.map_congr_left fun k hk => (find_key (leafAt_some T k (h.find k hk))).1
 refine part_perm K s0 256 _ _ ?_ ?_ (h.perm hT.nodup)
 · rw [hk]
   exact ⟨fun k hk => hT.hash k ((h.mem k).1 hk), h.sorted.nodup⟩
 · rw [hk]; exact coh_top ks
theorem keys_own {w : World} {base : Nat} {v : Value} {ys : List HK} (h : w.ownsRow base 27 32 v ys.length (ys.flatMap HK.enc)) :
   ∃ a c, v = .slice a ys.length c ∧ KeysAt w a ys.length (ys.map (·.k)) ∧ ys.length ≤ c ∧ ∀ A, a = some A → base ≤ A.block := by
 rcases h.2 with ⟨rfl, h0⟩ | ⟨b, cap, cur, rfl, hB, hh, h1, h2, h3, h4⟩
 · have e : ys = [] := List.eq_nil_of_length_eq_zero h0
   subst e
   exact ⟨none, 0, rfl, ⟨rfl, fun k hk => (by cases hk), fun h => absurd h (by simp)⟩, Nat.le_refl _, fun A hA => (by cases hA)⟩
 · refine ⟨_, cap, rfl, ⟨by simp, fun k hk => ?_, fun h0 => ⟨b, 0, rfl, (Array.getElem?_eq_some_iff.1 hh).1, fun i k hi j v hv => ?_⟩⟩, h1, fun A hA => by injection hA with hA; rw [← hA]; exact hB⟩
   · obtain ⟨y, _, rfl⟩ := List.mem_map.1 hk
     exact y.h
   · rw [List.getElem?_map] at hi
     obtain ⟨y, hy, rfl⟩ := Option.map_eq_some_iff.1 hi
     have hj := (List.getElem?_eq_some_iff.1 hv).1
     rw [bcells_length, y.h.1] at hj
     have hil := (List.getElem?_eq_some_iff.1 hy).1
     have hg : Has w b 27 cur := hh
     refine hg.cell_is ?_
     have e := flat_getK HK.enc 32 HK.len ys i j y hy hj
     have hlt : i * 32 + j < ys.length * 32 := by
      have : (i + 1) * 32 ≤ ys.length * 32 := Nat.mul_le_mul_right 32 hil
      omega
     rw [Nat.zero_add, ← Array.getElem?_toList]
     have e2 : cur.toList[i * 32 + j]? = (cur.toList.take (ys.length * 32))[i * 32 + j]? := by rw [List.getElem?_take_of_lt hlt]
     rw [e2, h4, e]
     exact hv

section
variable (K s0 : List Wd) (S : Nat → Prop)
theorem keysT_is {g m : Nat} {es : List Ent} {T : List Lf} (w : World) (htr : TreeAt K s0 S w g m es T) :
  Calls Tryz.prog 76 #[.pointer (some ⟨g, 0, none⟩)] w fun e w' => ∃ a n c ks, e = .returned (.slice a n c) ∧ KeysT T ks ∧ KeysAt w' a n ks ∧ n ≤ c ∧ n ≤ 256 ∧ (∀ A, a = some A → w.heap.size ≤ A.block) ∧ Below w.heap.size w w' := by
 obtain ⟨cs, hf⟩ := htr.frame
 have Aa := htr.leaves.keys
 have hlen : es.length ≤ 256 := by
  have := congrArg List.length Aa
  rw [List.length_map, List.length_map] at this
  have := htr.len
  omega
 refine (keys_is w g m es (hf.obj.cell_is hf.lv) htr.map (by omega)).mono fun e w' ⟨v', ys, he, hk, ho, hb⟩ => ?_
 obtain ⟨a, c, rfl, h1, h2, h3⟩ := keys_own ho
 have hkt : KeysT T (ys.map (·.k)) := ⟨List.pairwise_map.2 hk.rise, fun k => by rw [hk.mem, Aa]⟩
 have hl := hkt.len
 rw [List.length_map] at hl
 exact ⟨a, ys.length, c, _, he, hkt, h1, h2, Nat.le_trans hl htr.len, h3, hb⟩
set_option maxRecDepth 100000 in
set_option maxHeartbeats 2000000 in
theorem root_at {g m : Nat} {es : List Ent} {T : List Lf} (hlow : 2 + 1 ≤ g) (w : World) (hT : Tabs K s0 w) (htr : TreeAt K s0 S w g m es T) :
  Calls Tryz.prog 46 #[.pointer (some ⟨g, 0, none⟩)] w (PartP K s0 S w g m es T (partNd K s0 256 T)) := by
 obtain ⟨Z, hz, hZs, hZn, -⟩ := zero_node
 have b2 := Has.new w 30 Z
 have hk0 : Kept (fun _ => False) w (w.alloc (.cells Z 30)) := (Kept.refl _ _).alloc _
 have Ac := htr.kept hk0 (fun _ _ _ h => h)
 have Ag : g < w.heap.size := by obtain ⟨cs, hf⟩ := htr.frame; exact hf.obj.lt
 have Ab := keysT_is K s0 S _ Ac
 obtain ⟨LN, hLN⟩ : ∃ L, L = ndV (partNd K s0 256 T) := ⟨_, rfl⟩
 have ln : LN.length = 33 := by rw [hLN]; exact ndV_len (part_hash K s0 hT.len 256 T)
 have Ao := Hh (show (Tryz.prog.info? 30).map (·.size) = some LN.toArray.size by rw [List.size_toArray, ln]; kernel_rfl)
 have Av := Hh (show LN.toArray.all (·.oneCell') = true by rw [hLN]; exact ndV_one _)
 have Au := Hh (show Z.size = LN.toArray.size by rw [hZs, List.size_toArray, ln])
 have HT := Hh hT
 have As := Hh htr
 have Ae := Hh Ac
 have Ai := Hh hk0
 have HB := Hh b2
 have An := Hh Ag
 have Aa := Hh Ab
 have Am := Hh hLN
 have Ak := Hh hlow
 unfold PartP
 clear hT htr Ac hk0 b2 Ag Ab hLN ln hlow hZs
 go_enter Tryz.func46, Tryz.ntmps46
 go_upto_region 1 with (fail)
 generalize w.alloc (.cells Z 30) = W0 at Ae Ai HB Aa ⊢
 go_wp2_with fail
 refine Aa.o.mono ?_
 rintro _ w1 ⟨a, n, c, ks, rfl, hkt, hka, hnc, hn, hA, hb1⟩
 have hT1 : Tabs K s0 w1 := (HT.o.kept Ai.o (fun _ h => h.elim)).kept (Kept.of_below (S := fun _ => False) hb1) (fun _ h => h.elim)
 have Ad := Ae.o.kept (Z := fun _ => False) (Kept.of_below hb1) (fun _ _ _ h => h)
 have Af : FarK a g := fun A hA' e => by have h1 := hA A hA'; have h2 := Ai.o.size; have h3 := An.o; omega
 have hp := part_is K s0 S g m es T Ak.o (leafAt T) (leafAt_some T) 256 (by decide) w1 hT1 Ad a n c ks hka hnc hn Af hkt.sorted (coh_top ks) hkt.find
 rw [hkt.part Ad.keyed] at hp
 have hp' : Calls Tryz.prog 75 #[.pointer (some ⟨g, 0, none⟩), .slice a n c, .int .i64 256] w1 (PartP K s0 S w1 g m es T (partNd K s0 256 T)) := hp
 have HP := Hh hp'
 have Ar := Hh (Ai.o.trans (Kept.of_below (S := fun _ => False) hb1))
 have Ap := Hh (HB.o.below hb1 HB.o.lt)
 clear hb1 hT1 Ad Af hp hp' hkt hka hnc hn hA
 go_wp2_with fail
 refine HP.o.mono ?_
 rintro _ w2 ⟨rfl, Ah, hk2⟩
 rw [← Am.o]
 have hgg := An.o
 have hb2 := Ap.o.kept hk2 (by omega)
 have hk3 : Kept (· = w.heap.size) w2 (w2.setRow w.heap.size LN.toArray) := kept_setRow (g := w.heap.size) w2 LN.toArray
 have Al := Hh (show Has (w2.setRow w.heap.size LN.toArray) w.heap.size 30 LN.toArray from hb2.setRow)
 have hkF : Kept (· = g) w (w2.setRow w.heap.size LN.toArray) := ((Ar.o.mono (fun _ _ h => h.elim)).trans hk2).step hk3 (fun k e => by have e' : k = w.heap.size := e; omega)
 obtain ⟨cs2, hf2⟩ := Ah.frame
 have Aj := Hh (And.intro (As.o.framed hkF (cs := cs2) ⟨hf2.obj.kept hk3 (by omega), hf2.size, hf2.lock, hf2.lv, hf2.sm, hf2.once⟩) hkF)
 have Aq := Hh hb2
 clear Ah hk2 hb2 hk3 hkF hf2 hgg
 go_wp2_with (refine wpList_store_row rfl 30 (.tmp 2) (.tmp 9) rfl w.heap.size LN.toArray rfl rfl 30 Z Aq.o Ao.o Au.o Av.o ?_)
 refine bodyPost_ret (results_cell_row rfl _ _ w.heap.size 30 LN.toArray (0, 0) _ rfl Al.o Tryz.underlying30 rfl Ao.o) rfl ?_
 exact ⟨by rw [← Am.o], Aj.o⟩
end
end

/- The walk of None: is a leaf nothing? -/

set_option maxRecDepth 100000 in
theorem none_is (w : World) (a : Option Addr) (n c s : Nat) (hn : n ≤ 9223372036854775807) : Calls Tryz.prog 73 #[.agg #[.slice a n c, .int .u64 (s : Int)]] w fun e w' => e = .returned (.bool (decide (n = 0 ∧ s = 0))) ∧ Below w.heap.size w w' := by
 have Ab := Has.new w 50 #[.slice a n c, .int .u64 (s : Int)]
 have d0 : (w.alloc (.cells #[.slice a n c, .int .u64 (s : Int)] 50)).cell? ⟨w.heap.size, 0, none⟩ = some (.slice a n c) := Ab.cell_is rfl
 have d1 : (w.alloc (.cells #[.slice a n c, .int .u64 (s : Int)] 50)).cell? ⟨w.heap.size, 1, none⟩ = some (.int .u64 (s : Int)) := Ab.cell_is rfl
 have Aa := Hh ((Below.refl w.heap.size w).alloc (Nat.le_refl _) (.cells #[.slice a n c, .int .u64 (s : Int)] 50))
 clear Ab
 by_cases h0 : n = 0
 · subst h0
   by_cases h1 : s = 0
   · subst h1
     go_enter Tryz.func73, Tryz.ntmps73
     go_wp2
     go_ret
     exact ⟨rfl, Aa.o⟩
   · have h2 : ((s : Int) == 0) = false := by simp; omega
     have HD := Hh (show decide ((0 : Nat) = 0 ∧ s = 0) = false by simp [h1])
     go_enter Tryz.func73, Tryz.ntmps73
     go_wp2
     go_ret
     exact ⟨by first | rfl | (rw [HD.o]; rfl), Aa.o⟩
 · have h2 : ((n : Int) == 0) = false := by simp; omega
   have HD := Hh (show decide (n = 0 ∧ s = 0) = false by simp [h0])
   go_enter Tryz.func73, Tryz.ntmps73
   go_wp2
   go_ret
   exact ⟨by first | rfl | (rw [HD.o]; rfl), Aa.o⟩

/- A new tree; None; slices.Clone at bytes; how many stand in a tree. -/

theorem zero_tree : Tryz.zeroCells163.size = 8486 ∧ Tryz.zeroCells163[0]? = some (.int .u32 0) ∧ Tryz.zeroCells163[1]? = some (.int .i32 0) ∧ Tryz.zeroCells163[8485]? = some (.int .u64 0) := ⟨by kernel_rfl, by kernel_rfl, by kernel_rfl, by kernel_rfl⟩
theorem build_tree (b : Nat) (w : World) : (Instr.build 163 #[(2, .map (some b))]).run Tryz.prog w = .ok (.agg (Tryz.zeroCells163.setIfInBounds 8484 (.map (some b)))) w := by kernel_rfl
set_option maxRecDepth 100000 in
set_option maxHeartbeats 1000000 in
theorem newT_is (K s0 : List Wd) (S : Nat → Prop) (w : World) (hn : ∀ k, w.heap.size ≤ k → S k) : Calls Tryz.prog 42 #[] w fun e w' => ∃ g, e = .returned (.pointer (some ⟨g, 0, none⟩)) ∧ Tr K s0 S w' g [] ∧ Below w.heap.size w w' ∧ w.heap.size ≤ g := by
 obtain ⟨z1, z2, z3, z4⟩ := zero_tree
 obtain ⟨C, hC⟩ : ∃ C, C = Tryz.zeroCells163.setIfInBounds 8484 (.map (some w.heap.size)) := ⟨_, rfl⟩
 have hbd : ∀ W, (Instr.build 163 #[(2, .map (some w.heap.size))]).run Tryz.prog W = .ok (.agg C) W := fun W => by rw [hC]; exact build_tree _ W
 have c0 : C.size = 8486 := by rw [hC, Array.size_setIfInBounds, z1]
 have c1 : C[0]? = some (.int .u32 0) := by rw [hC, Array.getElem?_setIfInBounds_ne (by decide)]; exact z2
 have c2 : C[1]? = some (.int .i32 0) := by rw [hC, Array.getElem?_setIfInBounds_ne (by decide)]; exact z3
 have c3 : C[8485]? = some (.int .u64 0) := by rw [hC, Array.getElem?_setIfInBounds_ne (by decide)]; exact z4
 have c4 : C[8484]? = some (.map (some w.heap.size)) := by rw [hC, Array.getElem?_setIfInBounds_self_of_lt (by rw [z1]; decide)]
 have hmp := MapIs.new w
 have hT := Has.new (w.alloc (.map #[] 0)) 163 C
 have hs : (w.alloc (.map #[] 0)).heap.size = w.heap.size + 1 := by simp
 rw [hs] at hT
 have Aa : Below w.heap.size w ((w.alloc (.map #[] 0)).alloc (.cells C 163)) := ((Below.refl _ _).alloc (Nat.le_refl _) _).alloc (by rw [hs]; omega) _
 have htr : TreeAt K s0 S ((w.alloc (.map #[] 0)).alloc (.cells C 163)) (w.heap.size + 1) w.heap.size [] [] :=
  ⟨⟨C, hT, c0, c2, c4, c3, .inl c1⟩, hmp.kept (S := fun _ => False) ((Kept.refl _ _).alloc _) (fun h => h), trivial, ⟨fun k hk => (by cases hk), List.nodup_nil⟩, by decide, by decide, fun t ht => (by cases ht), hn _ (by omega), hn _ (Nat.le_refl _)⟩
 have Ab := Hh (And.intro (show Tr K s0 S ((w.alloc (.map #[] 0)).alloc (.cells C 163)) (w.heap.size + 1) [] from ⟨_, _, htr⟩) Aa)
 have EC := Hh hC
 have hmm := @run_makeMap Tryz.prog
 clear hC hbd c0 c1 c2 c3 c4 hmp hT hs Aa htr z1 z2 z3 z4 hn
 go_enter Tryz.func42, Tryz.ntmps42
 go_wp2
 go_ret
 have hf := Ab.o
 rw [EC.o] at hf
 exact ⟨_, rfl, hf.1, hf.2, by omega⟩
set_option maxRecDepth 100000 in
theorem len_map {w : World} {m : Nat} {l : List Ent} (h : MapIs w m l) (ty : TypeId) : (Builtin.len_ #[149] ty #[.map (some m)]).run Tryz.prog w = .ok (goInt l.length) w := by
 obtain ⟨es, clock, hb, hs, he, hl⟩ := h
 have hl2 : es.size = l.length := by
  have := congrArg List.length he
  rw [List.length_map, List.length_map, Array.length_toList] at this
  exact this
 rw [← hl2]
 exact run_len_map w 149 ty m es clock Tryz.underlying149 hb
set_option maxRecDepth 100000 in
theorem eq_nil_bytes (w : World) (a : Option Addr) (n c : Nat) : (binOp .eql 48 (.slice a n c) (.slice none 0 0)).run Tryz.prog w = .ok (.bool a.isNone) w :=
 Lib.run_eql_slice_nil w 48 5 a n c 0 0 Tryz.underlying48
theorem info_byte : (Tryz.prog.info? 5).map (fun i => (i.zero, i.size, i.bytes)) = some (some (.int .u8 0), 1, 1) := by kernel_rfl
set_option maxRecDepth 100000 in
set_option maxHeartbeats 1000000 in
theorem clone_bytes (w : World) (v : Value) (bs : List Nat) (hn : bs.length ≤ 1000000) (h : Bytes w w.heap.size v bs) :
  Calls Tryz.prog 74 #[v] w fun e w' => ∃ v', e = .returned v' ∧ RowB (fun k => w.heap.size ≤ k) w' v' bs ∧ Below w.heap.size w w' := by
 have hnil := eq_nil_bytes
 obtain ⟨a, c, rfl, hc, hb, hp⟩ := h
 cases a with
 | none =>
  have h0 : bs = [] := by
   refine Classical.byContradiction fun hne => ?_
   obtain ⟨bg, bo, e, _⟩ := hp (List.length_pos_iff.2 hne)
   cases e
  subst h0
  go_enter Tryz.func74, Tryz.ntmps74
  go_wp2
  go_ret
  exact ⟨_, rfl, RowB.nil _ _ _ _, Below.refl _ _⟩
 | some A =>
  obtain ⟨i0, hi, hz0, hz1, hz2⟩ := info_parts info_byte
  obtain ⟨n, hnn⟩ : ∃ n, n = bs.length := ⟨_, rfl⟩
  obtain ⟨L, hL⟩ : ∃ L, L = bcells bs := ⟨_, rfl⟩
  have hfl : L.length = n := by rw [hL, bcells_length, hnn]
  have Aa : ∀ v ∈ L, v.oneCell' = true := by rw [hL]; exact bcells_oneC bs
  have hcl : ∀ j u, L[j]? = some u → (w.alloc (.cells #[] 5)).cell? (A.add j) = some u := fun j u hu => by
   have hj := (List.getElem?_eq_some_iff.1 hu).1
   obtain ⟨bg, bo, e, hne, hcc⟩ := hp (by omega)
   injection e with e
   subst e
   have := hcc j (by omega)
   rw [Addr.add_mid, World.cell?_alloc_lt w _ _ (World.block_lt_of_cell? w _ this), this]
   rw [hL, bcells_get bs j (by omega)] at hu
   exact hu
  have Ae := Hh hcl
  have Ac := Hh Aa
  have Af := Hh hfl
  have HB := Hh (And.intro hb (And.intro hL hnn))
  rw [← hnn] at hn hc ⊢
  clear hcl Aa hfl hb hp hnn hL
  go_enter Tryz.func74, Tryz.ntmps74
  go_wp2_with (at_builtin; refine wpList_append_own _ rfl (.tmp 5) (.tmp 6) 48 rfl w.heap.size 5 i0 _ 1 1 Tryz.underlying48 hi hz0 hz1 hz2 (by kernel_rfl) (by decide) _ 0 [] rfl (World.ownsRow_made w #[] 0 (Nat.le_refl _) (by decide) rfl) A n c L rfl (by rw [Af.o, Nat.mul_one]) Ae.o Ac.o (by unfold maxLen; omega) (by omega) (by simp) ?_)
  intro v' w' Ab hgr _
  have Ad := Hh Ab
  have Ag := Hh hgr
  clear Ab hgr
  go_wp2
  go_ret
  obtain ⟨b1, b2, b3⟩ := HB.o
  have ho := Ad.o
  rw [b2] at ho
  exact ⟨v', rfl, RowB.of_own ho b3.symm b1 (fun k h => h), ((Below.refl _ _).alloc (Nat.le_refl _) _).grown Ag.o (by simp) (fun k hk => by simp [Value.ownBlock] at hk; omega)⟩
end Go.Proofs.YtknfbccbdiidjaaGreatDoor
