/- A tree in memory: its block, its map, the blocks of its leaves' bytes. -/
import Derived.Test.YtknfbccbdiidjaaGreatDoorWu
import Derived.Test.YtknfbccbdiidjaaGreatDoorLFc
import Derived.Test.YtknfbccbdiidjaaGreatDoorLBits
import Derived.Test.YtknfbccbdiidjaaGreatDoorLKeys1
import Derived.Test.YtknfbccbdiidjaaGreatDoorLMem
import Derived.Deep.RegionHeld3
namespace Go.Proofs.YtknfbccbdiidjaaGreatDoor
set_option linter.unusedVariables false
set_option linter.unusedSimpArgs false
open Go.ChangeShapes Go.WideShapes Go.ChangeAt Go.RowKit Go.Maps

def NodeAt (cs : Array Value) (o : Nat) (n : Nd) : Prop := ∀ (j : Nat) v, (ncells n.h n.s)[j]? = some v → cs[o + j]? = some v
structure TFrame (K s0 : List Wd) (w : World) (g m : Nat) (cs : Array Value) (s : Nat) : Prop where
 obj : Has w g 163 cs
 size : cs.size = 8486
 lock : cs[1]? = some (.int .i32 0)
 lv : cs[8484]? = some (.map (some m))
 sm : cs[8485]? = some (.int .u64 (s : Int))
 once : cs[0]? = some (.int .u32 0) ∨ (cs[0]? = some (.int .u32 1) ∧ ∀ h, h ≤ 256 → NodeAt cs (3 + h * 33) (emptyNd K s0 h))
def RowB (S : Nat → Prop) (w : World) (v : Value) (bs : List Nat) : Prop :=
 ∃ a c, v = .slice a bs.length c ∧ bs.length ≤ c ∧ (∀ x ∈ bs, x < 256) ∧
  (0 < bs.length → ∃ bg bo cur, a = some ⟨bg, bo, none⟩ ∧ S bg ∧ Has w bg 5 cur ∧ ∀ i, i < bs.length → cur[bo + i]? = some (.int .u8 (bs.getD i 0 : Nat)))
theorem RowB.kept {S Z : Nat → Prop} {w w' : World} {v : Value} {bs : List Nat} (h : RowB S w v bs) (hk : Kept Z w w') (hz : ∀ k, k < w.heap.size → S k → ¬ Z k) : RowB S w' v bs := by
 obtain ⟨a, c, e, h1, h2, h3⟩ := h
 exact ⟨a, c, e, h1, h2, fun hl => by
  obtain ⟨bg, bo, cur, e2, hs, hh, hc⟩ := h3 hl
  exact ⟨bg, bo, cur, e2, hs, hh.kept hk (hz bg hh.lt hs), hc⟩⟩
theorem RowB.zone {S S' : Nat → Prop} {w : World} {v : Value} {bs : List Nat} (h : RowB S w v bs) (hz : ∀ k, k < w.heap.size → S k → S' k) : RowB S' w v bs := by
 obtain ⟨a, c, e, h1, h2, h3⟩ := h
 exact ⟨a, c, e, h1, h2, fun hl => by
  obtain ⟨bg, bo, cur, e2, hs, hh, hc⟩ := h3 hl
  exact ⟨bg, bo, cur, e2, hz bg hh.lt hs, hh, hc⟩⟩
theorem RowB.bytes {S : Nat → Prop} {w : World} {v : Value} {bs : List Nat} (h : RowB S w v bs) {g : Nat} (hg : w.heap.size ≤ g) : Bytes w g v bs := by
 obtain ⟨a, c, e, h1, h2, h3⟩ := h
 exact ⟨a, c, e, h1, h2, fun hl => by
  obtain ⟨bg, bo, cur, e2, hs, hh, hc⟩ := h3 hl
  exact ⟨bg, bo, e2, by have := hh.lt; omega, fun i hi => hh.cell_is (hc i hi)⟩⟩
theorem RowB.nil (S : Nat → Prop) (w : World) (a : Option Addr) (c : Nat) : RowB S w (.slice a 0 c) [] := ⟨a, c, rfl, Nat.zero_le _, fun x hx => (by cases hx), fun h => absurd h (by simp)⟩
theorem RowB.of_own {S : Nat → Prop} {w : World} {base n : Nat} {v : Value} {bs : List Nat} (h : w.ownsRow base 5 1 v n (bcells bs)) (hn : bs.length = n) (hb : ∀ x ∈ bs, x < 256) (hz : ∀ k, base ≤ k → S k) : RowB S w v bs := by
 rcases Nat.eq_zero_or_pos n with h0 | h0
 · subst h0
   have e : bs = [] := List.eq_nil_of_length_eq_zero hn
   subst e
   rcases h.2 with ⟨rfl, _⟩ | ⟨g, cap, cur, rfl, _⟩
   · exact RowB.nil S w _ _
   · exact RowB.nil S w _ _
 · obtain ⟨g, cap, cur, rfl, hB, hh, h1, h2, h3, h4⟩ := own_open h h0
   refine ⟨some ⟨g, 0, none⟩, cap, by rw [hn], by omega, hb, fun _ => ⟨g, 0, cur, rfl, hz g hB, hh, fun i hi => ?_⟩⟩
   rw [Nat.zero_add]
   rw [h4 i (by omega)]
   exact bcells_get bs i hi
def LeafIs (S : Nat → Prop) (w : World) (e : Ent) (t : Lf) : Prop := e.1 = t.k ∧ ∃ v, e.2 = leafV v t.s ∧ RowB S w v t.v
def Leaves (S : Nat → Prop) (w : World) : List Ent → List Lf → Prop
 | [], [] => True
 | e :: es, t :: T => LeafIs S w e t ∧ Leaves S w es T
 | _, _ => False
section
section
variable {S : Nat → Prop} {w : World}
theorem Leaves.imp {S' : Nat → Prop} {w' : World} (hi : ∀ v bs, RowB S w v bs → RowB S' w' v bs) : ∀ {es : List Ent} {T : List Lf}, Leaves S w es T → Leaves S' w' es T
 | [], [], _ => trivial
 | e :: es, t :: T, h => ⟨⟨h.1.1, by obtain ⟨v, e1, e2⟩ := h.1.2; exact ⟨v, e1, hi _ _ e2⟩⟩, Leaves.imp hi h.2⟩
 | [], _ :: _, h => h.elim
 | _ :: _, [], h => h.elim
theorem Leaves.keys : ∀ {es : List Ent} {T : List Lf}, Leaves S w es T → es.map (·.1) = T.map (·.k)
 | [], [], _ => rfl
 | e :: es, t :: T, h => by rw [List.map_cons, List.map_cons, h.1.1, Leaves.keys h.2]
 | [], _ :: _, h => h.elim
 | _ :: _, [], h => h.elim
theorem Leaves.look_ (k : List Nat) : ∀ {es : List Ent} {T : List Lf}, Leaves S w es T → (look es k = none ∧ findT T k = none) ∨ ∃ v l, look es k = some (leafV v l.s) ∧ findT T k = some l ∧ RowB S w v l.v
 | [], [], _ => .inl ⟨rfl, rfl⟩
 | (k0, x) :: es, t :: T, h => by
  obtain ⟨⟨e1, v, e2, e3⟩, h2⟩ := h
  have e1' : k0 = t.k := e1
  have e2' : x = leafV v t.s := e2
  unfold look findT
  by_cases hk : t.k = k
  · rw [if_pos hk]
    refine .inr ⟨v, t, ?_, rfl, e3⟩
    rw [if_pos (by rw [e1']; exact hk), e2']
  · rw [if_neg hk, if_neg (by rw [e1']; exact hk)]
    exact Leaves.look_ k h2
 | [], _ :: _, h => h.elim
 | _ :: _, [], h => h.elim
theorem Leaves.put {l : Lf} {v : Value} (hl : RowB S w v l.v) : ∀ {es : List Ent} {T : List Lf}, Leaves S w es T → Leaves S w (putL es l.k (leafV v l.s)) (putT T l)
 | [], [], _ => ⟨⟨rfl, v, rfl, hl⟩, trivial⟩
 | (k0, x) :: es, t :: T, h => by
  have e1 : k0 = t.k := h.1.1
  unfold putL putT
  by_cases hk : t.k = l.k
  · rw [if_pos hk, if_pos (by rw [e1]; exact hk)]
    exact ⟨⟨by first | exact hk | exact e1.trans hk | rfl, v, rfl, hl⟩, h.2⟩
  · rw [if_neg hk, if_neg (by rw [e1]; exact hk)]
    exact ⟨h.1, Leaves.put hl h.2⟩
 | [], _ :: _, h => h.elim
 | _ :: _, [], h => h.elim
theorem Leaves.drop (k : List Nat) : ∀ {es : List Ent} {T : List Lf}, Leaves S w es T → Leaves S w (delL es k) (dropT T k)
 | [], [], _ => trivial
 | (k0, x) :: es, t :: T, h => by
  have e1 : k0 = t.k := h.1.1
  unfold delL dropT
  by_cases hk : t.k = k
  · rw [if_pos hk, if_pos (by rw [e1]; exact hk)]
    exact h.2
  · rw [if_neg hk, if_neg (by rw [e1]; exact hk)]
    exact ⟨h.1, Leaves.drop k h.2⟩
 | [], _ :: _, h => h.elim
 | _ :: _, [], h => h.elim
end
structure TreeAt (K s0 : List Wd) (S : Nat → Prop) (w : World) (g m : Nat) (es : List Ent) (T : List Lf) : Prop where
 frame : ∃ cs, TFrame K s0 w g m cs (sumT T)
 map : MapIs w m es
 leaves : Leaves S w es T
 keyed : Keyed (T.map (·.k))
 fit : sumT T < 18446744073709551616
 len : T.length ≤ 256
 short : ∀ t ∈ T, t.v.length ≤ 65536
 zg : S g
 zm : S m
def Tr (K s0 : List Wd) (S : Nat → Prop) (w : World) (g : Nat) (T : List Lf) : Prop := ∃ m es, TreeAt K s0 S w g m es T
section
variable {K s0 : List Wd} {S Z S' : Nat → Prop} {w w' : World} {g m : Nat} {es : List Ent} {T : List Lf}
theorem TreeAt.kept (h : TreeAt K s0 S w g m es T) (hk : Kept Z w w') (hz : ∀ k, k < w.heap.size → S k → ¬ Z k) : TreeAt K s0 S w' g m es T := by
 obtain ⟨cs, hf⟩ := h.frame
 exact ⟨⟨cs, hf.obj.kept hk (hz g hf.obj.lt h.zg), hf.size, hf.lock, hf.lv, hf.sm, hf.once⟩, h.map.kept hk (hz m h.map.lt h.zm), h.leaves.imp fun v bs hr => hr.kept hk hz, h.keyed, h.fit, h.len, h.short, h.zg, h.zm⟩
theorem TreeAt.zone (h : TreeAt K s0 S w g m es T) (hz : ∀ k, k < w.heap.size → S k → S' k) : TreeAt K s0 S' w g m es T := by
 obtain ⟨cs, hf⟩ := h.frame
 exact ⟨h.frame, h.map, h.leaves.imp fun v bs hr => hr.zone hz, h.keyed, h.fit, h.len, h.short, hz g hf.obj.lt h.zg, hz m h.map.lt h.zm⟩
theorem Tr.kept (h : Tr K s0 S w g T) (hk : Kept Z w w') (hz : ∀ k, k < w.heap.size → S k → ¬ Z k) : Tr K s0 S w' g T := by obtain ⟨m, es, h⟩ := h; exact ⟨m, es, h.kept hk hz⟩
theorem Tr.zone (h : Tr K s0 S w g T) (hz : ∀ k, k < w.heap.size → S k → S' k) : Tr K s0 S' w g T := by obtain ⟨m, es, h⟩ := h; exact ⟨m, es, h.zone hz⟩
theorem Tr.quiet (h : Tr K s0 S w g T) (hb : Below w.heap.size w w') : Tr K s0 S w' g T := h.kept (Z := fun _ => False) (Kept.of_below hb) (fun _ _ _ h => h)
theorem Tr.lt (h : Tr K s0 S w g T) : g < w.heap.size := by obtain ⟨m, es, h⟩ := h; obtain ⟨cs, hf⟩ := h.frame; exact hf.obj.lt
theorem Tr.at (h : Tr K s0 S w g T) : S g := by obtain ⟨m, es, h⟩ := h; exact h.zg
theorem TreeAt.framed (h : TreeAt K s0 S w g m es T) (hk : Kept (· = g) w w') {cs : Array Value} (hf : TFrame K s0 w' g m cs (sumT T)) : TreeAt K s0 S w' g m es T := by
 obtain ⟨cs0, hf0⟩ := h.frame
 have hm : m ≠ g := fun e => by
  obtain ⟨es', clock, h1, _⟩ := h.map
  have := hf0.obj
  unfold Has at this
  rw [e, this] at h1
  cases h1
 refine ⟨⟨cs, hf⟩, h.map.kept hk hm, h.leaves.imp fun v bs hr => ?_, h.keyed, h.fit, h.len, h.short, h.zg, h.zm⟩
 obtain ⟨a, c, e, h1, h2, h3⟩ := hr
 exact ⟨a, c, e, h1, h2, fun hl => by
  obtain ⟨bg, bo, cur, e2, hs, hh, hc⟩ := h3 hl
  exact ⟨bg, bo, cur, e2, hs, hh.kept hk (hh.ne hf0.obj (by decide)), hc⟩⟩
end
end

/- The closure that lays a tree's empty parts. -/

def ndV (n : Nd) : List Value := ncells n.h n.s
theorem ndV_len {n : Nd} (h : IsHash n.h) : (ndV n).length = 33 := by simp [ndV, ncells, bcells_length, h.1]
theorem ndV_one (n : Nd) : (ndV n).toArray.all (·.oneCell') = true := all_oneCell_toArray (ncells_one _ _)
def Filled (K s0 : List Wd) (w : World) (g : Nat) (cs : Array Value) (k : Nat) (wr : World) : Prop :=
 ∃ cs', Has wr g 163 cs' ∧ cs'.size = 8486 ∧ (∀ i, i < 3 ∨ 8484 ≤ i → cs'[i]? = cs[i]?) ∧ (∀ h, h ≤ k → NodeAt cs' (3 + h * 33) (emptyNd K s0 h)) ∧ Kept (· = g) w wr
theorem node_set {w : World} {g : Nat} {cs : Array Value} (h : Has w g 163 cs) (hs : cs.size = 8486) (k : Nat) (hk : k ≤ 256) (n : Nd) (hn : IsHash n.h) :
   ∃ cs', Has (w.setCells g (3 + k * 33) (ndV n)) g 163 cs' ∧ cs'.size = 8486 ∧ (∀ i, i < 3 + k * 33 ∨ 3 + (k + 1) * 33 ≤ i → cs'[i]? = cs[i]?) ∧ NodeAt cs' (3 + k * 33) n ∧ Kept (· = g) w (w.setCells g (3 + k * 33) (ndV n)) := by
 obtain ⟨cur, h1, h2, h3, h4⟩ := Has.setCells (ndV n) (3 + k * 33) w cs h
 have hl := ndV_len hn
 refine ⟨cur, h1, by rw [h2, hs], fun i hi => ?_, fun j v hv => ?_, h4⟩
 · by_cases hlt : i < cs.size
   · rw [h3 i hlt, if_neg (by rw [hl]; omega)]
   · rw [Array.getElem?_eq_none (by omega), Array.getElem?_eq_none (by omega)]
 · have hj := (List.getElem?_eq_some_iff.1 hv).1
   change j < (ndV n).length at hj
   rw [hl] at hj
   rw [h3 _ (by rw [hs]; omega), if_pos (by rw [hl]; omega), Nat.add_sub_cancel_left]
   exact hv
theorem nodeAt_range {w : World} {g o : Nat} {t : TypeId} {cs : Array Value} {n : Nd} (h : Has w g t cs) (hn : NodeAt cs o n) : w.rangeAt g o (ndV n) := fun j v hv => h.cell_is (hn j v hv)

set_option maxRecDepth 100000 in
set_option maxHeartbeats 8000000 in
theorem fill_is (K s0 : List Wd) (w : World) (hT : Tabs K s0 w) (g B1 : Nat) (cs : Array Value) (hg : Has w g 163 cs) (hsz : cs.size = 8486) (hb : w.cell? ⟨B1, 0, none⟩ = some (.pointer (some ⟨g, 0, none⟩))) (hne : B1 ≠ g) (hlow : 2 + 1 ≤ g) :
  Calls Tryz.prog 122 #[.pointer (some ⟨B1, 0, none⟩)] w fun e w' => e = .returned (.tuple #[]) ∧ Filled K s0 w g cs 256 w' := by
 have HG := Hh hg
 have A0 := Hh hsz
 have HT := Hh hT
 have Ap := Hh hlow
 have Aa : ∀ v, Kept (· = g) w v → v.cell? ⟨B1, 0, none⟩ = some (.pointer (some ⟨g, 0, none⟩)) := fun v hk => cell_held hk hb hne
 have Ae := Hh Aa
 obtain ⟨L0, hL0⟩ : ∃ L, L = ndV (emptyNd K s0 0) := ⟨_, rfl⟩
 have h0h : IsHash (emptyNd K s0 0).h := empty_hash K s0 hT.len 0
 have Ac : L0.length = 33 := by rw [hL0]; exact ndV_len h0h
 have Ao := Hh (show L0.toArray.size = 33 by rw [List.size_toArray, Ac])
 have A2 := Hh (show (Tryz.prog.info? 30).map (·.size) = some L0.toArray.size by rw [List.size_toArray, Ac]; kernel_rfl)
 have Ar := Hh (show L0.toArray.all (·.oneCell') = true by rw [hL0]; exact ndV_one _)
 have hl : ∀ v, Below w.heap.size w.drew v → Calls Tryz.prog 48 #[.agg #[.slice none 0 0, .int .u64 0]] v fun e v' => e = .returned (.agg L0.toArray) ∧ Below w.heap.size w.drew v' := fun v hv => by
  have hv' : Below w.heap.size w v := below_undrew hv
  have := leafNode_is K s0 v (.slice none 0 0) [] 0 (hT.kept (Kept.of_below (S := fun _ => False) hv') (fun _ h => h.elim)) ((RowB.nil (fun _ => True) v none 0).bytes (Nat.le_refl _)) (by decide) (by decide)
  refine this.mono fun e v' h => ⟨?_, hv.trans (h.2.mono hv.size)⟩
  rw [h.1, hL0]; rfl
 have HL := Hh hl
 have HS := Hh (fun v (h : Below w.heap.size w v) => (And.intro (Aa v (Kept.of_below h)) ((hg.below h hg.lt).there 3 33 (by rw [hsz]; decide)) : v.cell? ⟨B1, 0, none⟩ = some (.pointer (some ⟨g, 0, none⟩)) ∧ v.there g 3 33))
 have hS0 := HS.o w.drew (Below.refl _ _).drew
 have hf1 : ∀ v, Has v g 163 cs → Below w.heap.size w v → ∃ cs1, Has (v.setCells g 3 L0) g 163 cs1 ∧ cs1.size = 8486 ∧ Filled K s0 w g cs 0 (v.setCells g 3 L0) ∧ Kept (· = g) w (v.setCells g 3 L0) := fun v hv hbv => by
  obtain ⟨cs1, p1, p2, p3, p4, p5⟩ := node_set hv hsz 0 (by decide) (emptyNd K s0 0) h0h
  rw [← hL0] at p1 p5
  rw [Nat.zero_mul] at p1 p5
  have hk : Kept (· = g) w (v.setCells g 3 L0) := (Kept.of_below hbv).trans p5
  exact ⟨cs1, p1, p2, ⟨cs1, p1, p2, fun i hi => p3 i (by omega), fun h hh => by
          obtain rfl : h = 0 := by omega
          exact p4, hk⟩, hk⟩
 have Av := Hh hf1
 have hs2 : ∀ v, Below w.heap.size w v → Has v g 163 cs → ((v.setCells g 3 L0.toArray.toList).cell? ⟨B1, 0, none⟩ = some (.pointer (some ⟨g, 0, none⟩)) ∧ (v.setCells g 3 L0.toArray.toList).there g 3 33) := fun v hbv hv => by
  obtain ⟨cs1, p1, p2, p3, p4⟩ := hf1 v hv hbv
  exact ⟨Aa _ p4, p1.there 3 33 (by rw [p2]; decide)⟩
 have Ax := Hh hs2
 clear hg hsz hT hne hlow Aa h0h Ac hl hf1 hs2 hL0
 go_enter Tryz.func122, Tryz.ntmps122
 go_upto_region 0 with (fail)
 refine wp_region_noPanic ?_
 refine wp_region_held_drew (S := fun w' => w'.cell? ⟨B1, 0, none⟩ = some (.pointer (some ⟨g, 0, none⟩)) ∧ w'.there g 3 33) (by kernel_rfl) hS0 (fun hH0 => ?_)
 refine tl 0 (v := (.pointer (some ⟨g, 0, none⟩))) rfl (by intro w' hS; go_simp) hH0 ?_
 simp only [qc]
 refine tl 1 (v := (.agg #[.slice none 0 0, .int .u64 0])) rfl (by intro w' hS; go_simp) hH0 ?_
 simp only [qc]
 refine tl 3 (v := (.pointer (some ⟨g, 0, none⟩))) rfl (by intro w' hS; go_simp) hH0 ?_
 simp only [qc]
 refine tl 4 (v := (.pointer (some ⟨g, 3, none⟩))) rfl (by intro w' hS; go_simp) hH0 ?_
 simp only [qc]
 refine rdy [2] (ar1 rfl fun K hK => ?_)
 go_simp
 refine (HL.o _ (Below.refl _ _)).mono ?_
 rintro _ v1 ⟨rfl, hb1⟩
 have hv1 := HG.o.below (below_undrew hb1) HG.o.lt
 have Ak := Hh hv1
 have hs1 := HS.o v1 (below_undrew hb1)
 obtain ⟨cs1, p1, p2, p3, p4⟩ := Av.o v1 hv1 (below_undrew hb1)
 have HP := Hh (And.intro p1 (And.intro p2 (And.intro p3 p4)))
 have hs2 := Ax.o v1 (below_undrew hb1) hv1
 clear hb1 hv1 p1 p2 p3 p4
 refine hK _ _ hs1 fun hH1 => ?_
 clear hK K
 try simp only [qc]
 refine tl 5 (v := (.pointer (some ⟨g, 3, none⟩))) rfl (by intro w' hS; go_simp) hH1 ?_
 simp only [qc]
 refine rdy [6] (ar1 rfl fun K hK => ?_)
 refine step_store_mid rfl 30 (.tmp 7) (.tmp 4) rfl g 3 L0.toArray rfl rfl (Ak.o.there 3 _ (by rw [Ao.o, A0.o]; decide)) A2.o Ar.o ?_
 refine hK _ _ hs2 fun hH2 => ?_
 clear hK K
 try simp only [qc]
 refine wpAnyH_done (by kernel_rfl) ?_ _
 refine NoPanic.normal ?_
 obtain ⟨-, -, hfl, -⟩ := HP.o
 have An := Hh hfl
 clear hfl HP Ak HL Av Ax HS hH0 hs1 hs2 hH1 hH2 hS0
 generalize v1.setCells g 3 L0.toArray.toList = W1 at An ⊢
 go_wp2_with fail
 go_loopw [8] (fun i wr => ∃ k : Nat, i = .int .i64 (k : Int) ∧ k ≤ 256 ∧ Filled K s0 w g cs k wr) (fun i _ => 256 - (intOf i).toNat)
 case atStart => exact ⟨0, rfl, by decide, An.o⟩
 case round =>
  obtain ⟨k, rfl, hk, Ag⟩ := hrel
  have Ab := Hh Ag
  clear Ag An
  by_cases hlt : k < 256
  · obtain ⟨ck, hc, hcs, hci, hcn, Ad⟩ := Ab.o
    have hTk : Tabs K s0 wr := HT.o.kept Ad (fun k e => by have := Ap.o; omega)
    have hnh := empty_hash K s0 HT.o.len k
    have Ai := empty_hash K s0 HT.o.len (k + 1)
    obtain ⟨LK, hLK⟩ : ∃ L, L = ndV (emptyNd K s0 k) := ⟨_, rfl⟩
    obtain ⟨LN, hLN⟩ : ∃ L, L = ndV (emptyNd K s0 (k + 1)) := ⟨_, rfl⟩
    have lk : LK.length = 33 := by rw [hLK]; exact ndV_len hnh
    have ln : LN.length = 33 := by rw [hLN]; exact ndV_len Ai
    have Ay := Hh (show (Tryz.prog.info? 30).map (·.size) = some LK.length by rw [lk]; kernel_rfl)
    have A3 := Hh (show (Tryz.prog.info? 30).map (·.size) = some LN.toArray.size by rw [List.size_toArray, ln]; kernel_rfl)
    have A1 := Hh (show LN.toArray.size = 33 by rw [List.size_toArray, ln])
    have As := Hh (show LN.toArray.all (·.oneCell') = true by rw [hLN]; exact ndV_one _)
    have hrk : ∀ v, Below wr.heap.size wr v → v.rangeAt g (3 + k * 33) LK := fun v hv => by rw [hLK]; exact nodeAt_range (hc.below hv hc.lt) (hcn k (Nat.le_refl _))
    have hS : ∀ v, Below wr.heap.size wr v → (v.cell? ⟨B1, 0, none⟩ = some (.pointer (some ⟨g, 0, none⟩)) ∧ v.rangeAt g (3 + k * 33) LK) := fun v hv => ⟨Ae.o v (Ad.trans (Kept.of_below hv)), hrk v hv⟩
    have hSK := hS wr.drew (Below.refl _ _).drew
    have hbr : ∀ v, Below wr.heap.size wr.drew v → Calls Tryz.prog 52 #[.agg LK.toArray, .agg LK.toArray] v fun e v' => e = .returned (.tuple #[.agg LN.toArray, .int .i64 0]) ∧ Below wr.heap.size wr.drew v' := fun v hv => by
     have hv' : Below wr.heap.size wr v := below_undrew hv
     have h0 := empty_sum K s0 k
     have := branch_fits K s0 v (emptyNd K s0 k).h (emptyNd K s0 k).h (emptyNd K s0 k).s (emptyNd K s0 k).s (hTk.kept (Kept.of_below (S := fun _ => False) hv') (fun _ h => h.elim)) hnh hnh (by rw [h0]; decide)
     rw [hLK, hLN]
     exact this.mono fun e v' h => ⟨h.1, hv.trans (h.2.mono hv.size)⟩
    have Ah : ∀ v, Has v g 163 ck → Below wr.heap.size wr v → ((v.setCells g (3 + (k + 1) * 33) LN.toArray.toList).cell? ⟨B1, 0, none⟩ = some (.pointer (some ⟨g, 0, none⟩)) ∧ (v.setCells g (3 + (k + 1) * 33) LN.toArray.toList).rangeAt g (3 + k * 33) LK) ∧ Filled K s0 w g cs (k + 1) (v.setCells g (3 + (k + 1) * 33) LN.toArray.toList) := fun v hv hbv => by
     obtain ⟨cs1, p1, p2, p3, p4, p5⟩ := node_set hv hcs (k + 1) (by omega) (emptyNd K s0 (k + 1)) Ai
     rw [← hLN] at p1 p5
     have hkk : Kept (· = g) w (v.setCells g (3 + (k + 1) * 33) LN) := Ad.trans ((Kept.of_below hbv).trans p5)
     have Am : ∀ h, h ≤ k → NodeAt cs1 (3 + h * 33) (emptyNd K s0 h) := fun h hh j u hu => by
       have hj := (List.getElem?_eq_some_iff.1 hu).1
       have Au : (ncells (emptyNd K s0 h).h (emptyNd K s0 h).s).length = 33 := ndV_len (empty_hash K s0 HT.o.len h)
       rw [Au] at hj
       rw [p3 _ (.inl (by have := Nat.mul_le_mul_right 33 hh; omega))]
       exact hcn h hh j u hu
     refine ⟨⟨Ae.o _ hkk, ?_⟩, cs1, p1, p2, fun i hi => ?_, fun h hh => ?_, hkk⟩
     · rw [hLK]; exact nodeAt_range p1 (Am k (Nat.le_refl _))
     · rw [p3 i (by omega)]; exact hci i hi
     · rcases Nat.lt_or_ge k h with e | e
       · obtain rfl : h = k + 1 := by omega
         exact p4
       · exact Am h e
    have HS := Hh hS
    have Az := Hh hbr
    have Af := Hh Ah
    have HC := Hh hc
    have Aq := Hh hcs
    have hi1 : ¬ (257 : Int) ≤ (k : Int) := by omega
    have hi2 : ¬ (257 : Int) ≤ (k : Int) + 1 := by omega
    have hi3 : (0 : Int) ≤ (k : Int) + 1 := by omega
    have hq : wrap64 ((k : Int) + 1) = (k : Int) + 1 := by unfold wrap64; omega
    have hq2 : IntKind.i64.wrap ((k : Int) + 1) = (k : Int) + 1 := by rw [IntKind.wrap_i64]; omega
    clear hc hcs hci hcn Ad hTk hnh Ai hLK hLN lk ln hrk hS hbr Ah Ab
    go_upto_region 4 with (fail)
    refine wp_region_noPanic ?_
    refine wp_region_held_drew (S := fun w' => w'.cell? ⟨B1, 0, none⟩ = some (.pointer (some ⟨g, 0, none⟩)) ∧ w'.rangeAt g (3 + k * 33) LK) (by kernel_rfl) hSK (fun hH0 => ?_)
    refine tl 0 (v := (.pointer (some ⟨g, 0, none⟩))) rfl (by intro w' hS; go_simp) hH0 ?_
    simp only [qc]
    refine tl 1 (v := (.int .i64 (k : Int))) rfl (by intro w' hS; go_simp) hH0 ?_
    simp only [qc]
    refine tl 2 (v := (.int .i64 ((k : Int) + 1))) rfl (by intro w' hS; go_simp) hH0 ?_
    simp only [qc]
    refine tl 3 (v := (.pointer (some ⟨g, 0, none⟩))) rfl (by intro w' hS; go_simp) hH0 ?_
    simp only [qc]
    refine tl 4 (v := (.int .i64 (k : Int))) rfl (by intro w' hS; go_simp) hH0 ?_
    simp only [qc]
    refine tl 5 (v := (.pointer (some ⟨g, 0, none⟩))) rfl (by intro w' hS; go_simp) hH0 ?_
    simp only [qc]
    refine tl 6 (v := (.pointer (some ⟨g, 3, none⟩))) rfl (by intro w' hS; go_simp) hH0 ?_
    simp only [qc]
    refine tl 7 (v := (.pointer (some ⟨g, 3 + k * 33, none⟩))) rfl (by intro w' hS; go_simp) hH0 ?_
    simp only [qc]
    refine tk 8 (v := (.agg LK.toArray)) rfl (yieldsIf_load_mid (by kernel_rfl) 30 (.tmp 19) rfl g (3 + k * 33) rfl LK _ (fun w' h => h.2) Tryz.underlying30 rfl Ay.o) hH0 ?_
    simp only [qc]
    refine tl 9 (v := (.pointer (some ⟨g, 0, none⟩))) rfl (by intro w' hS; go_simp) hH0 ?_
    simp only [qc]
    refine tl 10 (v := (.int .i64 (k : Int))) rfl (by intro w' hS; go_simp) hH0 ?_
    simp only [qc]
    refine tl 11 (v := (.pointer (some ⟨g, 0, none⟩))) rfl (by intro w' hS; go_simp) hH0 ?_
    simp only [qc]
    refine tl 12 (v := (.pointer (some ⟨g, 3, none⟩))) rfl (by intro w' hS; go_simp) hH0 ?_
    simp only [qc]
    refine tl 13 (v := (.pointer (some ⟨g, 3 + k * 33, none⟩))) rfl (by intro w' hS; go_simp) hH0 ?_
    simp only [qc]
    refine tk 14 (v := (.agg LK.toArray)) rfl (yieldsIf_load_mid (by kernel_rfl) 30 (.tmp 25) rfl g (3 + k * 33) rfl LK _ (fun w' h => h.2) Tryz.underlying30 rfl Ay.o) hH0 ?_
    simp only [qc]
    refine tl 19 (v := (.pointer (some ⟨g, 0, none⟩))) rfl (by intro w' hS; go_simp) hH0 ?_
    simp only [qc]
    refine tl 20 (v := (.pointer (some ⟨g, 3, none⟩))) rfl (by intro w' hS; go_simp) hH0 ?_
    simp only [qc]
    refine rdy [15] (ar1 rfl fun K hK => ?_)
    go_simp
    refine (Az.o _ (Below.refl _ _)).mono ?_
    rintro _ v1 ⟨rfl, hb1⟩
    have hv1 := HC.o.below (below_undrew hb1) HC.o.lt
    have Ak := Hh hv1
    have hs1 := HS.o v1 (below_undrew hb1)
    obtain ⟨hs2, Al⟩ := Af.o v1 hv1 (below_undrew hb1)
    have Aj := Hh Al
    clear hb1 hv1 Al
    refine hK _ _ hs1 fun hH1 => ?_
    clear hK K
    try simp only [qc]
    refine tl 16 (v := (.tuple #[.agg LN.toArray, .int .i64 0])) rfl (by intro w' hS; go_simp) hH1 ?_
    simp only [qc]
    refine tl 17 (v := (.agg LN.toArray)) rfl (by intro w' hS; go_simp) hH1 ?_
    simp only [qc]
    refine tl 18 (v := (.int .i64 0)) rfl (by intro w' hS; go_simp) hH1 ?_
    simp only [qc]
    refine tl 21 (v := (.pointer (some ⟨g, 3 + (k + 1) * 33, none⟩))) rfl (by intro w' hS; go_simp) hH1 ?_
    simp only [qc]
    refine rdy [22] (ar1 rfl fun K hK => ?_)
    refine step_store_mid rfl 30 (.tmp 32) (.tmp 28) rfl g (3 + (k + 1) * 33) LN.toArray rfl rfl (Ak.o.there _ _ (by rw [Aq.o, A1.o]; omega)) A3.o As.o ?_
    refine hK _ _ hs2 fun hH2 => ?_
    clear hK K
    try simp only [qc]
    refine wpAnyH_done (by kernel_rfl) ?_ _
    refine NoPanic.normal ?_
    have Aw := Hh Aj.o
    clear hH0 hH1 hH2 hs1 hs2 hSK Aj Ak Af HC
    generalize v1.setCells g (3 + (k + 1) * 33) LN.toArray.toList = W2 at Aw ⊢
    go_wp2
    go_roundw
    case rel => exact ⟨k + 1, by go_num, by omega, Aw.o⟩
    case measure => simp [intOf]; omega
  · obtain rfl : k = 256 := by omega
    go_wp2
    go_end0
    exact ⟨rfl, Ab.o⟩

/- What stands for an empty part of a tree: nothing. -/

theorem enters_fill : ∀ args w, (callFunc 122 args).run Tryz.prog w = .ok (.enter 122 args) w := enters_of Tryz.func122 (by kernel_rfl) rfl
def Done (K s0 : List Wd) (w : World) (g m s : Nat) (w' : World) : Prop :=
 ∃ cs', TFrame K s0 w' g m cs' s ∧ (∀ h, h ≤ 256 → NodeAt cs' (3 + h * 33) (emptyNd K s0 h)) ∧ Kept (· = g) w w'
theorem zero_node : ∃ Z : Array Value, (∀ w, (zeroValue 30).run Tryz.prog w = .ok (.agg Z) w) ∧ Z.size = 33 ∧ ¬ Z = #[] ∧ Z = (ncells (List.replicate 32 0) 0).toArray := by
 have hs : (ncells (List.replicate 32 0) 0).toArray.size = 33 := by kernel_rfl
 exact ⟨_, fun w => by kernel_rfl, hs, fun e => (by rw [e] at hs; cases hs), rfl⟩
theorem once_is (K s0 : List Wd) (w : World) (hT : Tabs K s0 w) (g m B1 s : Nat) (cs : Array Value) (hf : TFrame K s0 w g m cs s) (hb : w.cell? ⟨B1, 0, none⟩ = some (.pointer (some ⟨g, 0, none⟩))) (hne : B1 ≠ g) (hlow : 2 + 1 ≤ g) :
   Calls Tryz.prog 79 #[.pointer (some ⟨g, 0, none⟩), .func (.func 122) #[] #[.pointer (some ⟨B1, 0, none⟩)]] w fun e w' => e = .returned (.tuple #[]) ∧ Done K s0 w g m s w' := by
 rcases hf.once with h0 | ⟨h1, hn⟩
 · have Ab := hf.obj.set 1 (.int .i32 1)
   have hk0 : Kept (· = g) w (w.setCell ⟨g, 1, none⟩ (.int .i32 1)) := (Kept.refl (· = g) w).set (p := ⟨g, 1, none⟩) (.inl rfl) _
   have hT1 : Tabs K s0 (w.setCell ⟨g, 1, none⟩ (.int .i32 1)) := hT.kept hk0 (fun k e => by have e' : k = g := e; omega)
   have hsz : (cs.setIfInBounds 1 (.int .i32 1)).size = 8486 := by rw [Array.size_setIfInBounds]; exact hf.size
   have hb1 : (w.setCell ⟨g, 1, none⟩ (.int .i32 1)).cell? ⟨B1, 0, none⟩ = some (.pointer (some ⟨g, 0, none⟩)) := cell_held hk0 hb hne
   have Aa := fill_is K s0 _ hT1 g B1 _ Ab hsz hb1 hne hlow
   have key : ∀ cs' : Array Value, (∀ i, i < 3 ∨ 8484 ≤ i → cs'[i]? = (cs.setIfInBounds 1 (.int .i32 1))[i]?) → cs'[0]? = some (.int .u32 0) ∧ cs'[1]? = some (.int .i32 1) ∧ cs'[8484]? = cs[8484]? ∧ cs'[8485]? = cs[8485]? := fun cs' h => by
     refine ⟨?_, ?_, ?_, ?_⟩
     · rw [h 0 (by omega), Array.getElem?_setIfInBounds_ne (by omega)]; exact h0
     · rw [h 1 (by omega), Array.getElem?_setIfInBounds_self_of_lt (by rw [hf.size]; decide)]
     · rw [h _ (by omega), Array.getElem?_setIfInBounds_ne (by omega)]
     · rw [h _ (by omega), Array.getElem?_setIfInBounds_ne (by omega)]
   refine (do_first 122 (.pointer (some ⟨B1, 0, none⟩)) g 0 w (Filled K s0 (w.setCell ⟨g, 1, none⟩ (.int .i32 1)) g (cs.setIfInBounds 1 (.int .i32 1)) 256) (hf.obj.cell_is h0) (hf.obj.cell_is hf.lock) (hf.obj.free _) (hf.obj.free _) Aa enters_fill ?_).mono ?_
   · intro w' ⟨cs', p1, p2, p3, p4, p5⟩
     obtain ⟨q0, q1, _, _⟩ := key cs' p3
     exact ⟨p1.cell_is q0, p1.cell_is q1, p1.free _, p1.free _⟩
   · intro e w' ⟨he, w2, ⟨cs', p1, p2, p3, p4, p5⟩, hw⟩
     obtain ⟨q0, q1, q2, q3⟩ := key cs' p3
     refine ⟨he, (cs'.setIfInBounds 0 (.int .u32 1)).setIfInBounds 1 (.int .i32 0), ⟨?_, ?_, ?_, ?_, ?_, ?_⟩, fun h hh j v hv => ?_, ?_⟩
     · rw [hw]; exact (p1.drew.set 0 _).set 1 _
     · rw [Array.size_setIfInBounds, Array.size_setIfInBounds]; exact p2
     · rw [Array.getElem?_setIfInBounds_self_of_lt (by rw [Array.size_setIfInBounds, p2]; decide)]
     · rw [Array.getElem?_setIfInBounds_ne (by omega), Array.getElem?_setIfInBounds_ne (by omega), q2]; exact hf.lv
     · rw [Array.getElem?_setIfInBounds_ne (by omega), Array.getElem?_setIfInBounds_ne (by omega), q3]; exact hf.sm
     · refine .inr ⟨?_, fun h hh j v hv => ?_⟩
       · rw [Array.getElem?_setIfInBounds_ne (by omega), Array.getElem?_setIfInBounds_self_of_lt (by rw [p2]; decide)]
       · rw [Array.getElem?_setIfInBounds_ne (by omega), Array.getElem?_setIfInBounds_ne (by omega)]
         exact p4 h hh j v hv
     · rw [Array.getElem?_setIfInBounds_ne (by omega), Array.getElem?_setIfInBounds_ne (by omega)]
       exact p4 h hh j v hv
     · rw [hw]
       exact ((hk0.trans p5).drew.set (p := ⟨g, 0, none⟩) (.inl rfl) _).set (p := ⟨g, 1, none⟩) (.inl rfl) _
 · exact (do_done ⟨g, 0, none⟩ 1 (by decide) _ w (hf.obj.cell_is h1)).mono fun e w' ⟨he, hw⟩ => ⟨he, cs, by rw [hw]; exact hf, hn, by rw [hw]; exact Kept.refl _ _⟩

set_option maxRecDepth 100000 in
set_option maxHeartbeats 2000000 in
theorem nothing_is (K s0 : List Wd) (w : World) (hT : Tabs K s0 w) (g m s : Nat) (cs : Array Value) (hf : TFrame K s0 w g m cs s) (hlow : 2 + 1 ≤ g) (ht : Nat) (hh : ht ≤ 256) :
  Calls Tryz.prog 101 #[.pointer (some ⟨g, 0, none⟩), .int .i64 (ht : Int)] w fun e w' => e = .returned (.agg (ndV (emptyNd K s0 ht)).toArray) ∧ (∃ cs', TFrame K s0 w' g m cs' s) ∧ Kept (· = g) w w' := by
 have hmf : ∀ (fn : Fn) (first cap : Array Value) (w : World), (Instr.makeFunc fn first cap).run Tryz.prog w = .ok (.func fn first cap) w := fun _ _ _ _ => rfl
 have Aa := hf.obj.lt
 have s1 : ∀ (x : World) o, (x.alloc o).heap.size = x.heap.size + 1 := fun x o => by simp
 obtain ⟨Z, hz, hZs, hZn, -⟩ := zero_node
 have b1 := (Has.new w 105 #[.pointer (some ⟨g, 0, none⟩)]).alloc (.cells Z 30)
 have b2 := Has.new (w.alloc (.cells #[.pointer (some ⟨g, 0, none⟩)] 105)) 30 Z
 rw [s1] at b2
 have hk0 : Kept (fun _ => False) w ((w.alloc (.cells #[.pointer (some ⟨g, 0, none⟩)] 105)).alloc (.cells Z 30)) := ((Kept.refl _ _).alloc _).alloc _
 have hf0 : TFrame K s0 ((w.alloc (.cells #[.pointer (some ⟨g, 0, none⟩)] 105)).alloc (.cells Z 30)) g m cs s := ⟨hf.obj.kept hk0 (fun h => h), hf.size, hf.lock, hf.lv, hf.sm, hf.once⟩
 have hT0 := hT.kept hk0 (fun _ h => h.elim)
 have c1 : ((w.alloc (.cells #[.pointer (some ⟨g, 0, none⟩)] 105)).alloc (.cells Z 30)).cell? ⟨w.heap.size, 0, none⟩ = some (.pointer (some ⟨g, 0, none⟩)) := b1.cell_is rfl
 have hdo := once_is K s0 _ hT0 g m w.heap.size s cs hf0 c1 (by omega) hlow
 have Ad := Hh hdo
 have Ab := Hh b1
 have Ac := Hh b2
 have Ag := Hh hk0
 have Af := Hh Aa
 have Ah := Hh hT.len
 have An := Hh hZs
 clear hf hT b1 b2 hf0 hT0 hdo hk0 Aa hZs s1 hlow c1
 go_enter Tryz.func101, Tryz.ntmps101
 go_upto_region 1 with (fail)
 generalize (w.alloc (.cells #[.pointer (some ⟨g, 0, none⟩)] 105)).alloc (.cells Z 30) = W0 at Ad Ab Ac Ag ⊢
 have c1 : W0.cell? ⟨w.heap.size, 0, none⟩ = some (.pointer (some ⟨g, 0, none⟩)) := Ab.o.cell_is rfl
 go_wp2_with fail
 refine Ad.o.mono ?_
 rintro _ w1 ⟨rfl, cs', hf1, hn, hk1⟩
 have d1 : w1.cell? ⟨w.heap.size, 0, none⟩ = some (.pointer (some ⟨g, 0, none⟩)) := cell_held hk1 c1 (by have := Af.o; show ¬ w.heap.size = g; omega)
 have hb2 := Ac.o.kept hk1 (by have := Af.o; omega)
 obtain ⟨LN, hLN⟩ : ∃ L, L = ndV (emptyNd K s0 ht) := ⟨_, rfl⟩
 have ln : LN.length = 33 := by rw [hLN]; exact ndV_len (empty_hash K s0 Ah.o ht)
 have hr : w1.rangeAt g (3 + ht * 33) LN := by rw [hLN]; exact nodeAt_range hf1.obj (hn ht hh)
 have HR := Hh hr
 have Ap := Hh (show (Tryz.prog.info? 30).map (·.size) = some LN.length by rw [ln]; kernel_rfl)
 have Aj := Hh (show (Tryz.prog.info? 30).map (·.size) = some LN.toArray.size by rw [List.size_toArray, ln]; kernel_rfl)
 have Ao := Hh (show LN.toArray.all (·.oneCell') = true by rw [hLN]; exact ndV_one _)
 have Am := Hh (show Z.size = LN.toArray.size by rw [An.o, List.size_toArray, ln])
 have Al := Hh hb2
 have hk2 : Kept (· = w.heap.size + 1) w1 (w1.setRow (w.heap.size + 1) LN.toArray) := kept_setRow (g := w.heap.size + 1) w1 LN.toArray
 have hgg : g < w.heap.size := Af.o
 have Ae := Hh (show (∃ cs', TFrame K s0 (w1.setRow (w.heap.size + 1) LN.toArray) g m cs' s) ∧ Kept (· = g) w (w1.setRow (w.heap.size + 1) LN.toArray) from
  ⟨⟨cs', hf1.obj.kept hk2 (by omega), hf1.size, hf1.lock, hf1.lv, hf1.sm, hf1.once⟩, (Ag.o.mono (S' := (· = g)) (fun _ _ h => h.elim)).trans hk1 |>.step hk2 (fun k e => by have e' : k = w.heap.size + 1 := e; omega)⟩)
 have Ai := Hh (show Has (w1.setRow (w.heap.size + 1) LN.toArray) (w.heap.size + 1) 30 LN.toArray from hb2.setRow)
 have hi1 : ¬ (257 : Int) ≤ (ht : Int) := by omega
 have Ak := Hh hLN
 clear hf1 hn hk1 hb2 hLN ln hr hk2 hgg c1 Ad Ab Ac Ag
 go_wp2_with (first
  | (refine wpList_load_mid rfl 30 (.tmp 14) rfl g (3 + ht * 33) rfl LN _ HR.o Tryz.underlying30 rfl Ap.o ?_)
  | (refine wpList_store_row rfl 30 (.tmp 4) (.tmp 15) rfl (w.heap.size + 1) LN.toArray rfl rfl 30 Z Al.o Aj.o Am.o Ao.o ?_))
 refine bodyPost_ret (results_cell_row rfl _ _ (w.heap.size + 1) 30 LN.toArray (0, 0) _ rfl Ai.o Tryz.underlying30 rfl Aj.o) rfl ?_
 exact ⟨by rw [← Ak.o], Ae.o⟩

/- The search for where keys part: slices.BinarySearchFunc at keys; the closures of part and Beside. -/

structure KeysAt (w : World) (a : Option Addr) (n : Nat) (ks : List (List Nat)) : Prop where
 len : ks.length = n
 hash : ∀ k ∈ ks, IsHash k
 at_ : 0 < n → ∃ b o, a = some ⟨b, o, none⟩ ∧ b < w.heap.size ∧ ∀ (i : Nat) k, ks[i]? = some k → w.rangeAt b (o + i * 32) (bcells k)
theorem KeysAt.kept {S : Nat → Prop} {w w' : World} {a : Option Addr} {n : Nat} {ks : List (List Nat)} (h : KeysAt w a n ks) (hk : Kept S w w') (hs : ∀ b o, a = some ⟨b, o, none⟩ → ¬ S b) : KeysAt w' a n ks :=
 ⟨h.len, h.hash, fun hn => by
  obtain ⟨b, o, e, hb, hr⟩ := h.at_ hn
  exact ⟨b, o, e, by have := hk.size; omega, fun i k hi => rangeAt_kept (hr i k hi) hk (hs b o e)⟩⟩
theorem KeysAt.below {w w' : World} {a : Option Addr} {n : Nat} {ks : List (List Nat)} (h : KeysAt w a n ks) (hb : Below w.heap.size w w') : KeysAt w' a n ks := h.kept (S := fun _ => False) (Kept.of_below hb) (fun _ _ _ h => h)

theorem turn_part (w : World) (k : List Nat) (hk : IsHash k) (B h : Nat) (hh : h < 256) (hc : w.cell? ⟨B, 0, none⟩ = some (.int .i64 ((h : Int) + 1))) :
  Calls Tryz.prog 103 #[arr k, .int .i64 1, .pointer (some ⟨B, 0, none⟩)] w fun e w' => e = .returned (.int .i64 ((bitAt k h : Nat) - 1 : Int)) ∧ Below w.heap.size w w' := by
 have Ad := Has.new w 27 (bcells k).toArray
 have hBlt := World.block_lt_of_cell? w _ hc
 have hc1 : (w.alloc (.cells (bcells k).toArray 27)).cell? ⟨B, 0, none⟩ = some (.int .i64 ((h : Int) + 1)) := by rw [World.cell?_alloc_lt w _ _ hBlt]; exact hc
 have Ac := (Below.refl w.heap.size w).alloc (Nat.le_refl _) (.cells (bcells k).toArray 27)
 have sz : (Tryz.prog.info? 27).map (·.size) = some (bcells k).toArray.size := by rw [List.size_toArray, bcells_length, hk.1]; kernel_rfl
 have Aa := fun W => bit_in k (h : Int) W hk.1 (by omega) (by omega)
 unfold arr at Aa ⊢
 obtain ⟨C, hC⟩ : ∃ C, C = (bcells k).toArray := ⟨_, rfl⟩
 rw [Int.toNat_natCast] at Aa
 obtain ⟨bt, hbt⟩ : ∃ b : Nat, b = bitAt k h := ⟨_, rfl⟩
 have hb2 : bt < 2 := by rw [hbt]; exact bitAt_lt k h
 rw [← hC] at Ad hc1 Ac sz ⊢
 rw [← hC, ← hbt] at Aa
 rw [← hbt]
 have Ae := Hh Ad
 have Ab := Hh Ac
 have Af := Hh Aa
 have SZ := Hh sz
 have hq : wrap64 ((h : Int) + 1 - 1) = (h : Int) := by unfold wrap64; omega
 have hq1 : (h : Int) + 1 - 1 = (h : Int) := by omega
 have hq2 : wrap64 ((bt : Int) - 1) = (bt : Int) - 1 := by unfold wrap64; omega
 have hq3 : wrap64 (h : Int) = (h : Int) := by unfold wrap64; omega
 clear Ad Ac Aa sz hC hbt hBlt hc
 go_enter Tryz.func103, Tryz.ntmps103
 go_upto_region 1 with (fail)
 generalize w.alloc (.cells C 27) = W at Ae Ab hc1 ⊢
 go_wp2_with (refine wpList_load_row rfl 27 (.tmp 3) rfl w.heap.size rfl 27 C (0, 0) _ Ae.o Tryz.underlying27 rfl SZ.o ?_)
 refine (Af.o _).mono ?_
 rintro _ W1 ⟨rfl, e⟩
 have Ag := Hh (show Below w.heap.size w W1 by rw [e]; exact Ab.o.alloc Ab.o.size _)
 clear e
 go_wp2
 go_ret
 exact ⟨rfl, Ag.o⟩
theorem turn_beside (w : World) (k : List Nat) (hk : IsHash k) (B h : Nat) (hh : h < 256) (hc : w.cell? ⟨B, 0, none⟩ = some (.int .i64 (h : Int))) :
  Calls Tryz.prog 120 #[arr k, .int .i64 1, .pointer (some ⟨B, 0, none⟩)] w fun e w' => e = .returned (.int .i64 ((bitAt k h : Nat) - 1 : Int)) ∧ Below w.heap.size w w' := by
 have Ad := Has.new w 27 (bcells k).toArray
 have hBlt := World.block_lt_of_cell? w _ hc
 have hc1 : (w.alloc (.cells (bcells k).toArray 27)).cell? ⟨B, 0, none⟩ = some (.int .i64 (h : Int)) := by rw [World.cell?_alloc_lt w _ _ hBlt]; exact hc
 have Ac := (Below.refl w.heap.size w).alloc (Nat.le_refl _) (.cells (bcells k).toArray 27)
 have sz : (Tryz.prog.info? 27).map (·.size) = some (bcells k).toArray.size := by rw [List.size_toArray, bcells_length, hk.1]; kernel_rfl
 have Aa := fun W => bit_in k (h : Int) W hk.1 (by omega) (by omega)
 unfold arr at Aa ⊢
 obtain ⟨C, hC⟩ : ∃ C, C = (bcells k).toArray := ⟨_, rfl⟩
 rw [Int.toNat_natCast] at Aa
 obtain ⟨bt, hbt⟩ : ∃ b : Nat, b = bitAt k h := ⟨_, rfl⟩
 have hb2 : bt < 2 := by rw [hbt]; exact bitAt_lt k h
 rw [← hC] at Ad hc1 Ac sz ⊢
 rw [← hC, ← hbt] at Aa
 rw [← hbt]
 have Ae := Hh Ad
 have Ab := Hh Ac
 have Af := Hh Aa
 have SZ := Hh sz
 have hq2 : wrap64 ((bt : Int) - 1) = (bt : Int) - 1 := by unfold wrap64; omega
 clear Ad Ac Aa sz hC hbt hBlt hc
 go_enter Tryz.func120, Tryz.ntmps120
 go_upto_region 1 with (fail)
 generalize w.alloc (.cells C 27) = W at Ae Ab hc1 ⊢
 go_wp2_with (refine wpList_load_row rfl 27 (.tmp 3) rfl w.heap.size rfl 27 C (0, 0) _ Ae.o Tryz.underlying27 rfl SZ.o ?_)
 refine (Af.o _).mono ?_
 rintro _ W1 ⟨rfl, e⟩
 have Ag := Hh (show Below w.heap.size w W1 by rw [e]; exact Ab.o.alloc Ab.o.size _)
 clear e
 go_wp2
 go_ret
 exact ⟨rfl, Ag.o⟩

/- slices.BinarySearchFunc at keys: where they part. -/

set_option maxRecDepth 100000 in
set_option maxHeartbeats 4000000 in
theorem bsearch_is (f : Nat) (cap : Value) (w : World) (h : Nat) (a : Option Addr) (n c : Nat) (ks : List (List Nat)) (hn : n ≤ 1000000) (hks : KeysAt w a n ks)
  (henter : ∀ args w, (callFunc f args).run Tryz.prog w = .ok (.enter f args) w)
  (hcl : ∀ W k, Below w.heap.size w W → IsHash k → Calls Tryz.prog f #[arr k, .int .i64 1, cap] W fun e w' => e = .returned (.int .i64 ((bitAt k h : Nat) - 1 : Int)) ∧ Below W.heap.size W w')
  (mono : ∀ (i j : Nat) x y, ks[i]? = some x → ks[j]? = some y → i < j → bitAt x h ≤ bitAt y h) :
  Calls Tryz.prog 102 #[.slice a n c, .int .i64 1, .func (.func f) #[] #[cap]] w fun e w' => ∃ (p : Nat) (b : Bool), e = .returned (.tuple #[.int .i64 (p : Int), .bool b]) ∧ p ≤ n ∧
    (∀ (j : Nat) k, j < p → ks[j]? = some k → bitAt k h = 0) ∧ (∀ (j : Nat) k, p ≤ j → ks[j]? = some k → bitAt k h = 1) ∧ Below w.heap.size w w' := by
 have HK := Hh hks
 have Ag := Hh hcl
 have HM := Hh mono
 have SZ := Hh (fun (L : List Value) (hl : L.length = 32) => (by rw [hl]; kernel_rfl : (Tryz.prog.info? 27).map (·.size) = some L.length))
 clear hks hcl mono
 go_enter Tryz.func102, Tryz.ntmps102
 go_wp2_with fail
 go_loopw [9, 10] (fun i j wr => ∃ p q : Nat, i = .int .i64 (p : Int) ∧ j = .int .i64 (q : Int) ∧ p ≤ q ∧ q ≤ n ∧ (∀ (x : Nat) k, x < p → ks[x]? = some k → bitAt k h = 0) ∧ (∀ (x : Nat) k, q ≤ x → ks[x]? = some k → bitAt k h = 1) ∧ Below w.heap.size w wr) (fun i j _ => (intOf j).toNat - (intOf i).toNat)
 case atStart => exact ⟨0, n, rfl, rfl, Nat.zero_le _, Nat.le_refl _, fun x k hx => absurd hx (by omega), fun x k hx e => (by rw [List.getElem?_eq_none (by rw [HK.o.len]; exact hx)] at e; cases e), Below.refl _ _⟩
 case round =>
  obtain ⟨p, q, rfl, rfl, hpq, hqn, h0, h1, Ab⟩ := hrel
  have H0 := Hh h0
  have H1 := Hh h1
  have Aa := Hh Ab
  clear h0 h1 Ab
  by_cases hlt : p < q
  · obtain ⟨md, hmd⟩ : ∃ md : Nat, md = (p + q) / 2 := ⟨_, rfl⟩
    have hm1 : p ≤ md := by omega
    have hm2 : md < q := by omega
    obtain ⟨k, hk⟩ : ∃ k, ks[md]? = some k := ⟨_, List.getElem?_eq_getElem (by rw [HK.o.len]; omega)⟩
    have hkh := HK.o.hash k (List.mem_of_getElem? hk)
    obtain ⟨sb, so, hA, hsb, hr⟩ := HK.o.at_ (by omega)
    subst hA
    have hrk : wr.rangeAt sb (so + md * 32) (bcells k) := rangeAt_kept (hr md k hk) (Kept.of_below (S := fun _ => False) Aa.o) (fun h => h)
    have hc := Ag.o wr k Aa.o hkh
    unfold arr at hc
    obtain ⟨L, hL⟩ : ∃ L, L = bcells k := ⟨_, rfl⟩
    have hl : L.length = 32 := by rw [hL, bcells_length, hkh.1]
    obtain ⟨bt, hbt⟩ : ∃ b : Nat, b = bitAt k h := ⟨_, rfl⟩
    have hb2 : bt < 2 := by rw [hbt]; exact bitAt_lt k h
    rw [← hL] at hrk hc
    rw [← hbt] at hc
    have Ae := Hh hrk
    have HC := Hh hc
    have Af := Hh (SZ.o L hl)
    have EB := Hh hbt
    have Ad := Hh hk
    have EM := Hh hmd
    clear hr hrk hc hL hl hbt hk hkh hsb hmd
    have hqm : wrap64 ((p : Int) + (q : Int)) = (p : Int) + (q : Int) := by unfold wrap64; omega
    have hqs : ((p : Int) + (q : Int)) / 2 = (md : Int) := by have := EM.o; omega
    go_wp2_with (refine wpList_load_mid rfl 27 (.tmp 27) rfl sb (so + md * 32) rfl L _ Ae.o Tryz.underlying27 rfl Af.o ?_)
    refine HC.o.mono ?_
    rintro _ w1 ⟨rfl, hb1⟩
    have Ac := Hh (Aa.o.trans (hb1.mono Aa.o.size))
    clear hb1
    by_cases hb0 : (bt : Int) - 1 < 0
    · have HN := Hh (show ∀ (x : Nat) k, x < md + 1 → ks[x]? = some k → bitAt k h = 0 from fun x y hx hy => by
       have e0 : bitAt k h = 0 := by rw [← EB.o]; omega
       rcases Nat.lt_or_ge x md with e | e
       · have := HM.o x md y k hy Ad.o e; omega
       · obtain rfl : x = md := by omega
         have := hy.symm.trans Ad.o
         injection this with this
         rw [this]; exact e0)
      have hq5 : wrap64 ((md : Int) + 1) = (md : Int) + 1 := by unfold wrap64; omega
      go_wp2
      go_roundw
      case rel => exact ⟨md + 1, q, by go_num, rfl, by omega, hqn, HN.o, H1.o, Ac.o⟩
      case measure => simp [intOf]; omega
    · have HN := Hh (show ∀ (x : Nat) k, md ≤ x → ks[x]? = some k → bitAt k h = 1 from fun x y hx hy => by
       have e1 : bitAt k h = 1 := by rw [← EB.o]; omega
       rcases Nat.lt_or_ge md x with e | e
       · have := HM.o md x k y Ad.o hy e
         have := bitAt_lt y h; omega
       · obtain rfl : x = md := by omega
         have := hy.symm.trans Ad.o
         injection this with this
         rw [this]; exact e1)
      go_wp2
      go_roundw
      case rel => exact ⟨p, md, rfl, rfl, by omega, by omega, H0.o, HN.o, Ac.o⟩
      case measure => simp [intOf]; omega
  · obtain rfl : p = q := by omega
    by_cases hp : p < n
    · obtain ⟨k, hk⟩ : ∃ k, ks[p]? = some k := ⟨_, List.getElem?_eq_getElem (by rw [HK.o.len]; omega)⟩
      have hkh := HK.o.hash k (List.mem_of_getElem? hk)
      obtain ⟨sb, so, hA, hsb, hr⟩ := HK.o.at_ (by omega)
      subst hA
      have hrk : wr.rangeAt sb (so + p * 32) (bcells k) := rangeAt_kept (hr p k hk) (Kept.of_below (S := fun _ => False) Aa.o) (fun h => h)
      have hc := Ag.o wr k Aa.o hkh
      unfold arr at hc
      rw [H1.o p k (Nat.le_refl _) hk] at hc
      obtain ⟨L, hL⟩ : ∃ L, L = bcells k := ⟨_, rfl⟩
      have hl : L.length = 32 := by rw [hL, bcells_length, hkh.1]
      rw [← hL] at hrk hc
      have Ae := Hh hrk
      have HC := Hh hc
      have Af := Hh (SZ.o L hl)
      clear hr hrk hc hL hl hk hkh hsb
      go_wp2_with (refine wpList_load_midG (by kernel_rfl) 27 (.tmp 43) rfl sb (so + p * 32) rfl L _ Ae.o Tryz.underlying27 rfl Af.o ?_)
      refine HC.o.mono ?_
      rintro _ w1 ⟨rfl, hb1⟩
      have Ac := Hh (Aa.o.trans (hb1.mono Aa.o.size))
      clear hb1
      go_wp2
      go_ret2
      exact ⟨p, _, rfl, hqn, H0.o, H1.o, Ac.o⟩
    · go_wp2
      go_ret2
      exact ⟨p, _, rfl, hqn, H0.o, H1.o, Aa.o⟩
section

/- Cuts of a row of keys. -/

theorem add_block (A : Addr) (k : Nat) : (A.add k).block = A.block := by
 unfold Addr.add; split <;> rfl
def FarK (a : Option Addr) (g : Nat) : Prop := ∀ A, a = some A → A.block ≠ g
theorem size_hash (w : World) : (sizeOf 27).run Tryz.prog w = .ok 32 w := by kernel_rfl
section
variable {w : World} {a : Option Addr} {n : Nat} {ks : List (List Nat)}
theorem KeysAt.lo (h : KeysAt w a n ks) (c p : Nat) (hc : n ≤ c) (hp : p ≤ n) (g : Nat) (hg : FarK a g) :
   ∃ a1 c1, (∀ w', (Instr.slice 124 (.slice a n c) none (some (.int .i64 (p : Int))) none).run Tryz.prog w' = .ok (.slice a1 p c1) w') ∧ KeysAt w a1 p (ks.take p) ∧ p ≤ c1 ∧ FarK a1 g := by
 have hu : Tryz.prog.underlying 124 = some (.slice (Tryz.prog.elem 124)) := by kernel_rfl
 have he : Tryz.prog.elem 124 = 27 := by kernel_rfl
 have hr : ∀ w', (Instr.slice 124 (.slice a n c) none (some (.int .i64 (p : Int))) none).run Tryz.prog w' = .ok (.slice (if c = 0 then a else a.map (·.add 0)) p c) w' := fun w' => by
   rw [run_slice_h w' 124 a n c hu .i64 (p : Int) (by omega) (by omega), he, size_hash]
   simp only [Result.andThen, sliced, Int.toNat_natCast, Nat.zero_mul, Nat.sub_zero]
 have key : FarK (if c = 0 then a else a.map (·.add 0)) g := fun A hA => by
   split at hA
   · exact hg A hA
   · cases a with
     | none => cases hA
     | some B =>
      injection hA with hA
      rw [← hA, add_block]
      exact hg B rfl
 refine ⟨_, _, hr, ⟨by rw [List.length_take, h.len]; omega, fun k hk => h.hash k (List.mem_of_mem_take hk), fun h0 => ?_⟩, by omega, key⟩
 obtain ⟨b, o, rfl, hb, hcl⟩ := h.at_ (by omega)
 refine ⟨b, o, by rw [if_neg (by omega), Option.map_some, Addr.add_mid, Nat.add_zero], hb, fun i k hi => hcl i k ?_⟩
 rw [List.getElem?_take] at hi
 split at hi
 · exact hi
 · cases hi
theorem KeysAt.hi (h : KeysAt w a n ks) (c p : Nat) (hc : n ≤ c) (hp : p ≤ n) (g : Nat) (hg : FarK a g) :
  ∃ a1 c1, (∀ w', (Instr.slice 124 (.slice a n c) (some (.int .i64 (p : Int))) none none).run Tryz.prog w' = .ok (.slice a1 (n - p) c1) w') ∧ KeysAt w a1 (n - p) (ks.drop p) ∧ n - p ≤ c1 ∧ FarK a1 g := by
 have hu : Tryz.prog.underlying 124 = some (.slice (Tryz.prog.elem 124)) := by kernel_rfl
 have he : Tryz.prog.elem 124 = 27 := by kernel_rfl
 have hr : ∀ w', (Instr.slice 124 (.slice a n c) (some (.int .i64 (p : Int))) none none).run Tryz.prog w' = .ok (.slice (if c = p then a else a.map (·.add (p * 32))) (n - p) (c - p)) w' := fun w' => by
  rw [run_slice_l w' 124 a n c hu .i64 (p : Int) (by omega) (by omega), he, size_hash]
  simp only [Result.andThen, sliced, Int.toNat_natCast]
 have key : FarK (if c = p then a else a.map (·.add (p * 32))) g := fun A hA => by
  split at hA
  · exact hg A hA
  · cases a with
    | none => cases hA
    | some B =>
     injection hA with hA
     rw [← hA, add_block]
     exact hg B rfl
 refine ⟨_, _, hr, ⟨by rw [List.length_drop, h.len], fun k hk => h.hash k (List.mem_of_mem_drop hk), fun h0 => ?_⟩, by omega, key⟩
 obtain ⟨b, o, rfl, hb, hcl⟩ := h.at_ (by omega)
 refine ⟨b, o + p * 32, by rw [if_neg (by omega), Option.map_some, Addr.add_mid], hb, fun i k hi => ?_⟩
 rw [List.getElem?_drop] at hi
 have := hcl (p + i) k hi
 rw [show o + p * 32 + i * 32 = o + (p + i) * 32 by rw [Nat.add_mul]; omega]
 exact this
theorem Sorted.take (h : Sorted ks) (p : Nat) : Sorted (ks.take p) := List.Pairwise.sublist (List.take_sublist p ks) h
theorem Sorted.drop (h : Sorted ks) (p : Nat) : Sorted (ks.drop p) := List.Pairwise.sublist (List.drop_sublist p ks) h
theorem Sorted.nodup (h : Sorted ks) : ks.Nodup := List.Pairwise.imp (fun {a b} hl e => by rw [e, lexC_refl] at hl; exact absurd hl (by decide)) h
theorem Coh.sub (h0 : Coh ks n) {us : List (List Nat)} (hs : ∀ k ∈ us, k ∈ ks) : Coh us n := fun x hx y hy => h0 x (hs x hx) y (hs y hy)
theorem Coh.less {h b : Nat} (hc : Coh ks (h + 1)) {us : List (List Nat)} (hs : ∀ k ∈ us, k ∈ ks) (hb : ∀ k ∈ us, bitAt k h = b) : Coh us h := fun x hx y hy j h1 h2 => by
 rcases Nat.lt_or_ge h j with e | e
 · exact hc x (hs x hx) y (hs y hy) j e h2
 · obtain rfl : j = h := by omega
   rw [hb x hx, hb y hy]
end
end
end Go.Proofs.YtknfbccbdiidjaaGreatDoor
