/- A tree in memory: its block, its map, the blocks of its leaves' bytes. -/
import Derived.Test.YtcpomddkehhkkaaDoorTree1
import Derived.Test.YtcpomddkehhkkaaDoorMap3
import Derived.Test.YtcpomddkehhkkaaDoorMsum3
import Derived.Test.YtcpomddkehhkkaaDoorOnce
namespace Go.Proofs.YtcpomddkehhkkaaDoor
set_option linter.unusedVariables false
set_option linter.unusedSimpArgs false
open Go.ChangeShapes Go.WideShapes Go.ChangeAt Go.RowKit Go.Maps

/-- a node lies at a place of a block. -/
def NodeAt (cs : Array Value) (o : Nat) (n : Nd) : Prop := ∀ (j : Nat) v, (ncells n.h n.s)[j]? = some v → cs[o + j]? = some v
/-- a tree's block: the once, the empty parts, the map, the sum. -/
structure TFrame (K s0 : List Wd) (w : World) (g m : Nat) (cs : Array Value) (s : Nat) : Prop where
  obj : Has w g 112 cs
  size : cs.size = 8486
  lock : cs[1]? = some (.int .i32 0)
  lv : cs[8484]? = some (.map (some m))
  sm : cs[8485]? = some (.int .u64 (s : Int))
  once : cs[0]? = some (.int .u32 0) ∨ (cs[0]? = some (.int .u32 1) ∧ ∀ h, h ≤ 256 → NodeAt cs (3 + h * 33) (emptyNd K s0 h))
/-- bytes in a block of bytes that lies in a zone. -/
def RowB (S : Nat → Prop) (w : World) (v : Value) (bs : List Nat) : Prop :=
  ∃ a c, v = .slice a bs.length c ∧ bs.length ≤ c ∧ (∀ x ∈ bs, x < 256) ∧
    (0 < bs.length → ∃ bg bo cur, a = some ⟨bg, bo, none⟩ ∧ S bg ∧ Has w bg 5 cur ∧ ∀ i, i < bs.length → cur[bo + i]? = some (.int .u8 (bs.getD i 0 : Nat)))
theorem RowB.kept {S Z : Nat → Prop} {w w' : World} {v : Value} {bs : List Nat} (h : RowB S w v bs) (hk : Kept Z w w') (hz : ∀ k, k < w.heap.size → S k → ¬ Z k) : RowB S w' v bs := by
  obtain ⟨a, c, e, h1, h2, h3⟩ := h
  exact ⟨a, c, e, h1, h2, fun hl => by
    obtain ⟨bg, bo, cur, e2, hs, hh, hc⟩ := h3 hl
    exact ⟨bg, bo, cur, e2, hs, hh.kept hk (hz bg hh.lt hs), hc⟩⟩
theorem RowB.zone {S S' : Nat → Prop} {w : World} {v : Value} {bs : List Nat} (h : RowB S w v bs) (hz : ∀ k, k < w.heap.size → S k → S' k) : RowB S' w v bs := by
  obtain ⟨a, c, e, h1, h2, h3⟩ := h
  exact ⟨a, c, e, h1, h2, fun hl => by
    obtain ⟨bg, bo, cur, e2, hs, hh, hc⟩ := h3 hl
    exact ⟨bg, bo, cur, e2, hz bg hh.lt hs, hh, hc⟩⟩
theorem RowB.bytes {S : Nat → Prop} {w : World} {v : Value} {bs : List Nat} (h : RowB S w v bs) {g : Nat} (hg : w.heap.size ≤ g) : Bytes w g v bs := by
  obtain ⟨a, c, e, h1, h2, h3⟩ := h
  exact ⟨a, c, e, h1, h2, fun hl => by
    obtain ⟨bg, bo, cur, e2, hs, hh, hc⟩ := h3 hl
    exact ⟨bg, bo, e2, by have := hh.lt; omega, fun i hi => hh.cell_is (hc i hi)⟩⟩
theorem RowB.nil (S : Nat → Prop) (w : World) (a : Option Addr) (c : Nat) : RowB S w (.slice a 0 c) [] := ⟨a, c, rfl, Nat.zero_le _, fun x hx => (by cases hx), fun h => absurd h (by simp)⟩
/-- bytes that a row of one's own holds. -/
theorem RowB.of_own {S : Nat → Prop} {w : World} {base n : Nat} {v : Value} {bs : List Nat} (h : w.ownsRow base 5 1 v n (bcells bs)) (hn : bs.length = n) (hb : ∀ x ∈ bs, x < 256) (hz : ∀ k, base ≤ k → S k) : RowB S w v bs := by
  rcases Nat.eq_zero_or_pos n with h0 | h0
  · subst h0
    have e : bs = [] := List.eq_nil_of_length_eq_zero hn
    subst e
    rcases h.2 with ⟨rfl, _⟩ | ⟨g, cap, cur, rfl, _⟩
    · exact RowB.nil S w _ _
    · exact RowB.nil S w _ _
  · obtain ⟨g, cap, cur, rfl, hB, hh, h1, h2, h3, h4⟩ := own_open h h0
    refine ⟨some ⟨g, 0, none⟩, cap, by rw [hn], by omega, hb, fun _ => ⟨g, 0, cur, rfl, hz g hB, hh, fun i hi => ?_⟩⟩
    rw [Nat.zero_add]
    rw [h4 i (by omega)]
    exact bcells_get bs i hi
def LeafIs (S : Nat → Prop) (w : World) (e : Ent) (t : Lf) : Prop := e.1 = t.k ∧ ∃ v, e.2 = leafV v t.s ∧ RowB S w v t.v
def Leaves (S : Nat → Prop) (w : World) : List Ent → List Lf → Prop
  | [], [] => True
  | e :: es, t :: T => LeafIs S w e t ∧ Leaves S w es T
  | _, _ => False
section
variable {S : Nat → Prop} {w : World}
theorem Leaves.imp {S' : Nat → Prop} {w' : World} (hi : ∀ v bs, RowB S w v bs → RowB S' w' v bs) : ∀ {es : List Ent} {T : List Lf}, Leaves S w es T → Leaves S' w' es T
  | [], [], _ => trivial
  | e :: es, t :: T, h => ⟨⟨h.1.1, by obtain ⟨v, e1, e2⟩ := h.1.2; exact ⟨v, e1, hi _ _ e2⟩⟩, Leaves.imp hi h.2⟩
  | [], _ :: _, h => h.elim
  | _ :: _, [], h => h.elim
theorem Leaves.keys : ∀ {es : List Ent} {T : List Lf}, Leaves S w es T → es.map (·.1) = T.map (·.k)
  | [], [], _ => rfl
  | e :: es, t :: T, h => by rw [List.map_cons, List.map_cons, h.1.1, Leaves.keys h.2]
  | [], _ :: _, h => h.elim
  | _ :: _, [], h => h.elim
theorem Leaves.look_ (k : List Nat) : ∀ {es : List Ent} {T : List Lf}, Leaves S w es T → (look es k = none ∧ findT T k = none) ∨ ∃ v l, look es k = some (leafV v l.s) ∧ findT T k = some l ∧ RowB S w v l.v
  | [], [], _ => .inl ⟨rfl, rfl⟩
  | (k0, x) :: es, t :: T, h => by
    obtain ⟨⟨e1, v, e2, e3⟩, h2⟩ := h
    have e1' : k0 = t.k := e1
    have e2' : x = leafV v t.s := e2
    unfold look findT
    by_cases hk : t.k = k
    · rw [if_pos hk]
      refine .inr ⟨v, t, ?_, rfl, e3⟩
      rw [if_pos (by rw [e1']; exact hk), e2']
    · rw [if_neg hk, if_neg (by rw [e1']; exact hk)]
      exact Leaves.look_ k h2
  | [], _ :: _, h => h.elim
  | _ :: _, [], h => h.elim
theorem Leaves.put {l : Lf} {v : Value} (hl : RowB S w v l.v) : ∀ {es : List Ent} {T : List Lf}, Leaves S w es T → Leaves S w (putL es l.k (leafV v l.s)) (putT T l)
  | [], [], _ => ⟨⟨rfl, v, rfl, hl⟩, trivial⟩
  | (k0, x) :: es, t :: T, h => by
    have e1 : k0 = t.k := h.1.1
    unfold putL putT
    by_cases hk : t.k = l.k
    · rw [if_pos hk, if_pos (by rw [e1]; exact hk)]
      exact ⟨⟨by first | exact hk | exact e1.trans hk | rfl, v, rfl, hl⟩, h.2⟩
    · rw [if_neg hk, if_neg (by rw [e1]; exact hk)]
      exact ⟨h.1, Leaves.put hl h.2⟩
  | [], _ :: _, h => h.elim
  | _ :: _, [], h => h.elim
theorem Leaves.drop (k : List Nat) : ∀ {es : List Ent} {T : List Lf}, Leaves S w es T → Leaves S w (delL es k) (dropT T k)
  | [], [], _ => trivial
  | (k0, x) :: es, t :: T, h => by
    have e1 : k0 = t.k := h.1.1
    unfold delL dropT
    by_cases hk : t.k = k
    · rw [if_pos hk, if_pos (by rw [e1]; exact hk)]
      exact h.2
    · rw [if_neg hk, if_neg (by rw [e1]; exact hk)]
      exact ⟨h.1, Leaves.drop k h.2⟩
  | [], _ :: _, h => h.elim
  | _ :: _, [], h => h.elim
end
/-- a tree whose blocks lie in a zone. -/
structure TreeAt (K s0 : List Wd) (S : Nat → Prop) (w : World) (g m : Nat) (es : List Ent) (T : List Lf) : Prop where
  frame : ∃ cs, TFrame K s0 w g m cs (sumT T)
  map : MapIs w m es
  leaves : Leaves S w es T
  keyed : Keyed (T.map (·.k))
  fit : sumT T < 18446744073709551616
  len : T.length ≤ 256
  short : ∀ t ∈ T, t.v.length ≤ 65536
  zg : S g
  zm : S m
def Tr (K s0 : List Wd) (S : Nat → Prop) (w : World) (g : Nat) (T : List Lf) : Prop := ∃ m es, TreeAt K s0 S w g m es T
section
variable {K s0 : List Wd} {S Z S' : Nat → Prop} {w w' : World} {g m : Nat} {es : List Ent} {T : List Lf}
theorem TreeAt.kept (h : TreeAt K s0 S w g m es T) (hk : Kept Z w w') (hz : ∀ k, k < w.heap.size → S k → ¬ Z k) : TreeAt K s0 S w' g m es T := by
  obtain ⟨cs, hf⟩ := h.frame
  exact ⟨⟨cs, hf.obj.kept hk (hz g hf.obj.lt h.zg), hf.size, hf.lock, hf.lv, hf.sm, hf.once⟩, h.map.kept hk (hz m h.map.lt h.zm), h.leaves.imp fun v bs hr => hr.kept hk hz, h.keyed, h.fit, h.len, h.short, h.zg, h.zm⟩
theorem TreeAt.zone (h : TreeAt K s0 S w g m es T) (hz : ∀ k, k < w.heap.size → S k → S' k) : TreeAt K s0 S' w g m es T := by
  obtain ⟨cs, hf⟩ := h.frame
  exact ⟨h.frame, h.map, h.leaves.imp fun v bs hr => hr.zone hz, h.keyed, h.fit, h.len, h.short, hz g hf.obj.lt h.zg, hz m h.map.lt h.zm⟩
theorem Tr.kept (h : Tr K s0 S w g T) (hk : Kept Z w w') (hz : ∀ k, k < w.heap.size → S k → ¬ Z k) : Tr K s0 S w' g T := by obtain ⟨m, es, h⟩ := h; exact ⟨m, es, h.kept hk hz⟩
theorem Tr.zone (h : Tr K s0 S w g T) (hz : ∀ k, k < w.heap.size → S k → S' k) : Tr K s0 S' w g T := by obtain ⟨m, es, h⟩ := h; exact ⟨m, es, h.zone hz⟩
theorem Tr.quiet (h : Tr K s0 S w g T) (hb : Below w.heap.size w w') : Tr K s0 S w' g T := h.kept (Z := fun _ => False) (Kept.of_below hb) (fun _ _ _ h => h)
theorem Tr.lt (h : Tr K s0 S w g T) : g < w.heap.size := by obtain ⟨m, es, h⟩ := h; obtain ⟨cs, hf⟩ := h.frame; exact hf.obj.lt
theorem Tr.at (h : Tr K s0 S w g T) : S g := by obtain ⟨m, es, h⟩ := h; exact h.zg
/-- the tree's own block alone has turned. -/
theorem TreeAt.framed (h : TreeAt K s0 S w g m es T) (hk : Kept (· = g) w w') {cs : Array Value} (hf : TFrame K s0 w' g m cs (sumT T)) : TreeAt K s0 S w' g m es T := by
  obtain ⟨cs0, hf0⟩ := h.frame
  have hm : m ≠ g := fun e => by
    obtain ⟨es', clock, h1, _⟩ := h.map
    have := hf0.obj
    unfold Has at this
    rw [e, this] at h1
    cases h1
  refine ⟨⟨cs, hf⟩, h.map.kept hk hm, h.leaves.imp fun v bs hr => ?_, h.keyed, h.fit, h.len, h.short, h.zg, h.zm⟩
  obtain ⟨a, c, e, h1, h2, h3⟩ := hr
  exact ⟨a, c, e, h1, h2, fun hl => by
    obtain ⟨bg, bo, cur, e2, hs, hh, hc⟩ := h3 hl
    exact ⟨bg, bo, cur, e2, hs, hh.kept hk (hh.ne hf0.obj (by decide)), hc⟩⟩
end
end Go.Proofs.YtcpomddkehhkkaaDoor
