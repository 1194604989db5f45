/- The plain law of LeafWays: a proof with another leaf, with a node more, with a node less. -/
import Derived.Test.YtngmpcmeebcdmaaDoorLpl
namespace Go.Proofs.YtngmpcmeebcdmaaDoor
set_option linter.unusedVariables false
set_option linter.unusedSimpArgs false

section
variable {K s0 : List Wd} {bare : Nat → Bool} {key : List Nat} {nodes : List Nd} {n0 n1 : Nd}
theorem pfBr_two (h : Nat) (n x : Nd) (u : Nat) : pfBr K s0 key h n x u = .error 10 ∨ ∃ m, pfBr K s0 key h n x u = .ok (m, u) := by
  unfold pfBr
  by_cases c : n.s + x.s < 18446744073709551616
  · rw [if_pos c]; exact .inr ⟨_, rfl⟩
  · rw [if_neg c]; exact .inl rfl
theorem pf_back1 {h : Nat} {p : Nd × Nat} (e : pfAt K s0 bare key nodes n0 (h + 1) = .ok p) : ∃ m u, pfAt K s0 bare key nodes n0 h = .ok (m, u) := by
  cases c : pfAt K s0 bare key nodes n0 h with
  | ok q => exact ⟨q.1, q.2, rfl⟩
  | error x =>
    have := pfAt_err c 1
    rw [this] at e; cases e
/-- a step by the node that is not the empty one. -/
theorem pf_node {h u : Nat} {n m : Nd} {v : Nat} (e : pfAt K s0 bare key nodes n0 h = .ok (n, u)) (hb : bare h = false) (e' : pfAt K s0 bare key nodes n0 (h + 1) = .ok (m, v)) :
    ∃ x, nodes[u]? = some x ∧ ndSame x (emptyNd K s0 h) = false ∧ v = u + 1 ∧ pfBr K s0 key h n x (u + 1) = .ok (m, v) := by
  cases hx : nodes[u]? with
  | none => rw [pfAt_none h e hb hx] at e'; cases e'
  | some x =>
    cases hs : ndSame x (emptyNd K s0 h) with
    | true => rw [pfAt_form h e hb hx hs] at e'; cases e'
    | false =>
      rw [pfAt_node h e hb hx hs] at e'
      exact ⟨x, rfl, hs, (pfBr_ok e').1, e'⟩
theorem pf_bareS {h u : Nat} {n m : Nd} {v : Nat} (e : pfAt K s0 bare key nodes n0 h = .ok (n, u)) (hb : bare h = true) (e' : pfAt K s0 bare key nodes n0 (h + 1) = .ok (m, v)) :
    v = u ∧ pfBr K s0 key h n (emptyNd K s0 h) u = .ok (m, v) := by
  rw [pfAt_bare h e hb] at e'
  exact ⟨(pfBr_ok e').1, e'⟩
/-- by the same proof another leaf comes to a root, too, or its sum does not fit. -/
theorem pf_otherAt : ∀ (h : Nat) {m : Nd} {u : Nat}, pfAt K s0 bare key nodes n0 h = .ok (m, u) → pfAt K s0 bare key nodes n1 h = .error 10 ∨ ∃ m', pfAt K s0 bare key nodes n1 h = .ok (m', u)
  | 0, m, u, e => by
    injection e with e
    injection e with e1 e2
    subst e2
    exact .inr ⟨n1, rfl⟩
  | h + 1, m, v, e => by
    obtain ⟨n, u, e0⟩ := pf_back1 e
    rcases pf_otherAt h e0 with q | ⟨n', q⟩
    · exact .inl (pfAt_err q 1)
    · cases hb : bare h with
      | true =>
        obtain ⟨rfl, -⟩ := pf_bareS e0 hb e
        rcases pfBr_two (K := K) (s0 := s0) (key := key) h n' (emptyNd K s0 h) v with c | ⟨m', c⟩
        · exact .inl (by rw [pfAt_bare h q hb, c])
        · exact .inr ⟨m', by rw [pfAt_bare h q hb, c]⟩
      | false =>
        obtain ⟨x, hx, hs, rfl, -⟩ := pf_node e0 hb e
        rcases pfBr_two (K := K) (s0 := s0) (key := key) h n' x (u + 1) with c | ⟨m', c⟩
        · exact .inl (by rw [pfAt_node h q hb hx hs, c])
        · exact .inr ⟨m', by rw [pfAt_node h q hb hx hs, c]⟩
theorem pf_other {r : Nd} (hr : pfRoot K s0 bare key nodes n0 = .ok r) : pfRoot K s0 bare key nodes n1 = .error 10 ∨ ∃ m, pfRoot K s0 bare key nodes n1 = .ok m ∧ m.s = n1.s + (nodes.map (·.s)).sum := by
  obtain ⟨⟨u, hu, hl⟩, -⟩ := pf_back hr
  rcases pf_otherAt (n1 := n1) 256 hu with q | ⟨m', q⟩
  · exact .inl (pf_err (Nat.le_refl _) q)
  · have h : pfRoot K s0 bare key nodes n1 = .ok m' := by rw [pf_done q, if_neg (Nat.not_lt.2 hl)]
    exact .inr ⟨m', h, pf_sum h⟩
/-- nodes behind those that are used are nothing to the way. -/
theorem pf_appAt (ys : List Nd) : ∀ (h : Nat) {m : Nd} {u : Nat}, pfAt K s0 bare key nodes n0 h = .ok (m, u) → pfAt K s0 bare key (nodes ++ ys) n0 h = .ok (m, u)
  | 0, m, u, e => e
  | h + 1, m, v, e => by
    obtain ⟨n, u, e0⟩ := pf_back1 e
    have q := pf_appAt ys h e0
    cases hb : bare h with
    | true => rw [pfAt_bare h q hb]; exact (pf_bareS e0 hb e).2
    | false =>
      obtain ⟨x, hx, hs, hv, c⟩ := pf_node e0 hb e
      have hx' : (nodes ++ ys)[u]? = some x := by rw [List.getElem?_append_left (List.getElem?_eq_some_iff.1 hx).1]; exact hx
      rw [pfAt_node h q hb hx' hs]; exact c
theorem pf_more {r : Nd} (hr : pfRoot K s0 bare key nodes n0 = .ok r) (y : Nd) : pfRoot K s0 bare key (nodes ++ [y]) n0 = .error 24 := by
  obtain ⟨⟨u, hu, hl⟩, -⟩ := pf_back hr
  have h1 := (pfAt_sum 256 hu).1
  rw [pf_done (pf_appAt [y] 256 hu), if_pos (by rw [List.length_append]; show u < nodes.length + 1; omega)]
theorem pf_lessAt : ∀ (h : Nat) {m : Nd} {u : Nat}, pfAt K s0 bare key nodes n0 h = .ok (m, u) → (u ≤ nodes.length - 1 ∧ pfAt K s0 bare key (nodes.take (nodes.length - 1)) n0 h = .ok (m, u)) ∨ pfAt K s0 bare key (nodes.take (nodes.length - 1)) n0 h = .error 20
  | 0, m, u, e => by
    injection e with e
    injection e with e1 e2
    subst e1 e2
    exact .inl ⟨Nat.zero_le _, rfl⟩
  | h + 1, m, v, e => by
    obtain ⟨n, u, e0⟩ := pf_back1 e
    rcases pf_lessAt h e0 with ⟨hle, q⟩ | q
    · cases hb : bare h with
      | true =>
        obtain ⟨rfl, c⟩ := pf_bareS e0 hb e
        exact .inl ⟨hle, by rw [pfAt_bare h q hb]; exact c⟩
      | false =>
        obtain ⟨x, hx, hs, rfl, c⟩ := pf_node e0 hb e
        have hul := (List.getElem?_eq_some_iff.1 hx).1
        by_cases hlt : u < nodes.length - 1
        · have hx' : (nodes.take (nodes.length - 1))[u]? = some x := by rw [List.getElem?_take, if_pos hlt]; exact hx
          exact .inl ⟨hlt, by rw [pfAt_node h q hb hx' hs]; exact c⟩
        · have hx' : (nodes.take (nodes.length - 1))[u]? = none := by rw [List.getElem?_take, if_neg hlt]
          exact .inr (pfAt_none h q hb hx')
    · exact .inr (pfAt_err q 1)
theorem pf_less {r : Nd} (hr : pfRoot K s0 bare key nodes n0 = .ok r) (hn : 0 < nodes.length) : pfRoot K s0 bare key (nodes.take (nodes.length - 1)) n0 = .error 20 := by
  obtain ⟨⟨u, hu, hl⟩, -⟩ := pf_back hr
  rcases pf_lessAt 256 hu with ⟨h, -⟩ | q
  · omega
  · exact pf_err (Nat.le_refl _) q
end
/-- what Of says of a leaf that may be, by a proof that leads to a root. -/
theorem ofE_any {K s0 : List Wd} {l : LeafT} {bb : List Nat} {xs : List Nd} (h1 : leafBad l = false) : ofE K s0 l bb xs = ((chkE (pfRoot K s0 (bareB bb) (placeK K s0 l.pl.toNat) xs (leafNd K s0 (l.id ++ l.ow) l.am)) l.sp : Nat) : Int) := by
  unfold ofE
  rw [h1, if_neg (by decide)]
/-- a leaf of a transfer by its proof: with a node more, with one less, with another amount. -/
theorem of_more {ls : List LeafT} (hok : ∀ l ∈ ls, l.ok) (hn : ls.length ≤ 8) {T : List Lf} (hT : tlAt KS SS ls ls.length = .ok T) {i : Nat} {l : LeafT} (hi : ls[i]? = some l) {bb : List Nat} {a : Option Addr} {n : Nat} {w : World} (hp : ProofOf KS SS T (placeK KS SS i) bb a n w) (r : Nd) (hr : r = partNd KS SS 256 T)
    (xs : List Nd) (hx : xs = nodesF KS SS (besF KS SS T (placeK KS SS i)) 256) :
    ofE KS SS (spF r i l) bb xs = 0 ∧ (∀ y, ofE KS SS (spF r i l) bb (xs ++ [y]) = 24) ∧ (0 < xs.length → ofE KS SS (spF r i l) bb (xs.take (xs.length - 1)) = 20) ∧
      ∀ am, am < 18446744073709551616 → leafBad (amF am (spF r i l)) = false → am ≠ l.am → ofE KS SS (amF am (spF r i l)) bb xs = 30 ∨ ofE KS SS (amF am (spF r i l)) bb xs = 10 := by
  obtain ⟨h1, h2, h3⟩ := of_way hok hn hT hi hp.bits
  rw [← hr] at h1 h2
  rw [← hx] at h2
  have e1 : (spF r i l).pl.toNat = i := by show l.pl.toNat = i; rw [h3]; rfl
  have hb : leafBad (spF r i l) = false := h1
  refine ⟨?_, fun y => ?_, fun hpos => ?_, fun am ham hbad hne => ?_⟩
  · exact ofE_ok h1 h2 h3
  · rw [ofE_any hb, e1, show (spF r i l).id = l.id from rfl, show (spF r i l).ow = l.ow from rfl, show (spF r i l).am = l.am from rfl, pf_more h2 y]
    rfl
  · rw [ofE_any hb, e1, show (spF r i l).id = l.id from rfl, show (spF r i l).ow = l.ow from rfl, show (spF r i l).am = l.am from rfl, pf_less h2 hpos]
    rfl
  · rw [ofE_any hbad]
    have e2 : (amF am (spF r i l)).pl.toNat = i := e1
    rw [e2, show (amF am (spF r i l)).id = l.id from rfl, show (amF am (spF r i l)).ow = l.ow from rfl, show (amF am (spF r i l)).am = am from rfl, show (amF am (spF r i l)).sp = r from rfl]
    rcases pf_other (n1 := leafNd KS SS (l.id ++ l.ow) am) h2 with q | ⟨m, q, hs⟩
    · rw [q]; exact .inr rfl
    · rw [q, chk_ok]
      have hrs := pf_sum h2
      have : ¬ ndSame m r = true := fun e => by
        have := ndSame_iff.1 e
        subst this
        have e3 : (leafNd KS SS (l.id ++ l.ow) am).s = am := rfl
        have e4 : (leafNd KS SS (l.id ++ l.ow) l.am).s = l.am := rfl
        omega
      rw [if_neg this]
      exact .inl rfl
theorem of_bad {K s0 : List Wd} {l : LeafT} {bb : List Nat} {xs : List Nd} (h : leafBad l = true) : ofE K s0 l bb xs = 1 := by unfold ofE; rw [if_pos h]
end Go.Proofs.YtngmpcmeebcdmaaDoor
