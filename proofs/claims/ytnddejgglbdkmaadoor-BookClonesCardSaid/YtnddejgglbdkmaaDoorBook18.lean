/- Settle for a caller; an offer with a lock, as the laws build it. -/
import Derived.Test.YtnddejgglbdkmaaDoorBook17
import Derived.Test.YtnddejgglbdkmaaDoorBook15
namespace Go.Proofs.YtnddejgglbdkmaaDoor
set_option linter.unusedVariables false
set_option linter.unusedSimpArgs false
open Go.ChangeShapes Go.WideShapes Go.ChangeAt Go.RowKit Go.Maps

def settleE (K s0 : List Wd) (b : Bk) (f n : Int) (sec : List Nat) : Int := if findI b.offers f n < 0 then 5 else if digest K s0 sec = (b.at (findI b.offers f n)).lock then 0 else 31
def settleN (K s0 : List Wd) (b : Bk) (f n : Int) (sec : List Nat) : Bk := if settleE K s0 b f n sec = 0 then giveB b (findI b.offers f n).toNat (1 - (b.at (findI b.offers f n)).frm) (b.at (findI b.offers f n)) else b
theorem find_cases (os : List Off) (f n : Int) : findI os f n = -1 ∨ ∃ (k : Nat) (o : Off), os[k]? = some o ∧ findI os f n = k := by
  by_cases hx : ∃ (k : Nat) (o : Off), os[k]? = some o ∧ (o.frm = f ∧ o.no = n) ∧ ∀ (j : Nat) (p : Off), j < k → os[j]? = some p → ¬ (p.frm = f ∧ p.no = n)
  · obtain ⟨k, o, hk, ho, hno⟩ := hx
    exact .inr ⟨k, o, hk, findI_at os f n k o hk ho hno⟩
  · refine .inl (findI_none os f n ?_)
    intro o ho hc
    obtain ⟨j, hj⟩ := List.getElem?_of_mem ho
    have : ∀ t : Nat, ∀ j o, j ≤ t → os[j]? = some o → ¬ (o.frm = f ∧ o.no = n) := by
      intro t
      induction t with
      | zero =>
        intro j o hj ho hc
        exact hx ⟨j, o, ho, hc, fun j' p hj' => absurd hj' (by omega)⟩
      | succ t ih =>
        intro j o hj ho hc
        exact hx ⟨j, o, ho, hc, fun j' p hj' hp => ih j' p (by omega) hp⟩
    exact this j j o (Nat.le_refl _) hj hc
section
variable {N : Nat} {w0 w : World} {g : Nat} {b : Bk}
theorem live_settle (K s0 : List Wd) (hT : Tabs K s0 w) (h : Live N w0 w g b) (hN : N ≤ w0.heap.size) (hb : b.ok) (f n : Int) (sec : List Nat) (hsec : IsHash sec) (hs : ∀ o ∈ b.offers, isSide o.frm) (hfit : ∀ o ∈ b.offers, b.has (1 - o.frm) o.id + o.am < 18446744073709551616) :
    Calls Tryd.prog 13 #[.pointer (some ⟨g, 0, none⟩), .int .i64 f, .int .i64 n, arr sec] w fun e w' => e = .returned (.int .i64 (settleE K s0 b f n sec)) ∧ Live N w0 w' g (settleN K s0 b f n sec) := by
  have hsz := h.size hN
  obtain ⟨m0, m1, v, hat, hset, hbel⟩ := _root_.id h
  rcases find_cases b.offers f n with hf | ⟨k, o, hk, hf⟩
  · have e1 : settleE K s0 b f n sec = 5 := by unfold settleE; rw [hf]; rfl
    have e2 : settleN K s0 b f n sec = b := by unfold settleN; rw [e1]; rfl
    rw [e1, e2]
    exact (settle_none w g m0 m1 v b f n sec hat hb hf).mono fun e w' he => ⟨he.1, h.quiet hsz he.2⟩
  · have hat9 : b.at k = o := by unfold Bk.at; rw [Int.toNat_natCast, List.getD_eq_getElem?_getD, hk]; rfl
    refine (settle_at K s0 w hT g m0 m1 v b f n sec hsec hat hb k o hk hf (hs o (List.mem_of_getElem? hk)) (hfit o (List.mem_of_getElem? hk))).mono fun e w' he => ?_
    by_cases hc : digest K s0 sec = o.lock
    · have e1 : settleE K s0 b f n sec = 0 := by unfold settleE; rw [hf, if_neg (by omega), hat9, if_pos hc]
      have e2 : settleN K s0 b f n sec = giveB b k (1 - o.frm) o := by unfold settleN; rw [if_pos e1, hf, hat9, Int.toNat_natCast]
      rw [e1, e2]
      obtain ⟨a1, v', a2, a3, a4⟩ := he.2 hc
      exact ⟨a1, Live.step hset hbel hsz a2 a3 fun k e => .inl (a4 ▸ e)⟩
    · have e1 : settleE K s0 b f n sec = 31 := by unfold settleE; rw [hf, if_neg (by omega), hat9, if_neg hc]
      have e2 : settleN K s0 b f n sec = b := by unfold settleN; rw [e1]; rfl
      rw [e1, e2]
      obtain ⟨a1, a2⟩ := he.1 hc
      exact ⟨a1, h.quiet hsz a2⟩
end
/-- a whole array read, guarded or not. -/
theorem wpList_load_rowG {P : Program} {ops : Array Oper} {rest : List Oper} {o : Oper} {a : Act} {w : World} {Q : Exit → Act → World → Prop} (hw : Region.wanted o (yielded ops a.tmps) = true) (ty : TypeId) (x : Operand) (ho : o.op = .load ty x)
    (g : Nat) (hx : a.eval x = .pointer (some ⟨g, 0, none⟩)) (t : TypeId) (cs : Array Value) (fr : Nat × Nat) (d : TypeDesc) (hg : w.heap[g]? = some (.cells cs t fr))
    (hu : P.underlying ty = some d) (hd : (match d with | .struct _ | .array _ _ => true | _ => false) = true) (hi : (P.info? ty).map (·.size) = some cs.size)
    (h : wpList P ops Q rest (a.put o.dst (.agg cs)) w) : wpList P ops Q (o :: rest) a w :=
  BigFrame.wpList_want hw fun _ hK => wp_load_row ty x ho g hx t cs fr d hg hu hd hi (hK _ _ h)
/-- an operation 'build', by what it makes. -/
theorem wpList_build_run {P : Program} {ops : Array Oper} {Q : Exit → Act → World → Prop} {a : Act} {w : World} {rest : List Oper} {o : Oper} (hw : Region.wanted o (yielded ops a.tmps) = true) (t : TypeId) (parts : Array (Nat × Operand)) (ho : o.op = .build t parts)
    (vs : Array (Nat × Value)) (hv : (parts.map fun (i, x) => (i, a.eval x)) = vs) (v : Value) (hrun : (Instr.build t vs).run P w = .ok v w) (h : wpList P ops Q rest (a.put o.dst v) w) : wpList P ops Q (o :: rest) a w := by
  refine BigFrame.wpList_want hw fun K hK => ?_
  unfold Oper.wp
  simp only [execOp, ho, hv, Sem.run_bind, hrun, Result.andThen_ok, Sem.run_pure]
  exact hK _ _ h
theorem build_off (n f : Int) (a : Nat) (D : List Nat) (hD : D.length = 32) (w : World) : (Instr.build 32 #[(0, .int .i64 n), (1, .int .i64 f), (3, .int .u64 (a : Int)), (4, .agg (bcells D).toArray)]).run Tryd.prog w = .ok (.agg (Off.cells ⟨n, f, Z32, a, D, 0⟩).toArray) w := by
  match D, hD with
  | [d0, d1, d2, d3, d4, d5, d6, d7, d8, d9, d10, d11, d12, d13, d14, d15, d16, d17, d18, d19, d20, d21, d22, d23, d24, d25, d26, d27, d28, d29, d30, d31], _ => show _ = _; kernel_rfl
end Go.Proofs.YtnddejgglbdkmaaDoor
