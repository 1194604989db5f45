/- The walk of (*sha.Hasher).Write. -/
import Derived.Test.YtngmpcmeebcdmaaDoorSha2
namespace Go.Proofs.YtngmpcmeebcdmaaDoor
set_option linter.unusedVariables false
set_option linter.unusedSimpArgs false
open Go.ChangeShapes Go.WideShapes Go.ChangeAt Go.RowKit

theorem kept_setRow {g : Nat} (w : World) (cs : Array Value) : Kept (· = g) w (w.setRow g cs) :=
  ⟨rfl, rfl, rfl, by simp [World.setRow], fun k _ hs => setRow_other w g k cs hs⟩

/-- 'copy' into a block that is known whole: what is told of the world behind it is all but that block. -/
theorem copy_kept {P : Program} {o : Oper} {a : Act} {w : World} {K : Act → World → Prop} {Q : Exit → Act → World → Prop} (d s : Operand) (dT sT : TypeId)
    (ho : o.op = .call { callee := .builtin .copy, args := #[d, s], argTypes := #[dT, sT] }) (elem : TypeId) (hu : P.underlying dT = some (.slice elem)) (hsz : (P.info? elem).map (·.size) = some 1)
    (dp sp : Option Addr) (dLen dCap sLen sCap : Nat) (hd : a.eval d = .slice dp dLen dCap) (hs : a.eval s = .slice sp sLen sCap)
    (g off : Nat) (cur : List Value) (t : TypeId) (hg : Has w g t cur.toArray) (cs : List Value) (hn : cs.length = Nat.min sLen dLen)
    (hpos : 0 < cs.length → dp = some ⟨g, off, none⟩ ∧ ∃ ad, sp = some ad ∧ ∀ j v, cs[j]? = some v → w.cell? (ad.add j) = some v)
    (hfit : off + cs.length ≤ cur.length) (h1 : ∀ v ∈ cs, v.oneCell' = true)
    (h : ∀ w', Has w' g t (splice cur off cs).toArray → Kept (· = g) w w' → K (a.put o.dst (goInt cs.length)) w') : Oper.wp P o a w K Q := by
  by_cases h0 : cs.length = 0
  · obtain rfl : cs = [] := List.eq_nil_of_length_eq_zero h0
    have hrun := run_copy_none (P := P) w dT sT o.type elem dp sp dLen dCap sLen sCap hu hsz (by simpa using hn.symm)
    unfold Oper.wp
    simp [execOp, ho, resolve, invoke, builtin, hd, hs, hrun, Result.andThen]
    exact h w (by simpa [splice] using hg) (Kept.refl _ _)
  · obtain ⟨rfl, ad, rfl, hsrc⟩ := hpos (by omega)
    have hrun := run_copy_row (P := P) w dT sT o.type elem g off dLen dCap ad sLen sCap cur.toArray t cs hu hsz hg hn hsrc (by simpa using hfit) h1
    unfold Oper.wp
    simp [execOp, ho, resolve, invoke, builtin, hd, hs, hrun, Result.andThen]
    exact h _ (show _ = _ by simpa [splice] using setRow_heap w g _ _ t _ hg) (kept_setRow w _)

theorem wpList_copy_kept {P : Program} {w : World} {ops : Array Oper} {rest : List Oper} {o : Oper} {a : Act} {Q : Exit → Act → World → Prop} (hgd : o.guard = none) (d s : Operand) (dT sT : TypeId)
    (ho : o.op = .call { callee := .builtin .copy, args := #[d, s], argTypes := #[dT, sT] }) (elem : TypeId) (hu : P.underlying dT = some (.slice elem)) (hsz : (P.info? elem).map (·.size) = some 1)
    (dp sp : Option Addr) (dLen dCap sLen sCap : Nat) (hd : a.eval d = .slice dp dLen dCap) (hs : a.eval s = .slice sp sLen sCap)
    (g off : Nat) (cur : List Value) (t : TypeId) (hg : Has w g t cur.toArray) (cs : List Value) (hn : cs.length = Nat.min sLen dLen)
    (hpos : 0 < cs.length → dp = some ⟨g, off, none⟩ ∧ ∃ ad, sp = some ad ∧ ∀ j v, cs[j]? = some v → w.cell? (ad.add j) = some v)
    (hfit : off + cs.length ≤ cur.length) (h1 : ∀ v ∈ cs, v.oneCell' = true)
    (h : ∀ w', Has w' g t (splice cur off cs).toArray → Kept (· = g) w w' → wpList P ops Q rest (a.put o.dst (goInt cs.length)) w') :
    wpList P ops Q (o :: rest) a w :=
  wpList_plain hgd fun _ hK => copy_kept d s dT sT ho elem hu hsz dp sp dLen dCap sLen sCap hd hs g off cur t hg cs hn hpos hfit h1 fun w' hw hk => hK _ _ (h w' hw hk)

theorem step_copy_kept {P : Program} {ops : Array Oper} {o : Oper} {a : Act} {w : World} {K : Act → World → Prop} {Q : Exit → Act → World → Prop} {E : Prop} (hgd : o.guard = none) (d s : Operand) (dT sT : TypeId)
    (ho : o.op = .call { callee := .builtin .copy, args := #[d, s], argTypes := #[dT, sT] }) (elem : TypeId) (hu : P.underlying dT = some (.slice elem)) (hsz : (P.info? elem).map (·.size) = some 1)
    (dp sp : Option Addr) (dLen dCap sLen sCap : Nat) (hd : a.eval d = .slice dp dLen dCap) (hs : a.eval s = .slice sp sLen sCap)
    (g off : Nat) (cur : List Value) (t : TypeId) (hg : Has w g t cur.toArray) (cs : List Value) (hn : cs.length = Nat.min sLen dLen)
    (hpos : 0 < cs.length → dp = some ⟨g, off, none⟩ ∧ ∃ ad, sp = some ad ∧ ∀ j v, cs[j]? = some v → w.cell? (ad.add j) = some v)
    (hfit : off + cs.length ≤ cur.length) (h1 : ∀ v ∈ cs, v.oneCell' = true)
    (h : ∀ w', Has w' g t (splice cur off cs).toArray → Kept (· = g) w w' → K (a.put o.dst (goInt cs.length)) w') :
    if Region.wanted o (yielded ops a.tmps) = true then Oper.wp P o a w K Q else E := by
  have hw : Region.wanted o (yielded ops a.tmps) = true := by simp [Region.wanted, hgd]
  rw [if_pos hw]
  exact copy_kept d s dT sT ho elem hu hsz dp sp dLen dCap sLen sCap hd hs g off cur t hg cs hn hpos hfit h1 h

/-- cuts of an array of bytes that lies in memory. -/
theorem cut_from {t : TypeId} {n : Nat} (ht : Tryd.prog.underlying t = some (.array (Tryd.prog.arrayLen t) (Tryd.prog.elem t))) (hn : Tryd.prog.arrayLen t = n) (hs : ((sizeOf (Tryd.prog.elem t)).run Tryd.prog : World → _) = fun w => .ok 1 w)
    (w : World) (g o l : Nat) (hl : l < n) : (Instr.sliceAt t (.pointer (some ⟨g, o, none⟩)) (some (.int .i64 (l : Int))) none none).run Tryd.prog w = .ok (.slice (some ⟨g, o + l, none⟩) (n - l) (n - l)) w := by
  rw [run_sliceAt_array_l w t ⟨g, o, none⟩ ht .i64 (l : Int) (by omega) (by omega), hs]
  simp only [Result.andThen, slicedAt, Int.toNat_natCast, Nat.mul_one, hn]
  rw [if_neg (by omega), Addr.add_mid]
theorem cut_to {t : TypeId} {n : Nat} (ht : Tryd.prog.underlying t = some (.array (Tryd.prog.arrayLen t) (Tryd.prog.elem t))) (hn : Tryd.prog.arrayLen t = n) (hs : ((sizeOf (Tryd.prog.elem t)).run Tryd.prog : World → _) = fun w => .ok 1 w)
    (w : World) (g o h : Nat) (hh : h ≤ n) (h0 : 0 < n) : (Instr.sliceAt t (.pointer (some ⟨g, o, none⟩)) none (some (.int .i64 (h : Int))) none).run Tryd.prog w = .ok (.slice (some ⟨g, o, none⟩) h n) w := by
  rw [run_sliceAt_array_h w t ⟨g, o, none⟩ ht .i64 (h : Int) (by omega) (by omega), hs]
  simp only [Result.andThen, slicedAt, Int.toNat_natCast, Nat.mul_one, hn]
  rw [if_neg (by omega), Addr.add_mid]
  simp
theorem cut_mid {t : TypeId} {n : Nat} (ht : Tryd.prog.underlying t = some (.array (Tryd.prog.arrayLen t) (Tryd.prog.elem t))) (hn : Tryd.prog.arrayLen t = n) (hs : ((sizeOf (Tryd.prog.elem t)).run Tryd.prog : World → _) = fun w => .ok 1 w)
    (w : World) (g o l h : Nat) (x y : Int) (hx : x = (l : Int)) (hy : y = (h : Int)) (hl : l ≤ h) (hh : h ≤ n) (hln : l < n) : (Instr.sliceAt t (.pointer (some ⟨g, o, none⟩)) (some (.int .i64 x)) (some (.int .i64 y)) none).run Tryd.prog w = .ok (.slice (some ⟨g, o + l, none⟩) (h - l) (n - l)) w := by
  subst hx hy
  rw [run_sliceAt_array_lh w t ⟨g, o, none⟩ ht .i64 .i64 (l : Int) (h : Int) (by omega) (by omega) (by omega), hs]
  simp only [Result.andThen, slicedAt, Int.toNat_natCast, Nat.mul_one, hn]
  rw [if_neg (by omega), Addr.add_mid]
theorem size1 : ((sizeOf 5).run Tryd.prog : World → _) = fun w => .ok 1 w := by
  funext w; kernel_rfl

/-- the cells of a hasher. -/
def hcells (s : List Wd) (rest : List Nat) (at_ n : Int) : List Value := wcells s ++ (bcells rest ++ [.int .i64 at_, .int .u64 n])
/-- a hasher's own block. -/
def HObj (w : World) (g : Nat) (s : List Wd) (rest : List Nat) (at_ n : Int) : Prop := Has w g 159 (hcells s rest at_ n).toArray ∧ s.length = 8 ∧ rest.length = 64 ∧ ∀ x ∈ rest, x < 256
/-- a hasher that has taken some bytes. -/
def Hsh (K s0 : List Wd) (w : World) (g : Nat) (m : List Nat) : Prop :=
  ∃ rest, HObj w g (eat K (m.length / 64) s0 m) rest ((m.length % 64 : Nat) : Int) (m.length : Nat) ∧ rest.take (m.length % 64) = m.drop (64 * (m.length / 64)) ∧ m.length ≤ 1000000000
/-- bytes that lie somewhere, not in block g. -/
def Bytes (w : World) (g : Nat) (v : Value) (b : List Nat) : Prop :=
  ∃ a c, v = .slice a b.length c ∧ b.length ≤ c ∧ (∀ x ∈ b, x < 256) ∧
    (0 < b.length → ∃ bg bo, a = some ⟨bg, bo, none⟩ ∧ bg ≠ g ∧ ∀ i, i < b.length → w.cell? ⟨bg, bo + i, none⟩ = some (.int .u8 (b.getD i 0 : Nat)))

theorem HObj.facts {w : World} {g : Nat} {s : List Wd} {rest : List Nat} {at_ n : Int} (h : HObj w g s rest at_ n) :
    w.cell? ⟨g, 72, none⟩ = some (.int .i64 at_) ∧ w.cell? ⟨g, 73, none⟩ = some (.int .u64 n) := by
  obtain ⟨hh, hs, hr, _⟩ := h
  constructor
  · refine hh.cell_is ?_
    rw [List.getElem?_toArray, hcells, List.getElem?_append_right (by rw [wcells_length]; omega), List.getElem?_append_right (by rw [wcells_length, bcells_length]; omega), wcells_length, bcells_length, hs, hr]
    rfl
  · refine hh.cell_is ?_
    rw [List.getElem?_toArray, hcells, List.getElem?_append_right (by rw [wcells_length]; omega), List.getElem?_append_right (by rw [wcells_length, bcells_length]; omega), wcells_length, bcells_length, hs, hr]
    rfl
theorem HObj.free {w : World} {g : Nat} {s : List Wd} {rest : List Nat} {at_ n : Int} (h : HObj w g s rest at_ n) (i : Nat) : w.frozen? ⟨g, i, none⟩ = false := h.1.free i
theorem HObj.kept {S : Nat → Prop} {w w' : World} {g : Nat} {s : List Wd} {rest : List Nat} {at_ n : Int} (h : HObj w g s rest at_ n) (hk : Kept S w w') (hg : ¬ S g) : HObj w' g s rest at_ n :=
  ⟨h.1.kept hk hg, h.2⟩
theorem HObj.setAt {w : World} {g : Nat} {s : List Wd} {rest : List Nat} {at_ n : Int} (h : HObj w g s rest at_ n) (x : Int) : HObj (w.setCell ⟨g, 72, none⟩ (.int .i64 x)) g s rest x n := by
  obtain ⟨hh, hs, hr, h4⟩ := h
  refine ⟨?_, hs, hr, h4⟩
  have := hh.set 72 (.int .i64 x)
  rw [List.setIfInBounds_toArray, hcells, List.set_append_right _ _ (by rw [wcells_length]; omega), List.set_append_right _ _ (by rw [wcells_length, bcells_length]; omega), wcells_length, bcells_length, hs, hr] at this
  exact this
theorem HObj.setN {w : World} {g : Nat} {s : List Wd} {rest : List Nat} {at_ n : Int} (h : HObj w g s rest at_ n) (x : Int) : HObj (w.setCell ⟨g, 73, none⟩ (.int .u64 x)) g s rest at_ x := by
  obtain ⟨hh, hs, hr, h4⟩ := h
  refine ⟨?_, hs, hr, h4⟩
  have := hh.set 73 (.int .u64 x)
  rw [List.setIfInBounds_toArray, hcells, List.set_append_right _ _ (by rw [wcells_length]; omega), List.set_append_right _ _ (by rw [wcells_length, bcells_length]; omega), wcells_length, bcells_length, hs, hr] at this
  exact this
theorem HObj.rest {w : World} {g : Nat} {s : List Wd} {rest : List Nat} {at_ n : Int} (h : HObj w g s rest at_ n) (i : Nat) (hi : i < 64) : w.cell? ⟨g, 8 + i, none⟩ = some (.int .u8 (rest.getD i 0 : Nat)) := by
  obtain ⟨hh, hs, hr, _⟩ := h
  refine hh.cell_is ?_
  rw [List.getElem?_toArray, hcells, List.getElem?_append_right (by rw [wcells_length]; omega), List.getElem?_append_left (by rw [wcells_length, bcells_length]; omega), wcells_length, hs, Nat.add_sub_cancel_left, bcells_get _ _ (by omega)]
/-- the rest behind a copy. -/
theorem hcells_splice (s : List Wd) (rest b : List Nat) (at_ n : Int) (o : Nat) (hs : s.length = 8) (hr : rest.length = 64) (ho : o + b.length ≤ 64) :
    splice (hcells s rest at_ n) (8 + o) (bcells b) = hcells s (rest.take o ++ (b ++ rest.drop (o + b.length))) at_ n := by
  unfold splice hcells
  have e8 : (wcells s).length = 8 := by rw [wcells_length, hs]
  have e64 : (bcells rest).length = 64 := by rw [bcells_length, hr]
  rw [List.take_append, List.take_of_length_le (by omega), e8, Nat.add_sub_cancel_left, List.take_append_of_le_length (by omega), bcells_length, List.drop_append, List.drop_eq_nil_of_le (by omega), e8, Nat.add_assoc, Nat.add_sub_cancel_left,
    List.drop_append_of_le_length (by omega)]
  simp [bcells, List.map_take, List.map_drop]
theorem HObj.spliced {w w' : World} {g : Nat} {s : List Wd} {rest b : List Nat} {at_ n : Int} {o : Nat} (h : HObj w g s rest at_ n) (ho : o + b.length ≤ 64) (hb : ∀ x ∈ b, x < 256)
    (hw : Has w' g 159 (splice (hcells s rest at_ n) (8 + o) (bcells b)).toArray) : HObj w' g s (rest.take o ++ (b ++ rest.drop (o + b.length))) at_ n := by
  obtain ⟨_, hs, hr, h4⟩ := h
  rw [hcells_splice s rest b at_ n o hs hr ho] at hw
  refine ⟨hw, hs, by simp; omega, fun x hx => ?_⟩
  rcases List.mem_append.1 hx with hx | hx
  · exact h4 x (List.mem_of_mem_take hx)
  · rcases List.mem_append.1 hx with hx | hx
    · exact hb x hx
    · exact h4 x (List.mem_of_mem_drop hx)
theorem HObj.full {w : World} {g : Nat} {s : List Wd} {rest : List Nat} {at_ n : Int} (h : HObj w g s rest at_ n) :
    8 + 64 ≤ (hcells s rest at_ n).length := by
  simp [hcells, wcells_length, bcells_length, h.2.1, h.2.2.1]
end Go.Proofs.YtngmpcmeebcdmaaDoor
