/- A tree for a caller: Put, Root, Keys; what a nil tree answers. -/
import Derived.Test.YtknfbccbdiidjaaGreatDoorWs
import Derived.Test.YtknfbccbdiidjaaGreatDoorRTree12
import Derived.Lib.SlBytesConst
import Derived.Test.YtknfbccbdiidjaaGreatDoorRMap4
import Derived.Test.YtknfbccbdiidjaaGreatDoorRMsum3
import Derived.Deep.CutBlock
import Derived.DeepKeys
import Derived.ChangeKeysEq
import Derived.Laws.StructEq
namespace Go.Proofs.YtknfbccbdiidjaaGreatDoor
set_option linter.unusedVariables false
set_option linter.unusedSimpArgs false
open Go.ChangeShapes Go.WideShapes Go.ChangeAt Go.RowKit Go.Maps

section
variable {K s0 : List Wd} {S : Nat → Prop} {w : World} {g : Nat} {T : List Lf}
theorem tr_put (h : Tr K s0 S w g T) (hl8 : s0.length = 8) (hn : ∀ k, w.heap.size ≤ k → S k) (l : Lf) (hk : IsHash l.k) (v : Value) (hv : Bytes w w.heap.size v l.v) (hs : l.s < 18446744073709551616) (hlen : l.v.length ≤ 1000000) :
  Calls Tryz.prog 43 #[.pointer (some ⟨g, 0, none⟩), arr l.k, leafV v l.s] w fun e w' => e = .returned (.int .i64 (putE T l)) ∧ Tr K s0 S w' g (putN T l) ∧ Kept S w w' := by
 obtain ⟨m, es, h⟩ := h
 exact (putT_is K s0 hl8 S w g m es T h hn l hk v hv hs hlen).mono fun e w' ⟨h1, ⟨es', h2⟩, h3⟩ => ⟨h1, ⟨m, es', h2⟩, h3.mono fun k _ e => e.elim (fun e => e ▸ h.zg) (fun e => e ▸ h.zm)⟩
theorem tr_root (h : Tr K s0 S w g T) (hT : Tabs K s0 w) (hlow : 2 + 1 ≤ g) :
  Calls Tryz.prog 46 #[.pointer (some ⟨g, 0, none⟩)] w fun e w' => e = .returned (.agg (ndV (partNd K s0 256 T)).toArray) ∧ Tr K s0 S w' g T ∧ Kept S w w' := by
 obtain ⟨m, es, h⟩ := h
 exact (root_at K s0 S hlow w hT h).mono fun e w' ⟨h1, h2, h3⟩ => ⟨h1, ⟨m, es, h2⟩, h3.mono fun k _ e => by rw [show k = g from e]; exact h.zg⟩
theorem Tr.keyed (h : Tr K s0 S w g T) : Keyed (T.map (·.k)) := by obtain ⟨m, es, h⟩ := h; exact h.keyed
theorem Tr.sum (h : Tr K s0 S w g T) : sumT T < 18446744073709551616 := by obtain ⟨m, es, h⟩ := h; exact h.fit
theorem root_sum (h : Tr K s0 S w g T) : (partNd K s0 256 T).s = sumT T := part_sum K s0 256 T h.keyed (coh_top _)
end
end Go.Proofs.YtknfbccbdiidjaaGreatDoor

/- The laws' head: one leaf in a tree. -/
namespace Go.Proofs.YtknfbccbdiidjaaGreatDoor
set_option linter.unusedVariables false
set_option linter.unusedSimpArgs false
open Go.ChangeShapes Go.WideShapes Go.ChangeAt Go.RowKit Go.Maps

def K5 : List Nat := 5 :: List.replicate 31 0
def l5 : Lf := ⟨K5, [97], 7⟩
end Go.Proofs.YtknfbccbdiidjaaGreatDoor

/- The walks of Get and Drop. -/
namespace Go.Proofs.YtknfbccbdiidjaaGreatDoor
set_option linter.unusedVariables false
set_option linter.unusedSimpArgs false
open Go.ChangeShapes Go.WideShapes Go.ChangeAt Go.RowKit Go.Maps

def valT (T : List Lf) (k : List Nat) : List Nat := match findT T k with | some l => l.v | none => []
theorem Leaves.ask2 {S : Nat → Prop} {w : World} {es : List Ent} {T : List Lf} (h : Leaves S w es T) (k : List Nat) :
  ∃ (a0 : Option Addr) (n0 c0 ws : Nat) (kn : Bool), (look es k).getD (leafV (.slice none 0 0) 0) = .agg #[.slice a0 n0 c0, .int .u64 (ws : Int)] ∧ (look es k).isSome = kn ∧ ws = wasS T k ∧ kn = (findT T k).isSome ∧ RowB S w (.slice a0 n0 c0) (valT T k) := by
 obtain ⟨a0, n0, c0, ws, kn, h1, h2, h3, h4, h5⟩ := h.ask k
 cases hf : findT T k with
 | some l =>
  refine ⟨a0, n0, c0, ws, kn, h1, h2, h3, by rw [h4, hf], ?_⟩
  unfold valT
  rw [hf]
  exact (h5 l hf).1
 | none =>
  refine ⟨none, 0, 0, 0, false, ?_, ?_, ?_, by rfl, ?_⟩
  · rcases h.look_ k with ⟨e1, e2⟩ | ⟨v, l, e1, e2, e3⟩
    · rw [e1]; rfl
    · rw [e2] at hf; cases hf
  · rcases h.look_ k with ⟨e1, e2⟩ | ⟨v, l, e1, e2, e3⟩
    · rw [e1]; rfl
    · rw [e2] at hf; cases hf
  · unfold wasS; rw [hf]
  · unfold valT; rw [hf]; exact RowB.nil _ _ _ _

section
variable {K s0 : List Wd} {S : Nat → Prop} {g m : Nat} {es : List Ent} {T : List Lf}
structure Asked (K s0 : List Wd) (S : Nat → Prop) (g m : Nat) (T : List Lf) (k : List Nat) (w : World) (LK : List Value) (a0 : Option Addr) (n0 c0 ws st : Nat) (kn : Bool) : Prop where
 lk : ∀ w', Below w.heap.size w w' → (Instr.lookup 149 (.map (some m)) (.agg LK.toArray) true).run Tryz.prog w' = .ok (.tuple #[.agg #[.slice a0 n0 c0, .int .u64 (ws : Int)], .bool kn]) w'
 gl : ∀ w', Below w.heap.size w w' → w'.cell? ⟨g, 8484, none⟩ = some (.map (some m)) ∧ w'.cell? ⟨g, 8485, none⟩ = some (.int .u64 (st : Int))
 ws : ws = wasS T k
 st : st = sumT T
 kn : kn = (findT T k).isSome
 row : RowB S w (.slice a0 n0 c0) (valT T k)
theorem asked (w : World) (htr : TreeAt K s0 S w g m es T) (k : List Nat) (hk : IsHash k) (LK : List Value) (hLK : LK = bcells k) : ∃ a0 n0 c0 ws st kn, Asked K s0 S g m T k w LK a0 n0 c0 ws st kn := by
 obtain ⟨a0, n0, c0, ws, kn, hlook, hsome, hws, hkn, hrow⟩ := htr.leaves.ask2 k
 obtain ⟨cs, hf⟩ := htr.frame
 refine ⟨a0, n0, c0, ws, sumT T, kn, fun w' hb => ?_, fun w' hb => ⟨(hf.obj.below hb hf.obj.lt).cell_is hf.lv, (hf.obj.below hb hf.obj.lt).cell_is hf.sm⟩, hws, rfl, hkn, hrow⟩
 have := lookup_ok_is (T := 149) Tryz.underlying149 zero_leaf (htr.map.kept (Kept.of_below (S := fun _ => False) hb) (fun h => h)) hk
 rw [hlook, hsome] at this
 rw [hLK]; exact this

end
end Go.Proofs.YtknfbccbdiidjaaGreatDoor
/- Digests of 32 bytes compared; structs compared field by field. -/
namespace Go.Proofs.YtknfbccbdiidjaaGreatDoor
set_option linter.unusedVariables false
set_option linter.unusedSimpArgs false
open Go.ChangeShapes Go.WideShapes Go.ChangeAt Go.RowKit Go.Maps

theorem key_top {P : Program} {t n e : TypeId} (hu : P.underlying t = some (.array n e)) {v : Value} {l : Lit} (h : keyOf P t v = some l) : v.formed P t = true ∧ ∃ L, P.keyLits (P.types.size + 1) t v.cells.toList = some L ∧ l = .string (keyBytes L) := by
 unfold keyOf at h
 rw [hu] at h
 simp only at h
 split at h
 · rename_i hf
   simp only [Option.map_eq_some_iff] at h
   obtain ⟨L, h1, h2⟩ := h
   simp only [Bool.and_eq_true] at hf
   exact ⟨hf.2, L, h1, h2.symm⟩
 · cases h
theorem part_agg {P : Program} {t n e k : TypeId} (hu : P.underlying t = some (.array n e)) (hc : P.cellsOf t = k) (zs : Array Value) (off : Nat) (w : World) : (part t zs off).run P w = .ok (.agg (zs.extract off (off + k))) w := by
 obtain ⟨i, hi⟩ := info_of_underlying hu
 subst hc
 simp [part, isAgg, run_underlying hu, run_sizeOf w hi]
theorem hash_eq_at (d : Nat) (a b : List Nat) (ha : IsHash a) (hb : IsHash b) (w : World) : (Op.equalIn (d + 2) 27 (.agg (bcells a).toArray) (.agg (bcells b).toArray)).run Tryz.prog w = .ok (decide (a = b)) w := by
 obtain ⟨la, hla⟩ := key_some a ha
 obtain ⟨lb, hlb⟩ := key_some b hb
 obtain ⟨fa, La, ka, ea⟩ := key_top Tryz.underlying27 hla
 obtain ⟨fb, Lb, kb, eb⟩ := key_top Tryz.underlying27 hlb
 obtain ⟨r, hr, hiff⟩ := run_equalIn_deep (P := Tryz.prog) d 2 27 (by kernel_rfl) w _ _ (arr a) (arr b) La Lb fa fb ka kb
 have hab : La = Lb ↔ a = b := ⟨fun e => arr_inj (hashKey.inj hla (by rw [ea, e, ← eb]; exact hlb)), fun e => by
  subst e
  rw [ka] at kb
  exact Option.some.inj kb⟩
 have e : r = decide (a = b) := by
  by_cases hc : a = b
  · rw [decide_eq_true hc]; exact hiff.2 (hab.2 hc)
  · rw [decide_eq_false hc]
    cases r with
    | false => rfl
    | true => exact absurd (hab.1 (hiff.1 rfl)) hc
 rw [← e]; exact hr
theorem eqF_any {P : Program} {d : Nat} {xs ys : Array Value} {f : Field} {fs : List Field} {w : World} {va vb : Value} {r : Bool} (hn : f.name ≠ "_") (hx : (part f.type xs f.offset).run P w = .ok va w) (hy : (part f.type ys f.offset).run P w = .ok vb w)
  (he : (Op.equalIn d f.type va vb).run P w = .ok r w) : (Op.eqFields d xs ys (f :: fs)).run P w = if r = true then (Op.eqFields d xs ys fs).run P w else .ok false w := by
 simp only [Op.eqFields, if_pos hn, Sem.run_bind, hx, hy, he, Result.andThen_ok]
 cases r <;> simp
theorem eqF_nil {P : Program} {d : Nat} {xs ys : Array Value} {w : World} : (Op.eqFields d xs ys []).run P w = .ok true w := by simp [Op.eqFields]
theorem part_int {P : Program} {t : TypeId} {k : IntKind} (hu : P.underlying t = some (.int k)) {xs : Array Value} {off : Nat} {v : Value} (hx : xs[off]? = some v) (w : World) : (part t xs off).run P w = .ok v w :=
 run_part_plain w (by unfold Program.plainKey; rw [hu]) hx
theorem extract_list (l : List Value) (i n : Nat) : l.toArray.extract i (i + n) = ((l.drop i).take n).toArray := by
 apply Array.toList_inj.1
 rw [Array.toList_extract]
 simp [List.extract]
end Go.Proofs.YtknfbccbdiidjaaGreatDoor

/- The reference's nodes compared: one is like itself. -/
namespace Go.Proofs.YtknfbccbdiidjaaGreatDoor
set_option linter.unusedVariables false
set_option linter.unusedSimpArgs false
open Go.ChangeShapes Go.WideShapes Go.ChangeAt Go.RowKit Go.Maps

theorem mn_fields : ∃ f0 f1, (Tryz.prog.fieldsOf 30).toList = [f0, f1] ∧ (f0.name ≠ "_" ∧ f0.type = 27 ∧ f0.offset = 0) ∧ (f1.name ≠ "_" ∧ f1.type = 28 ∧ f1.offset = 32) := by
 unfold Program.fieldsOf
 rw [Tryz.underlying30]
 exact ⟨_, _, rfl, ⟨by decide, rfl, rfl⟩, ⟨by decide, rfl, rfl⟩⟩
theorem mn_struct : Tryz.prog.underlying 30 = some (.struct (Tryz.prog.fieldsOf 30)) := by
 unfold Program.fieldsOf
 rw [Tryz.underlying30]
end Go.Proofs.YtknfbccbdiidjaaGreatDoor
