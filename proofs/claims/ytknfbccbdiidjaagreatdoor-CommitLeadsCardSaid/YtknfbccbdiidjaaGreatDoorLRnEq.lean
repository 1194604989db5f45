/- The walk of Put. -/
import Derived.Test.YtknfbccbdiidjaaGreatDoorWu
import Derived.Test.YtknfbccbdiidjaaGreatDoorLTree11
import Derived.Deep.Cut
import Derived.Deep.CutRange
import Derived.Lib.SlBytesConst
import Derived.Test.YtknfbccbdiidjaaGreatDoorLBits
import Derived.Deep.CutBlock
import Derived.DeepKeys
import Derived.ChangeKeysEq
import Derived.Laws.StructEq
namespace Go.Proofs.YtknfbccbdiidjaaGreatDoor
set_option linter.unusedVariables false
set_option linter.unusedSimpArgs false
open Go.ChangeShapes Go.WideShapes Go.ChangeAt Go.RowKit Go.Maps

def putE (T : List Lf) (l : Lf) : Int := if l.v.length = 0 ∧ l.s = 0 then 1 else if 65536 < l.v.length then 3 else if findT T l.k = none ∧ 256 ≤ T.length then 4 else if sumT T - wasS T l.k + l.s < 18446744073709551616 then 0 else 10
def putN (T : List Lf) (l : Lf) : List Lf := if putE T l = 0 then putT T l else T
def PutP (K s0 : List Wd) (S : Nat → Prop) (w : World) (g m : Nat) (T : List Lf) (l : Lf) (e : Ending) (w' : World) : Prop :=
 e = .returned (.int .i64 (putE T l)) ∧ (∃ es', TreeAt K s0 S w' g m es' (putN T l)) ∧ Kept (fun k => k = g ∨ k = m) w w'
theorem zero_leaf (w : World) : (zeroValue 50).run Tryz.prog w = .ok (leafV (.slice none 0 0) 0) w := by kernel_rfl
theorem Leaves.ask {S : Nat → Prop} {w : World} {es : List Ent} {T : List Lf} (h : Leaves S w es T) (k : List Nat) :
   ∃ (a0 : Option Addr) (n0 c0 ws : Nat) (kn : Bool), (look es k).getD (leafV (.slice none 0 0) 0) = .agg #[.slice a0 n0 c0, .int .u64 (ws : Int)] ∧ (look es k).isSome = kn ∧ ws = wasS T k ∧ kn = (findT T k).isSome ∧ ∀ l, findT T k = some l → RowB S w (.slice a0 n0 c0) l.v ∧ n0 = l.v.length ∧ ws = l.s := by
 rcases h.look_ k with ⟨h1, h2⟩ | ⟨v, l, h1, h2, h3⟩
 · exact ⟨none, 0, 0, 0, false, by rw [h1]; rfl, by rw [h1]; rfl, by unfold wasS; rw [h2], by rw [h2]; rfl, fun l e => by rw [h2] at e; cases e⟩
 · obtain ⟨a, c, rfl, h4⟩ := id h3
   exact ⟨a, _, c, l.s, true, by rw [h1]; rfl, by rw [h1]; rfl, by unfold wasS; rw [h2], by rw [h2]; rfl, fun l' e => by
    rw [h2] at e
    injection e with e
    subst e
    exact ⟨h3, rfl, rfl⟩⟩

set_option maxRecDepth 100000 in
set_option maxHeartbeats 8000000 in
theorem putT_is (K s0 : List Wd) (hl8 : s0.length = 8) (S : Nat → Prop) (w : World) (g m : Nat) (es : List Ent) (T : List Lf) (htr : TreeAt K s0 S w g m es T) (hn : ∀ k, w.heap.size ≤ k → S k) (l : Lf) (hk : IsHash l.k) (v : Value) (hv : Bytes w w.heap.size v l.v) (hs : l.s < 18446744073709551616) (hlen : l.v.length ≤ 1000000) :
   Calls Tryz.prog 43 #[.pointer (some ⟨g, 0, none⟩), arr l.k, leafV v l.s] w (PutP K s0 S w g m T l) := by
 obtain ⟨a, c, rfl, hv2⟩ := id hv
 have hkl : (bcells l.k).length = 32 := by rw [bcells_length, hk.1]
 obtain ⟨LK, hLK⟩ : ∃ L, L = bcells l.k := ⟨_, rfl⟩
 obtain ⟨n, hnn⟩ : ∃ n, n = l.v.length := ⟨_, rfl⟩
 obtain ⟨s, hss⟩ : ∃ s, s = l.s := ⟨_, rfl⟩
 obtain ⟨st, hst⟩ : ∃ x, x = sumT T := ⟨_, rfl⟩
 obtain ⟨a0, n0, c0, ws, kn, Ao, Aq, hws, hkn, -⟩ := htr.leaves.ask l.k
 have hle : ws ≤ st := by rw [hws, hst]; exact was_le T l.k
 have Bf := htr.fit
 rw [← hst] at Bf
 obtain ⟨sr, hsr⟩ : ∃ x, x = st - ws := ⟨_, rfl⟩
 obtain ⟨cs, hf⟩ := htr.frame
 have Ae := hf.obj.lt
 have Bg := htr.map.lt
 have hmg : m ≠ g := fun e => by
   obtain ⟨es', clock, h1, _⟩ := htr.map
   have := hf.obj
   unfold Has at this
   rw [e, this] at h1
   cases h1
 have Ay : es.length = T.length := by
   have := congrArg List.length htr.leaves.keys
   rw [List.length_map, List.length_map] at this
   exact this
 have hT256 := htr.len
 obtain ⟨en, hen⟩ : ∃ x, x = es.length := ⟨_, rfl⟩
 have Bx := Hh (show (Tryz.prog.info? 27).map (·.size) = some LK.length by rw [hLK, hkl]; kernel_rfl)
 have Ca := Hh (show (Tryz.prog.info? 50).map (·.size) = some (#[Value.slice a0 n0 c0, .int .u64 (ws : Int)] : Array Value).size by kernel_rfl)
 have Bt := Hh (show (#[Value.slice a0 n0 c0, .int .u64 (ws : Int)] : Array Value).all (·.oneCell') = true by kernel_rfl)
 have hb1 := (Has.new w 27 LK.toArray).alloc (.cells #[.slice a n c, .int .u64 (s : Int)] 50)
 have hb2 := Has.new (w.alloc (.cells LK.toArray 27)) 50 #[.slice a n c, .int .u64 (s : Int)]
 have s1 : ∀ (x : World) o, (x.alloc o).heap.size = x.heap.size + 1 := fun x o => by simp
 rw [s1] at hb2
 have Be := ((Below.refl w.heap.size w).alloc (Nat.le_refl _) (.cells LK.toArray 27)).alloc (by rw [s1]; omega) (.cells #[.slice a n c, .int .u64 (s : Int)] 50)
 have hlk : ∀ w', Below w.heap.size w w' → (Instr.lookup 149 (.map (some m)) (.agg LK.toArray) true).run Tryz.prog w' = .ok (.tuple #[.agg #[.slice a0 n0 c0, .int .u64 (ws : Int)], .bool kn]) w' := fun w' hb => by
   have := lookup_ok_is (T := 149) Tryz.underlying149 zero_leaf (htr.map.kept (Kept.of_below (S := fun _ => False) hb) (fun h => h)) hk
   rw [Ao, Aq] at this
   rw [hLK]; exact this
 have hgl : ∀ w', Below w.heap.size w w' → w'.cell? ⟨g, 8484, none⟩ = some (.map (some m)) ∧ w'.cell? ⟨g, 8485, none⟩ = some (.int .u64 (st : Int)) := fun w' hb => ⟨(hf.obj.below hb Ae).cell_is hf.lv, (hf.obj.below hb Ae).cell_is (by rw [hst]; exact hf.sm)⟩
 have hln : ∀ w' ty, Below w.heap.size w w' → (Builtin.len_ #[149] ty #[.map (some m)]).run Tryz.prog w' = .ok (goInt en) w' := fun w' ty hb => by rw [hen]; exact len_map (htr.map.kept (Kept.of_below (S := fun _ => False) hb) (fun h => h)) ty
 have Ar : ∀ w', Below w.heap.size w w' → putE T l ≠ 0 → ∀ x, x = putE T l → PutP K s0 S w g m T l (.returned (.int .i64 x)) w' := fun w' hb hne x hx => by
   subst hx
   refine ⟨rfl, ⟨es, ?_⟩, (Kept.of_below hb).mono (fun _ _ h => h)⟩
   unfold putN
   rw [if_neg hne]
   exact htr.kept (Kept.of_below (S := fun _ => False) hb) (fun _ _ _ h => h)
 have An : ∀ (w5 : World) (v' : Value), Below w.heap.size w w5 → putE T l = 0 → RowB (fun k => w.heap.size ≤ k) w5 v' l.v → ∃ w6 v0 sti, (Instr.mapEntry 149 (.map (some m)) (.agg LK.toArray)).run Tryz.prog w5 = .ok (.tuple #[v0, .int .i64 sti]) w6 ∧ Kept (· = m) w5 w6 ∧
     ∃ w7, (Instr.entryStore 149 (.map (some m)) (.int .i64 sti) (leafV v' l.s)).run Tryz.prog w6 = .ok () w7 ∧ Kept (· = m) w5 w7 ∧ PutP K s0 S w g m T l (.returned (.int .i64 0)) (w7.setCell ⟨g, 8485, none⟩ (.int .u64 ((sr + s : Nat) : Int))) := fun w5 v' hb he hr => by
   obtain ⟨w6, v0, sti, q1, q2, -, q4⟩ := entry_is (T := 149) Tryz.underlying149 zero_leaf (htr.map.kept (Kept.of_below (S := fun _ => False) hb) (fun h => h)) hk
   obtain ⟨w7, q5, q6, q7⟩ := q4 (leafV v' l.s)
   refine ⟨w6, v0, sti, by rw [hLK]; exact q1, q2, w7, q5, q7, ⟨by rw [he], ⟨putL es l.k (leafV v' l.s), ?_⟩, ?_⟩⟩
   · unfold putN
     rw [if_pos he]
     have h7 : Has w7 g 163 cs := (hf.obj.below hb Ae).kept q7 (fun e => hmg e.symm)
     have hk8 : Kept (· = g) w7 (w7.setCell ⟨g, 8485, none⟩ (.int .u64 ((sr + s : Nat) : Int))) := (Kept.refl (· = g) w7).set (p := ⟨g, 8485, none⟩) (.inl rfl) _
     have hpE := he
     unfold putE at hpE
     have Bj : sumT (putT T l) = sr + s := by
       have := sum_put T l
       rw [← hws, ← hst, ← hss] at this
       omega
     split at hpE
     · cases hpE
     · split at hpE
       · cases hpE
       · next hshort =>
         split at hpE
         · cases hpE
         · next hroom =>
           split at hpE
           · next hfits =>
             have Bu : Leaves S (w7.setCell ⟨g, 8485, none⟩ (.int .u64 ((sr + s : Nat) : Int))) (putL es l.k (leafV v' l.s)) (putT T l) := by
               have far : ∀ {S' : Nat → Prop} {v bs}, RowB S' w5 v bs → RowB S' (w7.setCell ⟨g, 8485, none⟩ (.int .u64 ((sr + s : Nat) : Int))) v bs := fun {S' v bs} hr' => by
                 obtain ⟨a', c', e, h1, h2, h3⟩ := hr'
                 refine ⟨a', c', e, h1, h2, fun hl => ?_⟩
                 obtain ⟨bg, bo, cur, e2, hz, hh, hc⟩ := h3 hl
                 have hbm : bg ≠ m := fun e => by
                  obtain ⟨es', clock, h1, _⟩ := htr.map.kept (Kept.of_below (S := fun _ => False) hb) (fun h => h)
                  unfold Has at hh
                  rw [e, h1] at hh
                  cases hh
                 have hbg : bg ≠ g := hh.ne (hf.obj.below hb Ae) (by decide)
                 exact ⟨bg, bo, cur, e2, hz, (hh.kept q7 hbm).kept hk8 hbg, hc⟩
               refine Leaves.put ?_ (htr.leaves.imp fun v bs hr' => far (hr'.kept (Kept.of_below (S := fun _ => False) hb) (fun _ _ _ h => h)))
               exact (far hr).zone (fun k _ h => hn k h)
             refine ⟨⟨_, h7.set 8485 _, by rw [Array.size_setIfInBounds]; exact hf.size, by rw [Array.getElem?_setIfInBounds_ne (by decide)]; exact hf.lock, by rw [Array.getElem?_setIfInBounds_ne (by decide)]; exact hf.lv, by rw [Array.getElem?_setIfInBounds_self_of_lt (by rw [hf.size]; decide), Bj], ?_⟩, q6.kept hk8 hmg, Bu, htr.keyed.put hk, by rw [Bj, hsr, hst, hws, hss]; exact hfits, ?_, fun t ht => ?_, htr.zg, htr.zm⟩
             · rcases hf.once with h | ⟨h1, h2⟩
               · exact .inl (by rw [Array.getElem?_setIfInBounds_ne (by decide)]; exact h)
               · refine .inr ⟨by rw [Array.getElem?_setIfInBounds_ne (by decide)]; exact h1, fun h hh j u hu => ?_⟩
                 have hj := (List.getElem?_eq_some_iff.1 hu).1
                 have hj2 := h2 h hh j u hu
                 have hj3 : 3 + h * 33 + j < 8484 := by
                  have hl33 : j < 33 := by
                   refine Nat.lt_of_not_le fun hc => ?_
                   have : (ncells (emptyNd K s0 h).h (emptyNd K s0 h).s).length = 33 := ndV_len (empty_hash K s0 hl8 h)
                   omega
                  have := Nat.mul_le_mul_right 33 hh
                  omega
                 rw [Array.getElem?_setIfInBounds_ne (by omega)]
                 exact hj2
             · rw [put_len]
               split
               · next e =>
                    rcases Nat.lt_or_ge T.length 256 with h | h
                    · omega
                    · exact absurd ⟨e, h⟩ hroom
               · exact htr.len
             · rcases put_mem ht with rfl | ht
               · omega
               · exact htr.short t ht
           · cases hpE
   · exact ((Kept.of_below hb).trans (q7.mono (S' := fun k => k = g ∨ k = m) (fun _ _ h => .inr h))).set (p := ⟨g, 8485, none⟩) (.inl (.inl rfl)) _
 have hfz : ∀ v u, Below w.heap.size w v → Kept (· = m) v u → u.frozen? ⟨g, 8485, none⟩ = false := fun v u h1 h2 => ((hf.obj.below h1 Ae).kept h2 (fun e => hmg e.symm)).free _
 have Bp := Hh hfz
 have E1 := Hh (show n = 0 ∧ s = 0 → 1 = putE T l from fun e => by rw [hnn, hss] at e; unfold putE; rw [if_pos e])
 have E3 := Hh (show ¬ (n = 0 ∧ s = 0) → 65536 < n → 3 = putE T l from fun e h => by rw [hnn, hss] at e; rw [hnn] at h; unfold putE; rw [if_neg e, if_pos h])
 have E4 := Hh (show ¬ (n = 0 ∧ s = 0) → ¬ 65536 < n → kn = false → 256 ≤ en → 4 = putE T l from fun e h k h2 => by
   rw [hnn, hss] at e; rw [hnn] at h
   unfold putE
   rw [if_neg e, if_neg h, if_pos ⟨(by cases hq : findT T l.k with | none => rfl | some x => (rw [hq] at hkn; rw [hkn] at k; cases k)), (by rw [← Ay, ← hen]; exact h2)⟩])
 have A1 : kn = true ∨ en < 256 → ¬ (findT T l.k = none ∧ 256 ≤ T.length) := fun h ⟨h1, h2⟩ => by
   rcases h with h | h
   · rw [h1] at hkn; rw [hkn] at h; cases h
   · rw [hen, Ay] at h; omega
 have E0 := Hh (show ¬ (n = 0 ∧ s = 0) → ¬ 65536 < n → (kn = true ∨ en < 256) → sr + s < 18446744073709551616 → putE T l = 0 from fun e h k h2 => by
   rw [hnn, hss] at e; rw [hnn] at h; rw [hsr, hst, hws, hss] at h2
   unfold putE
   rw [if_neg e, if_neg h, if_neg (A1 k), if_pos h2])
 have Bv := Hh (show ¬ (n = 0 ∧ s = 0) → ¬ 65536 < n → (kn = true ∨ en < 256) → ¬ sr + s < 18446744073709551616 → 10 = putE T l from fun e h k h2 => by
   rw [hnn, hss] at e; rw [hnn] at h; rw [hsr, hst, hws, hss] at h2
   unfold putE
   rw [if_neg e, if_neg h, if_neg (A1 k), if_neg h2])
 have hsl : s < 18446744073709551616 := by rw [hss]; exact hs
 have hnl : n ≤ 1000000 := by rw [hnn]; exact hlen
 have hel : en ≤ 256 := by omega
 have Bi : sr < 18446744073709551616 := by omega
 have HV := Hh hv
 have B8 := Hh hnn
 have B9 := Hh hss
 have B5 := Hh hlk
 have A9 := Hh hgl
 have B6 := Hh hln
 have Af := Hh Ar
 have A8 := Hh An
 have A3 := Hh hb1
 have Av := Hh hb2
 have Ak := Hh Be
 have B3 := Hh (And.intro Ae (And.intro Bg hmg))
 have hsub : IntKind.u64.wrap ((st : Int) - (ws : Int)) = (sr : Int) := by rw [IntKind.wrap_u64]; omega
 have B4 := Hh hlen
 have earr : arr l.k = .agg LK.toArray := by unfold arr; rw [hLK]
 have elf : leafV (.slice a l.v.length c) l.s = .agg #[.slice a n c, .int .u64 (s : Int)] := by rw [hnn, hss]; rfl
 rw [earr, elf]
 have Br := Hh (And.intro Bi hsl)
 clear htr hn hk hv hs hlen hkl hLK hnn hss hst Ao Aq hws hkn hle Bf hsr hf Ae Bg hmg Ay hT256 hen hb1 hb2 s1 Be hlk hgl hln Ar An A1 hfz earr elf hv2 hsl Bi
 go_enter Tryz.func43, Tryz.ntmps43
 go_upto_region 1 with (fail)
 generalize (w.alloc (.cells LK.toArray 27)).alloc (.cells #[.slice a n c, .int .u64 (s : Int)] 50) = W0 at A3 Av Ak ⊢
 obtain ⟨Bk, hBk⟩ : ∃ B, B = w.heap.size := ⟨_, rfl⟩
 obtain ⟨Bl, hBl⟩ : ∃ B, B = w.heap.size + 1 := ⟨_, rfl⟩
 rw [← hBk] at A3
 rw [← hBl] at Av
 rw [← hBl, ← hBk]
 have d0 : W0.cell? ⟨Bl, 0, none⟩ = some (.slice a n c) := Av.o.cell_is rfl
 have d1 : W0.cell? ⟨Bl, 1, none⟩ = some (.int .u64 (s : Int)) := Av.o.cell_is rfl
 have By := Hh hBk
 have Bz := Hh hBl
 clear hBk hBl
 go_wp2_with fail
 refine (none_is W0 a n c s (by omega)).mono ?_
 rintro _ w1 ⟨rfl, hb1⟩
 have Ah := Hh (A3.o.below hb1 A3.o.lt)
 have Ai := Hh (Av.o.below hb1 Av.o.lt)
 have Aa := Hh (Ak.o.trans (hb1.mono Ak.o.size))
 clear hb1 d0 d1 A3 Av Ak
 have d0 : w1.cell? ⟨Bl, 0, none⟩ = some (.slice a n c) := Ai.o.cell_is rfl
 have d1 : w1.cell? ⟨Bl, 1, none⟩ = some (.int .u64 (s : Int)) := Ai.o.cell_is rfl
 by_cases hN : n = 0 ∧ s = 0
 · have HN := Hh hN
   have hd : decide (n = 0 ∧ s = 0) = true := decide_eq_true hN
   rw [hd]
   clear hN hd
   go_wp2
   go_ret
   exact Af.o w1 Aa.o (by rw [← E1.o HN.o]; decide) 1 (E1.o HN.o)
 have HN := Hh hN
 have hd : decide (n = 0 ∧ s = 0) = false := decide_eq_false hN
 rw [hd]
 clear hN hd
 by_cases hL : 65536 < n
 · have HL := Hh hL
   have hL2 : (65536 : Int) < (n : Int) := by omega
   go_wp2
   go_ret
   exact Af.o w1 Aa.o (by rw [← E3.o HN.o HL.o]; decide) 3 (E3.o HN.o HL.o)
 have HL := Hh hL
 have hL2 : ¬ (65536 : Int) < (n : Int) := by omega
 clear hL
 have hS : ∀ v, Below w.heap.size w v → Below w1.heap.size w1 v → (v.cell? ⟨g, 8484, none⟩ = some (.map (some m)) ∧ v.rangeAt Bk 0 LK ∧ (Instr.lookup 149 (.map (some m)) (.agg LK.toArray) true).run Tryz.prog v = .ok (.tuple #[.agg #[.slice a0 n0 c0, .int .u64 (ws : Int)], .bool kn]) v) := fun v h1 h2 =>
   ⟨(A9.o v h1).1, (Ah.o.below h2 Ah.o.lt).row0, B5.o v h1⟩
 have hS5 := hS w1.drew Aa.o.drew (Below.refl _ _).drew
 have hal : Below w1.heap.size w1 (w1.alloc (.cells #[.slice none 0 0, .int .u64 0] 50)).drew := ((Below.refl _ _).drew).alloc (Nat.le_refl _) _
 have hSa9 := hS _ (Aa.o.trans (hal.mono Aa.o.size)) hal
 have A0 : Has (w1.alloc (.cells #[.slice none 0 0, .int .u64 0] 50)).drew w1.heap.size 50 #[.slice none 0 0, .int .u64 0] := Has.new w1.drew _ _
 obtain ⟨p1, p2⟩ := row_set (L := [Value.slice a0 n0 c0, .int .u64 (ws : Int)]) A0 rfl
 have Ag : Below w1.heap.size w1 ((w1.alloc (.cells #[.slice none 0 0, .int .u64 0] 50)).drew.setCells w1.heap.size 0 [Value.slice a0 n0 c0, .int .u64 (ws : Int)]) := hal.trans (p2.below hal.size (fun k e => by have e' : k = w1.heap.size := e; omega))
 have hS5b := hS _ (Aa.o.trans (Ag.mono Aa.o.size)) Ag
 have Bs := Hh (A0.there 0 2 (by decide))
 have Bq := Hh p1
 have Au := Hh Ag
 have Ac := Hh (Aa.o.trans (Ag.mono Aa.o.size))
 clear hS hal A0 p1 p2 Ag
 go_upto_region 5 with (fail)
 refine wp_region_noPanic ?_
 refine wp_region_held_drew (S := fun w' => w'.cell? ⟨g, 8484, none⟩ = some (.map (some m)) ∧ w'.rangeAt Bk 0 LK ∧ (Instr.lookup 149 (.map (some m)) (.agg LK.toArray) true).run Tryz.prog w' = .ok (.tuple #[.agg #[.slice a0 n0 c0, .int .u64 (ws : Int)], .bool kn]) w') (by kernel_rfl) hS5 (fun hH0 => ?_)
 refine tl 0 (v := (.pointer (some ⟨g, 0, none⟩))) rfl (by intro w' hS; obtain ⟨e0, e1, e2⟩ := hS; go_simp) hH0 ?_
 simp only [qc]
 refine tl 1 (v := (.pointer (some ⟨g, 0, none⟩))) rfl (by intro w' hS; obtain ⟨e0, e1, e2⟩ := hS; go_simp) hH0 ?_
 simp only [qc]
 refine tl 2 (v := (.pointer (some ⟨g, 8484, none⟩))) rfl (by intro w' hS; obtain ⟨e0, e1, e2⟩ := hS; go_simp) hH0 ?_
 simp only [qc]
 refine tl 3 (v := (.map (some m))) rfl (by intro w' hS; obtain ⟨e0, e1, e2⟩ := hS; go_simp) hH0 ?_
 simp only [qc]
 refine tk 4 (v := (.agg LK.toArray)) rfl (yieldsIf_load_mid (by kernel_rfl) 27 (.tmp 4) rfl Bk 0 rfl LK _ (fun w' h => h.2.1) Tryz.underlying27 rfl Bx.o) hH0 ?_
 simp only [qc]
 refine tl 5 (v := (.tuple #[.agg #[.slice a0 n0 c0, .int .u64 (ws : Int)], .bool kn])) rfl (by intro w' hS; obtain ⟨e0, e1, e2⟩ := hS; go_simp) hH0 ?_
 simp only [qc]
 refine tl 6 (v := (.tuple #[.agg #[.slice a0 n0 c0, .int .u64 (ws : Int)], .bool kn])) rfl (by intro w' hS; obtain ⟨e0, e1, e2⟩ := hS; go_simp) hH0 ?_
 simp only [qc]
 refine tl 7 (v := (.agg #[.slice a0 n0 c0, .int .u64 (ws : Int)])) rfl (by intro w' hS; obtain ⟨e0, e1, e2⟩ := hS; go_simp) hH0 ?_
 simp only [qc]
 refine tl 8 (v := (.bool kn)) rfl (by intro w' hS; obtain ⟨e0, e1, e2⟩ := hS; go_simp) hH0 ?_
 simp only [qc]
 refine rdy [9] (ar1 rfl fun K hK => ?_)
 go_simp
 refine hK _ _ hSa9 fun hH1 => ?_
 clear hK K
 try simp only [qc]
 refine rdy [10] (ar1 rfl fun K hK => ?_)
 refine step_store_mid rfl 50 (.tmp 7) (.tmp 30) rfl w1.heap.size 0 #[.slice a0 n0 c0, .int .u64 (ws : Int)] rfl rfl Bs.o Ca.o Bt.o ?_
 refine hK _ _ hS5b fun hH2 => ?_
 clear hK K
 try simp only [qc]
 refine tl 11 (v := (.bool kn)) rfl (by intro w' hS; obtain ⟨e0, e1, e2⟩ := hS; go_simp) hH2 ?_
 simp only [qc]
 refine wpAnyH_done (by kernel_rfl) ?_ _
 refine NoPanic.normal ?_
 clear hH0 hH1 hH2 hS5 hSa9 hS5b
 have Ad := Ah.o.below Au.o Ah.o.lt
 have Ab := Ai.o.below Au.o Ai.o.lt
 clear d0 d1
 generalize (w1.alloc (.cells #[.slice none 0 0, .int .u64 0] 50)).drew.setCells w1.heap.size 0 [Value.slice a0 n0 c0, .int .u64 (ws : Int)] = W2 at Bq Au Ac Ad Ab ⊢
 obtain ⟨B7, hB7⟩ : ∃ B, B = w1.heap.size := ⟨_, rfl⟩
 rw [← hB7] at Bq ⊢
 have Bn := Hh Ad
 have A6 := Hh Ab
 clear Ad Ab hB7
 have hln : ∀ ty, (Builtin.len_ #[149] ty #[.map (some m)]).run Tryz.prog W2 = .ok (.int .i64 (en : Int)) W2 := fun ty => B6.o W2 ty Ac.o
 have d84 : W2.cell? ⟨g, 8484, none⟩ = some (.map (some m)) := (A9.o W2 Ac.o).1
 go_upto_region 6 with (fail)
 go_cut [41] from 11 (fun cc wx => W2 = wx ∧ cc = .bool (decide (kn = false ∧ 256 ≤ en)))
 case first =>
   cases kn with
   | true =>
     go_wp2
     go_meet
     case rel => exact ⟨rfl, rfl⟩
   | false =>
     by_cases hM : 256 ≤ en
     · have HD := Hh (show decide ((false : Bool) = false ∧ 256 ≤ en) = true from decide_eq_true ⟨rfl, hM⟩)
       have hM2 : (256 : Int) ≤ (en : Int) := by omega
       go_wp2
       go_meet
       case rel => exact ⟨rfl, by rw [HD.o]⟩
     · have HD := Hh (show decide ((false : Bool) = false ∧ 256 ≤ en) = false from decide_eq_false (fun e => hM e.2))
       have hM2 : ¬ (256 : Int) ≤ (en : Int) := by omega
       go_wp2
       go_meet
       case rel => exact ⟨rfl, by rw [HD.o]⟩
 case rest =>
 obtain ⟨hw, hc⟩ := hcut
 subst hw
 subst hc
 clear hln d84
 by_cases hM : kn = false ∧ 256 ≤ en
 · have HM := Hh hM
   have hd : decide (kn = false ∧ 256 ≤ en) = true := decide_eq_true hM
   rw [hd]
   clear hM hd
   go_wp2
   go_ret
   exact Af.o W2 Ac.o (by rw [← E4.o HN.o HL.o HM.o.1 HM.o.2]; decide) 4 (E4.o HN.o HL.o HM.o.1 HM.o.2)
 have HM := Hh (show kn = true ∨ en < 256 from by
   cases kn with
   | true => exact .inl rfl
   | false => exact .inr (by have : ¬ 256 ≤ en := fun e => hM ⟨rfl, e⟩; omega))
 have hd : decide (kn = false ∧ 256 ≤ en) = false := decide_eq_false hM
 rw [hd]
 clear hM hd
 have d85 : W2.cell? ⟨g, 8485, none⟩ = some (.int .u64 (st : Int)) := (A9.o W2 Ac.o).2
 have d71 : W2.cell? ⟨B7, 1, none⟩ = some (.int .u64 (ws : Int)) := Bq.o.cell_is rfl
 have dl1 : W2.cell? ⟨Bl, 1, none⟩ = some (.int .u64 (s : Int)) := A6.o.cell_is rfl
 have hS8 : W2.drew.cell? ⟨g, 8485, none⟩ = some (.int .u64 (st : Int)) ∧ W2.drew.cell? ⟨B7, 1, none⟩ = some (.int .u64 (ws : Int)) ∧ W2.drew.cell? ⟨Bl, 1, none⟩ = some (.int .u64 (s : Int)) := ⟨d85, d71, dl1⟩
 have hS8b := hS8
 clear d85 d71 dl1
 by_cases hfits : sr + s < 18446744073709551616
 · have Ax := add_fits W2.drew sr s hfits
   obtain ⟨sn, hsn⟩ : ∃ x, x = sr + s := ⟨_, rfl⟩
   rw [← hsn] at Ax
   have As := Hh Ax
   have B0 := Hh hsn
   have Bm := Hh hfits
   clear Ax hsn hfits
   go_upto_region 8 with (fail)
   refine wp_region_noPanic ?_
   refine wp_region_held_drew (S := fun w' => w'.cell? ⟨g, 8485, none⟩ = some (.int .u64 (st : Int)) ∧ w'.cell? ⟨B7, 1, none⟩ = some (.int .u64 (ws : Int)) ∧ w'.cell? ⟨Bl, 1, none⟩ = some (.int .u64 (s : Int))) (by kernel_rfl) hS8 (fun hH0 => ?_)
   refine tl 0 (v := (.pointer (some ⟨g, 0, none⟩))) rfl (by intro w' hS; obtain ⟨e0, e1, e2⟩ := hS; go_simp) hH0 ?_
   simp only [qc]
   refine tl 1 (v := (.pointer (some ⟨g, 0, none⟩))) rfl (by intro w' hS; obtain ⟨e0, e1, e2⟩ := hS; go_simp) hH0 ?_
   simp only [qc]
   refine tl 2 (v := (.pointer (some ⟨g, 8485, none⟩))) rfl (by intro w' hS; obtain ⟨e0, e1, e2⟩ := hS; go_simp) hH0 ?_
   simp only [qc]
   refine tl 3 (v := (.int .u64 (st : Int))) rfl (by intro w' hS; obtain ⟨e0, e1, e2⟩ := hS; go_simp) hH0 ?_
   simp only [qc]
   refine tl 4 (v := (.pointer (some ⟨B7, 1, none⟩))) rfl (by intro w' hS; obtain ⟨e0, e1, e2⟩ := hS; go_simp) hH0 ?_
   simp only [qc]
   refine tl 5 (v := (.int .u64 (ws : Int))) rfl (by intro w' hS; obtain ⟨e0, e1, e2⟩ := hS; go_simp) hH0 ?_
   simp only [qc]
   refine tl 6 (v := (.int .u64 (sr : Int))) rfl (by intro w' hS; obtain ⟨e0, e1, e2⟩ := hS; go_simp) hH0 ?_
   simp only [qc]
   refine tl 7 (v := (.pointer (some ⟨Bl, 1, none⟩))) rfl (by intro w' hS; obtain ⟨e0, e1, e2⟩ := hS; go_simp) hH0 ?_
   simp only [qc]
   refine tl 8 (v := (.int .u64 (s : Int))) rfl (by intro w' hS; obtain ⟨e0, e1, e2⟩ := hS; go_simp) hH0 ?_
   simp only [qc]
   refine rdy [9] (ar1 rfl fun K hK => ?_)
   go_simp
   refine As.o.mono ?_
   rintro _ v1 ⟨rfl, e9⟩
   subst e9
   refine hK _ _ hS8b fun hH1 => ?_
   clear hK K
   try simp only [qc]
   refine tl 10 (v := (.tuple #[.int .u64 (sn : Int), .int .i64 0])) rfl (by intro w' hS; obtain ⟨e0, e1, e2⟩ := hS; go_simp) hH1 ?_
   simp only [qc]
   refine tl 11 (v := (.int .u64 (sn : Int))) rfl (by intro w' hS; obtain ⟨e0, e1, e2⟩ := hS; go_simp) hH1 ?_
   simp only [qc]
   refine tl 12 (v := (.int .i64 0)) rfl (by intro w' hS; obtain ⟨e0, e1, e2⟩ := hS; go_simp) hH1 ?_
   simp only [qc]
   refine tl 13 (v := (.int .u64 (sn : Int))) rfl (by intro w' hS; obtain ⟨e0, e1, e2⟩ := hS; go_simp) hH1 ?_
   simp only [qc]
   refine tl 14 (v := (.int .i64 0)) rfl (by intro w' hS; obtain ⟨e0, e1, e2⟩ := hS; go_simp) hH1 ?_
   simp only [qc]
   refine wpAnyH_done (by kernel_rfl) ?_ _
   refine NoPanic.normal ?_
   clear hH0 hH1 hS8 hS8b
   have Ad := Bn.o.drew
   have Ab := A6.o.drew
   have hbe := Ac.o.drew
   generalize W2.drew = W3 at Ad Ab hbe ⊢
   have A4 := Hh Ad
   have Aw := Hh Ab
   have Aj := Hh hbe
   have hcl := clone_bytes W3 _ l.v B4.o (HV.o.alive hbe hbe.size)
   rw [← B8.o] at hcl
   have B2 := Hh hcl
   have d0 : W3.cell? ⟨Bl, 0, none⟩ = some (.slice a n c) := Ab.cell_is rfl
   clear Ad Ab hbe hcl
   go_wp2_with fail
   refine B2.o.mono ?_
   rintro _ w4 ⟨v', rfl, A2, hb4⟩
   obtain ⟨av, cv, hv', -⟩ := id A2
   obtain ⟨nv, hnv⟩ : ∃ x, x = l.v.length := ⟨_, rfl⟩
   rw [← hnv] at hv'
   subst hv'
   have Al := Aw.o.below hb4 Aw.o.lt
   have Bb := A4.o.below hb4 A4.o.lt
   have Bh := Al.set 0 (.slice av nv cv)
   have hk5 : Kept (· = Bl) w4 (w4.setCell ⟨Bl, 0, none⟩ (.slice av nv cv)) := (Kept.refl (· = Bl) w4).set (p := ⟨Bl, 0, none⟩) (.inl rfl) _
   have d0 : w4.cell? ⟨Bl, 0, none⟩ = some (.slice a n c) := Al.cell_is rfl
   have f0 : w4.frozen? ⟨Bl, 0, none⟩ = false := Al.free _
   have hBl3 : Bl < W3.heap.size := Aw.o.lt
   have hBw : w.heap.size ≤ Bk ∧ Bk < Bl := by have h1 := By.o; have h2 := Bz.o; omega
   have Bd : Below w.heap.size w (w4.setCell ⟨Bl, 0, none⟩ (.slice av nv cv)) := (Aj.o.trans (hb4.mono Aj.o.size)).trans (hk5.below (by have h1 := Aj.o.size; have h2 := hb4.size; omega) (fun k e => by have e' : k = Bl := e; omega))
   have Ap : RowB (fun k => w.heap.size ≤ k) (w4.setCell ⟨Bl, 0, none⟩ (.slice av nv cv)) (.slice av nv cv) l.v := (A2.kept hk5 (fun k _ h e => by have e' : k = Bl := e; have h' : W3.heap.size ≤ k := h; omega)).zone (fun k _ h => by have h' : W3.heap.size ≤ k := h; have := Aj.o.size; show w.heap.size ≤ k; omega)
   have Bc := Bb.kept hk5 (by omega)
   have Ba := Hh Bh
   have A5 := Hh Bc
   have A7 := Hh Bd
   have Am := Hh Ap
   have B1 := Hh hBw
   clear A2 hb4 Al Bb Bh hk5 hBl3 hBw Bd Ap Bc hnv
   go_upto_region 12 with (fail)
   generalize w4.setCell ⟨Bl, 0, none⟩ (.slice av nv cv) = W5 at Ba A5 A7 Am ⊢
   have hbd : Below w.heap.size w W5.drew := A7.o.drew
   have hrd : RowB (fun k => w.heap.size ≤ k) W5.drew (.slice av nv cv) l.v := Am.o.kept ((Kept.refl (fun _ => False) W5).drew) (fun _ _ _ h => h)
   obtain ⟨w6, v0, sti, q1, k6, w7, q5, k7, Az⟩ := A8.o W5.drew (.slice av nv cv) hbd (E0.o HN.o HL.o HM.o Bm.o) hrd
   rw [← B0.o] at Az
   have elf : leafV (.slice av nv cv) l.s = .agg #[.slice av nv cv, .int .u64 (s : Int)] := by rw [B9.o]; rfl
   rw [elf] at q5
   have hmk : m ≠ Bk ∧ m ≠ Bl ∧ g ≠ m ∧ g ≠ Bk ∧ g ≠ Bl := by
     have h1 := B1.o
     have h2 := B3.o
     exact ⟨by omega, by omega, fun e => h2.2.2 e.symm, by omega, by omega⟩
   have hSx : ∀ v, Kept (· = m) W5.drew v → (v.cell? ⟨g, 8484, none⟩ = some (.map (some m)) ∧ v.rangeAt Bk 0 LK ∧ v.cell? ⟨Bl, 0, none⟩ = some (.slice av nv cv) ∧ v.cell? ⟨Bl, 1, none⟩ = some (.int .u64 (s : Int))) := fun v hv => by
     have hh := (Ba.o.drew).kept hv (fun e => hmk.2.1 e.symm)
     exact ⟨cell_held hv (A9.o _ hbd).1 hmk.2.2.1, ((A5.o.drew).kept hv (fun e => hmk.1 e.symm)).row0, hh.cell_is rfl, hh.cell_is rfl⟩
   have hS12 := hSx W5.drew (Kept.refl _ _)
   have hS12b := hSx w6 k6
   have hS12c := hSx w7 k7
   have hS12d : ((w7.setCell ⟨g, 8485, none⟩ (.int .u64 (sn : Int))).cell? ⟨g, 8484, none⟩ = some (.map (some m)) ∧ (w7.setCell ⟨g, 8485, none⟩ (.int .u64 (sn : Int))).rangeAt Bk 0 LK ∧ (w7.setCell ⟨g, 8485, none⟩ (.int .u64 (sn : Int))).cell? ⟨Bl, 0, none⟩ = some (.slice av nv cv) ∧ (w7.setCell ⟨g, 8485, none⟩ (.int .u64 (sn : Int))).cell? ⟨Bl, 1, none⟩ = some (.int .u64 (s : Int))) := by
     have hk : Kept (· = g) w7 (w7.setCell ⟨g, 8485, none⟩ (.int .u64 (sn : Int))) := (Kept.refl (· = g) w7).set (p := ⟨g, 8485, none⟩) (.inl rfl) _
     refine ⟨(World.cell?_setCell_other _ ⟨g, 8485, none⟩ ⟨g, 8484, none⟩ _ (by simp)).trans hS12c.1, rangeAt_kept hS12c.2.1 hk (fun e => hmk.2.2.2.1 e.symm), cell_held hk hS12c.2.2.1 (fun e => hmk.2.2.2.2 e.symm), cell_held hk hS12c.2.2.2 (fun e => hmk.2.2.2.2 e.symm)⟩
   have c7 : w7.cell? ⟨g, 8485, none⟩ = some (.int .u64 (st : Int)) := cell_held k7 (A9.o _ hbd).2 hmk.2.2.1
   have f7 : w7.frozen? ⟨g, 8485, none⟩ = false := Bp.o W5.drew w7 hbd k7
   have Bo := Hh Az
   clear hbd hrd Az elf hmk hSx k6 k7 d0 f0
   refine wp_region_noPanic ?_
   refine wp_region_held_drew (S := fun w' => w'.cell? ⟨g, 8484, none⟩ = some (.map (some m)) ∧ w'.rangeAt Bk 0 LK ∧ w'.cell? ⟨Bl, 0, none⟩ = some (.slice av nv cv) ∧ w'.cell? ⟨Bl, 1, none⟩ = some (.int .u64 (s : Int))) (by kernel_rfl) hS12 (fun hH0 => ?_)
   refine tl 0 (v := (.pointer (some ⟨g, 0, none⟩))) rfl (by intro w' hS; obtain ⟨e0, e1, e2, e3⟩ := hS; go_simp) hH0 ?_
   simp only [qc]
   refine tl 1 (v := (.pointer (some ⟨g, 0, none⟩))) rfl (by intro w' hS; obtain ⟨e0, e1, e2, e3⟩ := hS; go_simp) hH0 ?_
   simp only [qc]
   refine tl 2 (v := (.pointer (some ⟨g, 8484, none⟩))) rfl (by intro w' hS; obtain ⟨e0, e1, e2, e3⟩ := hS; go_simp) hH0 ?_
   simp only [qc]
   refine tl 3 (v := (.map (some m))) rfl (by intro w' hS; obtain ⟨e0, e1, e2, e3⟩ := hS; go_simp) hH0 ?_
   simp only [qc]
   refine tk 4 (v := (.agg LK.toArray)) rfl (yieldsIf_load_mid (by kernel_rfl) 27 (.tmp 4) rfl Bk 0 rfl LK _ (fun w' h => h.2.1) Tryz.underlying27 rfl Bx.o) hH0 ?_
   simp only [qc]
   refine tl 5 (v := (.pointer (some ⟨g, 0, none⟩))) rfl (by intro w' hS; obtain ⟨e0, e1, e2, e3⟩ := hS; go_simp) hH0 ?_
   simp only [qc]
   refine tl 6 (v := (.agg #[.slice av nv cv, .int .u64 (s : Int)])) rfl (by intro w' hS; obtain ⟨e0, e1, e2, e3⟩ := hS; go_simp) hH0 ?_
   simp only [qc]
   refine tl 7 (v := (.int .u64 (sn : Int))) rfl (by intro w' hS; obtain ⟨e0, e1, e2, e3⟩ := hS; go_simp) hH0 ?_
   simp only [qc]
   refine rdy [8] (ar1 rfl fun K hK => ?_)
   go_simp
   refine hK _ _ hS12b fun hH1 => ?_
   clear hK K
   try simp only [qc]
   refine tl 9 (v := (.int .i64 sti)) rfl (by intro w' hS; obtain ⟨e0, e1, e2, e3⟩ := hS; go_simp) hH1 ?_
   simp only [qc]
   refine rdy [10] (ar1 rfl fun K hK => ?_)
   go_simp
   refine hK _ _ hS12c fun hH2 => ?_
   clear hK K
   try simp only [qc]
   refine tl 11 (v := (.pointer (some ⟨g, 0, none⟩))) rfl (by intro w' hS; obtain ⟨e0, e1, e2, e3⟩ := hS; go_simp) hH2 ?_
   simp only [qc]
   refine tl 12 (v := (.pointer (some ⟨g, 8485, none⟩))) rfl (by intro w' hS; obtain ⟨e0, e1, e2, e3⟩ := hS; go_simp) hH2 ?_
   simp only [qc]
   refine rdy [13] (ar1 rfl fun K hK => ?_)
   go_simp
   refine hK _ _ hS12d fun hH3 => ?_
   clear hK K
   try simp only [qc]
   refine wpAnyH_done (by kernel_rfl) ?_ _
   refine NoPanic.normal ?_
   clear hH0 hH1 hH2 hH3 hS12 hS12b hS12c hS12d c7 f7 q1 q5
   go_wp2
   go_ret
   exact Bo.o
 · have Bw := Hh (show 18446744073709551616 ≤ sr + s ∧ sr + s < 36893488147419103232 by have := Br.o; omega)
   have As := Hh (add_over W2.drew sr s Bw.o.1 Bw.o.2)
   have Bm := Hh hfits
   clear hfits
   go_upto_region 8 with (fail)
   refine wp_region_noPanic ?_
   refine wp_region_held_drew (S := fun w' => w'.cell? ⟨g, 8485, none⟩ = some (.int .u64 (st : Int)) ∧ w'.cell? ⟨B7, 1, none⟩ = some (.int .u64 (ws : Int)) ∧ w'.cell? ⟨Bl, 1, none⟩ = some (.int .u64 (s : Int))) (by kernel_rfl) hS8 (fun hH0 => ?_)
   refine tl 0 (v := (.pointer (some ⟨g, 0, none⟩))) rfl (by intro w' hS; obtain ⟨e0, e1, e2⟩ := hS; go_simp) hH0 ?_
   simp only [qc]
   refine tl 1 (v := (.pointer (some ⟨g, 0, none⟩))) rfl (by intro w' hS; obtain ⟨e0, e1, e2⟩ := hS; go_simp) hH0 ?_
   simp only [qc]
   refine tl 2 (v := (.pointer (some ⟨g, 8485, none⟩))) rfl (by intro w' hS; obtain ⟨e0, e1, e2⟩ := hS; go_simp) hH0 ?_
   simp only [qc]
   refine tl 3 (v := (.int .u64 (st : Int))) rfl (by intro w' hS; obtain ⟨e0, e1, e2⟩ := hS; go_simp) hH0 ?_
   simp only [qc]
   refine tl 4 (v := (.pointer (some ⟨B7, 1, none⟩))) rfl (by intro w' hS; obtain ⟨e0, e1, e2⟩ := hS; go_simp) hH0 ?_
   simp only [qc]
   refine tl 5 (v := (.int .u64 (ws : Int))) rfl (by intro w' hS; obtain ⟨e0, e1, e2⟩ := hS; go_simp) hH0 ?_
   simp only [qc]
   refine tl 6 (v := (.int .u64 (sr : Int))) rfl (by intro w' hS; obtain ⟨e0, e1, e2⟩ := hS; go_simp) hH0 ?_
   simp only [qc]
   refine tl 7 (v := (.pointer (some ⟨Bl, 1, none⟩))) rfl (by intro w' hS; obtain ⟨e0, e1, e2⟩ := hS; go_simp) hH0 ?_
   simp only [qc]
   refine tl 8 (v := (.int .u64 (s : Int))) rfl (by intro w' hS; obtain ⟨e0, e1, e2⟩ := hS; go_simp) hH0 ?_
   simp only [qc]
   refine rdy [9] (ar1 rfl fun K hK => ?_)
   go_simp
   refine As.o.mono ?_
   rintro _ v1 ⟨rfl, e9⟩
   subst e9
   refine hK _ _ hS8b fun hH1 => ?_
   clear hK K
   try simp only [qc]
   refine tl 10 (v := (.tuple #[.int .u64 (0 : Int), .int .i64 10])) rfl (by intro w' hS; obtain ⟨e0, e1, e2⟩ := hS; go_simp) hH1 ?_
   simp only [qc]
   refine tl 11 (v := (.int .u64 (0 : Int))) rfl (by intro w' hS; obtain ⟨e0, e1, e2⟩ := hS; go_simp) hH1 ?_
   simp only [qc]
   refine tl 12 (v := (.int .i64 10)) rfl (by intro w' hS; obtain ⟨e0, e1, e2⟩ := hS; go_simp) hH1 ?_
   simp only [qc]
   refine tl 13 (v := (.int .u64 (0 : Int))) rfl (by intro w' hS; obtain ⟨e0, e1, e2⟩ := hS; go_simp) hH1 ?_
   simp only [qc]
   refine tl 14 (v := (.int .i64 10)) rfl (by intro w' hS; obtain ⟨e0, e1, e2⟩ := hS; go_simp) hH1 ?_
   simp only [qc]
   refine wpAnyH_done (by kernel_rfl) ?_ _
   refine NoPanic.normal ?_
   clear hH0 hH1 hS8 hS8b
   go_wp2
   go_ret
   exact Af.o W2.drew Ac.o.drew (by rw [← Bv.o HN.o HL.o HM.o Bm.o]; decide) 10 (Bv.o HN.o HL.o HM.o Bm.o)
section
/- A tree for a caller: Put, Root, Keys; what a nil tree answers. -/

section
variable {K s0 : List Wd} {S : Nat → Prop} {w : World} {g : Nat} {T : List Lf}
theorem tr_put (h : Tr K s0 S w g T) (hl8 : s0.length = 8) (hn : ∀ k, w.heap.size ≤ k → S k) (l : Lf) (hk : IsHash l.k) (v : Value) (hv : Bytes w w.heap.size v l.v) (hs : l.s < 18446744073709551616) (hlen : l.v.length ≤ 1000000) :
  Calls Tryz.prog 43 #[.pointer (some ⟨g, 0, none⟩), arr l.k, leafV v l.s] w fun e w' => e = .returned (.int .i64 (putE T l)) ∧ Tr K s0 S w' g (putN T l) ∧ Kept S w w' := by
 obtain ⟨m, es, h⟩ := h
 exact (putT_is K s0 hl8 S w g m es T h hn l hk v hv hs hlen).mono fun e w' ⟨h1, ⟨es', h2⟩, h3⟩ => ⟨h1, ⟨m, es', h2⟩, h3.mono fun k _ e => e.elim (fun e => e ▸ h.zg) (fun e => e ▸ h.zm)⟩
theorem tr_root (h : Tr K s0 S w g T) (hT : Tabs K s0 w) (hlow : 2 + 1 ≤ g) :
  Calls Tryz.prog 46 #[.pointer (some ⟨g, 0, none⟩)] w fun e w' => e = .returned (.agg (ndV (partNd K s0 256 T)).toArray) ∧ Tr K s0 S w' g T ∧ Kept S w w' := by
 obtain ⟨m, es, h⟩ := h
 exact (root_at K s0 S hlow w hT h).mono fun e w' ⟨h1, h2, h3⟩ => ⟨h1, ⟨m, es, h2⟩, h3.mono fun k _ e => by rw [show k = g from e]; exact h.zg⟩
theorem Tr.keyed (h : Tr K s0 S w g T) : Keyed (T.map (·.k)) := by obtain ⟨m, es, h⟩ := h; exact h.keyed
theorem Tr.sum (h : Tr K s0 S w g T) : sumT T < 18446744073709551616 := by obtain ⟨m, es, h⟩ := h; exact h.fit
theorem root_sum (h : Tr K s0 S w g T) : (partNd K s0 256 T).s = sumT T := part_sum K s0 256 T h.keyed (coh_top _)
end
end

/- The laws' head: one leaf in a tree. -/

def K5 : List Nat := 5 :: List.replicate 31 0
def l5 : Lf := ⟨K5, [97], 7⟩
section

/- The walks of Get and Drop. -/

def valT (T : List Lf) (k : List Nat) : List Nat := match findT T k with | some l => l.v | none => []
theorem Leaves.ask2 {S : Nat → Prop} {w : World} {es : List Ent} {T : List Lf} (h : Leaves S w es T) (k : List Nat) :
  ∃ (a0 : Option Addr) (n0 c0 ws : Nat) (kn : Bool), (look es k).getD (leafV (.slice none 0 0) 0) = .agg #[.slice a0 n0 c0, .int .u64 (ws : Int)] ∧ (look es k).isSome = kn ∧ ws = wasS T k ∧ kn = (findT T k).isSome ∧ RowB S w (.slice a0 n0 c0) (valT T k) := by
 obtain ⟨a0, n0, c0, ws, kn, h1, h2, h3, h4, h5⟩ := h.ask k
 cases hf : findT T k with
 | some l =>
  refine ⟨a0, n0, c0, ws, kn, h1, h2, h3, by rw [h4, hf], ?_⟩
  unfold valT
  rw [hf]
  exact (h5 l hf).1
 | none =>
  refine ⟨none, 0, 0, 0, false, ?_, ?_, ?_, by rfl, ?_⟩
  · rcases h.look_ k with ⟨e1, e2⟩ | ⟨v, l, e1, e2, e3⟩
    · rw [e1]; rfl
    · rw [e2] at hf; cases hf
  · rcases h.look_ k with ⟨e1, e2⟩ | ⟨v, l, e1, e2, e3⟩
    · rw [e1]; rfl
    · rw [e2] at hf; cases hf
  · unfold wasS; rw [hf]
  · unfold valT; rw [hf]; exact RowB.nil _ _ _ _

section
variable {K s0 : List Wd} {S : Nat → Prop} {g m : Nat} {es : List Ent} {T : List Lf}
structure Asked (K s0 : List Wd) (S : Nat → Prop) (g m : Nat) (T : List Lf) (k : List Nat) (w : World) (LK : List Value) (a0 : Option Addr) (n0 c0 ws st : Nat) (kn : Bool) : Prop where
 lk : ∀ w', Below w.heap.size w w' → (Instr.lookup 149 (.map (some m)) (.agg LK.toArray) true).run Tryz.prog w' = .ok (.tuple #[.agg #[.slice a0 n0 c0, .int .u64 (ws : Int)], .bool kn]) w'
 gl : ∀ w', Below w.heap.size w w' → w'.cell? ⟨g, 8484, none⟩ = some (.map (some m)) ∧ w'.cell? ⟨g, 8485, none⟩ = some (.int .u64 (st : Int))
 ws : ws = wasS T k
 st : st = sumT T
 kn : kn = (findT T k).isSome
 row : RowB S w (.slice a0 n0 c0) (valT T k)
theorem asked (w : World) (htr : TreeAt K s0 S w g m es T) (k : List Nat) (hk : IsHash k) (LK : List Value) (hLK : LK = bcells k) : ∃ a0 n0 c0 ws st kn, Asked K s0 S g m T k w LK a0 n0 c0 ws st kn := by
 obtain ⟨a0, n0, c0, ws, kn, Aa, Ab, hws, hkn, Ac⟩ := htr.leaves.ask2 k
 obtain ⟨cs, hf⟩ := htr.frame
 refine ⟨a0, n0, c0, ws, sumT T, kn, fun w' hb => ?_, fun w' hb => ⟨(hf.obj.below hb hf.obj.lt).cell_is hf.lv, (hf.obj.below hb hf.obj.lt).cell_is hf.sm⟩, hws, rfl, hkn, Ac⟩
 have := lookup_ok_is (T := 149) Tryz.underlying149 zero_leaf (htr.map.kept (Kept.of_below (S := fun _ => False) hb) (fun h => h)) hk
 rw [Aa, Ab] at this
 rw [hLK]; exact this

end
end
/- Digests of 32 bytes compared; structs compared field by field. -/

theorem key_top {P : Program} {t n e : TypeId} (hu : P.underlying t = some (.array n e)) {v : Value} {l : Lit} (h : keyOf P t v = some l) : v.formed P t = true ∧ ∃ L, P.keyLits (P.types.size + 1) t v.cells.toList = some L ∧ l = .string (keyBytes L) := by
 unfold keyOf at h
 rw [hu] at h
 simp only at h
 split at h
 · rename_i hf
   simp only [Option.map_eq_some_iff] at h
   obtain ⟨L, h1, h2⟩ := h
   simp only [Bool.and_eq_true] at hf
   exact ⟨hf.2, L, h1, h2.symm⟩
 · cases h
theorem part_agg {P : Program} {t n e k : TypeId} (hu : P.underlying t = some (.array n e)) (hc : P.cellsOf t = k) (zs : Array Value) (off : Nat) (w : World) : (part t zs off).run P w = .ok (.agg (zs.extract off (off + k))) w := by
 obtain ⟨i, hi⟩ := info_of_underlying hu
 subst hc
 simp [part, isAgg, run_underlying hu, run_sizeOf w hi]
theorem hash_eq_at (d : Nat) (a b : List Nat) (ha : IsHash a) (hb : IsHash b) (w : World) : (Op.equalIn (d + 2) 27 (.agg (bcells a).toArray) (.agg (bcells b).toArray)).run Tryz.prog w = .ok (decide (a = b)) w := by
 obtain ⟨la, hla⟩ := key_some a ha
 obtain ⟨lb, hlb⟩ := key_some b hb
 obtain ⟨fa, La, ka, ea⟩ := key_top Tryz.underlying27 hla
 obtain ⟨fb, Lb, kb, eb⟩ := key_top Tryz.underlying27 hlb
 obtain ⟨r, hr, Aa⟩ := run_equalIn_deep (P := Tryz.prog) d 2 27 (by kernel_rfl) w _ _ (arr a) (arr b) La Lb fa fb ka kb
 have hab : La = Lb ↔ a = b := ⟨fun e => arr_inj (hashKey.inj hla (by rw [ea, e, ← eb]; exact hlb)), fun e => by
  subst e
  rw [ka] at kb
  exact Option.some.inj kb⟩
 have e : r = decide (a = b) := by
  by_cases hc : a = b
  · rw [decide_eq_true hc]; exact Aa.2 (hab.2 hc)
  · rw [decide_eq_false hc]
    cases r with
    | false => rfl
    | true => exact absurd (hab.1 (Aa.1 rfl)) hc
 rw [← e]; exact hr
theorem eqF_any {P : Program} {d : Nat} {xs ys : Array Value} {f : Field} {fs : List Field} {w : World} {va vb : Value} {r : Bool} (hn : f.name ≠ "_") (hx : (part f.type xs f.offset).run P w = .ok va w) (hy : (part f.type ys f.offset).run P w = .ok vb w)
  (he : (Op.equalIn d f.type va vb).run P w = .ok r w) : (Op.eqFields d xs ys (f :: fs)).run P w = if r = true then (Op.eqFields d xs ys fs).run P w else .ok false w := by
 simp only [Op.eqFields, if_pos hn, Sem.run_bind, hx, hy, he, Result.andThen_ok]
 cases r <;> simp
theorem eqF_nil {P : Program} {d : Nat} {xs ys : Array Value} {w : World} : (Op.eqFields d xs ys []).run P w = .ok true w := by simp [Op.eqFields]
theorem part_int {P : Program} {t : TypeId} {k : IntKind} (hu : P.underlying t = some (.int k)) {xs : Array Value} {off : Nat} {v : Value} (hx : xs[off]? = some v) (w : World) : (part t xs off).run P w = .ok v w :=
 run_part_plain w (by unfold Program.plainKey; rw [hu]) hx
theorem extract_list (l : List Value) (i n : Nat) : l.toArray.extract i (i + n) = ((l.drop i).take n).toArray := by
 apply Array.toList_inj.1
 rw [Array.toList_extract]
 simp [List.extract]

/- The reference's nodes compared: one is like itself. -/

theorem mn_fields : ∃ f0 f1, (Tryz.prog.fieldsOf 30).toList = [f0, f1] ∧ (f0.name ≠ "_" ∧ f0.type = 27 ∧ f0.offset = 0) ∧ (f1.name ≠ "_" ∧ f1.type = 28 ∧ f1.offset = 32) := by
 unfold Program.fieldsOf
 rw [Tryz.underlying30]
 exact ⟨_, _, rfl, ⟨by decide, rfl, rfl⟩, ⟨by decide, rfl, rfl⟩⟩
theorem mn_struct : Tryz.prog.underlying 30 = some (.struct (Tryz.prog.fieldsOf 30)) := by
 unfold Program.fieldsOf
 rw [Tryz.underlying30]
end Go.Proofs.YtknfbccbdiidjaaGreatDoor
