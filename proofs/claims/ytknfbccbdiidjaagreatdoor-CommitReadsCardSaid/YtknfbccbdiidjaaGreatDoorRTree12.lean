/- The walk of Put. -/
import Derived.Test.YtknfbccbdiidjaaGreatDoorWs
import Derived.Test.YtknfbccbdiidjaaGreatDoorRTree11
import Derived.Deep.Cut
import Derived.Deep.CutRange
namespace Go.Proofs.YtknfbccbdiidjaaGreatDoor
set_option linter.unusedVariables false
set_option linter.unusedSimpArgs false
open Go.ChangeShapes Go.WideShapes Go.ChangeAt Go.RowKit Go.Maps

def putE (T : List Lf) (l : Lf) : Int := if l.v.length = 0 ∧ l.s = 0 then 1 else if 65536 < l.v.length then 3 else if findT T l.k = none ∧ 256 ≤ T.length then 4 else if sumT T - wasS T l.k + l.s < 18446744073709551616 then 0 else 10
def putN (T : List Lf) (l : Lf) : List Lf := if putE T l = 0 then putT T l else T
def PutP (K s0 : List Wd) (S : Nat → Prop) (w : World) (g m : Nat) (T : List Lf) (l : Lf) (e : Ending) (w' : World) : Prop :=
 e = .returned (.int .i64 (putE T l)) ∧ (∃ es', TreeAt K s0 S w' g m es' (putN T l)) ∧ Kept (fun k => k = g ∨ k = m) w w'
theorem zero_leaf (w : World) : (zeroValue 50).run Tryz.prog w = .ok (leafV (.slice none 0 0) 0) w := by kernel_rfl
theorem Leaves.ask {S : Nat → Prop} {w : World} {es : List Ent} {T : List Lf} (h : Leaves S w es T) (k : List Nat) :
   ∃ (a0 : Option Addr) (n0 c0 ws : Nat) (kn : Bool), (look es k).getD (leafV (.slice none 0 0) 0) = .agg #[.slice a0 n0 c0, .int .u64 (ws : Int)] ∧ (look es k).isSome = kn ∧ ws = wasS T k ∧ kn = (findT T k).isSome ∧ ∀ l, findT T k = some l → RowB S w (.slice a0 n0 c0) l.v ∧ n0 = l.v.length ∧ ws = l.s := by
 rcases h.look_ k with ⟨h1, h2⟩ | ⟨v, l, h1, h2, h3⟩
 · exact ⟨none, 0, 0, 0, false, by rw [h1]; rfl, by rw [h1]; rfl, by unfold wasS; rw [h2], by rw [h2]; rfl, fun l e => by rw [h2] at e; cases e⟩
 · obtain ⟨a, c, rfl, h4⟩ := id h3
   exact ⟨a, _, c, l.s, true, by rw [h1]; rfl, by rw [h1]; rfl, by unfold wasS; rw [h2], by rw [h2]; rfl, fun l' e => by
    rw [h2] at e
    injection e with e
    subst e
    exact ⟨h3, rfl, rfl⟩⟩

set_option maxRecDepth 100000 in
set_option maxHeartbeats 8000000 in
theorem putT_is (K s0 : List Wd) (hl8 : s0.length = 8) (S : Nat → Prop) (w : World) (g m : Nat) (es : List Ent) (T : List Lf) (htr : TreeAt K s0 S w g m es T) (hn : ∀ k, w.heap.size ≤ k → S k) (l : Lf) (hk : IsHash l.k) (v : Value) (hv : Bytes w w.heap.size v l.v) (hs : l.s < 18446744073709551616) (hlen : l.v.length ≤ 1000000) :
   Calls Tryz.prog 43 #[.pointer (some ⟨g, 0, none⟩), arr l.k, leafV v l.s] w (PutP K s0 S w g m T l) := by
 obtain ⟨a, c, rfl, hv2⟩ := id hv
 have hkl : (bcells l.k).length = 32 := by rw [bcells_length, hk.1]
 obtain ⟨LK, hLK⟩ : ∃ L, L = bcells l.k := ⟨_, rfl⟩
 obtain ⟨n, hnn⟩ : ∃ n, n = l.v.length := ⟨_, rfl⟩
 obtain ⟨s, hss⟩ : ∃ s, s = l.s := ⟨_, rfl⟩
 obtain ⟨st, hst⟩ : ∃ x, x = sumT T := ⟨_, rfl⟩
 obtain ⟨a0, n0, c0, ws, kn, hlook, hsome, hws, hkn, -⟩ := htr.leaves.ask l.k
 have hle : ws ≤ st := by rw [hws, hst]; exact was_le T l.k
 have hfit := htr.fit
 rw [← hst] at hfit
 obtain ⟨sr, hsr⟩ : ∃ x, x = st - ws := ⟨_, rfl⟩
 obtain ⟨cs, hf⟩ := htr.frame
 have hglt := hf.obj.lt
 have hmlt := htr.map.lt
 have hmg : m ≠ g := fun e => by
   obtain ⟨es', clock, h1, _⟩ := htr.map
   have := hf.obj
   unfold Has at this
   rw [e, this] at h1
   cases h1
 have hesl : es.length = T.length := by
   have := congrArg List.length htr.leaves.keys
   rw [List.length_map, List.length_map] at this
   exact this
 have hT256 := htr.len
 obtain ⟨en, hen⟩ : ∃ x, x = es.length := ⟨_, rfl⟩
 have SZK := Lib.hid (show (Tryz.prog.info? 27).map (·.size) = some LK.length by rw [hLK, hkl]; kernel_rfl)
 have SZL := Lib.hid (show (Tryz.prog.info? 50).map (·.size) = some (#[Value.slice a0 n0 c0, .int .u64 (ws : Int)] : Array Value).size by kernel_rfl)
 have ONEL := Lib.hid (show (#[Value.slice a0 n0 c0, .int .u64 (ws : Int)] : Array Value).all (·.oneCell') = true by kernel_rfl)
 have hb1 := (Has.new w 27 LK.toArray).alloc (.cells #[.slice a n c, .int .u64 (s : Int)] 50)
 have hb2 := Has.new (w.alloc (.cells LK.toArray 27)) 50 #[.slice a n c, .int .u64 (s : Int)]
 have s1 : ∀ (x : World) o, (x.alloc o).heap.size = x.heap.size + 1 := fun x o => by simp
 rw [s1] at hb2
 have hbel := ((Below.refl w.heap.size w).alloc (Nat.le_refl _) (.cells LK.toArray 27)).alloc (by rw [s1]; omega) (.cells #[.slice a n c, .int .u64 (s : Int)] 50)
 have hlk : ∀ w', Below w.heap.size w w' → (Instr.lookup 149 (.map (some m)) (.agg LK.toArray) true).run Tryz.prog w' = .ok (.tuple #[.agg #[.slice a0 n0 c0, .int .u64 (ws : Int)], .bool kn]) w' := fun w' hb => by
   have := lookup_ok_is (T := 149) Tryz.underlying149 zero_leaf (htr.map.kept (Kept.of_below (S := fun _ => False) hb) (fun h => h)) hk
   rw [hlook, hsome] at this
   rw [hLK]; exact this
 have hgl : ∀ w', Below w.heap.size w w' → w'.cell? ⟨g, 8484, none⟩ = some (.map (some m)) ∧ w'.cell? ⟨g, 8485, none⟩ = some (.int .u64 (st : Int)) := fun w' hb => ⟨(hf.obj.below hb hglt).cell_is hf.lv, (hf.obj.below hb hglt).cell_is (by rw [hst]; exact hf.sm)⟩
 have hln : ∀ w' ty, Below w.heap.size w w' → (Builtin.len_ #[149] ty #[.map (some m)]).run Tryz.prog w' = .ok (goInt en) w' := fun w' ty hb => by rw [hen]; exact len_map (htr.map.kept (Kept.of_below (S := fun _ => False) hb) (fun h => h)) ty
 have hstay : ∀ w', Below w.heap.size w w' → putE T l ≠ 0 → ∀ x, x = putE T l → PutP K s0 S w g m T l (.returned (.int .i64 x)) w' := fun w' hb hne x hx => by
   subst hx
   refine ⟨rfl, ⟨es, ?_⟩, (Kept.of_below hb).mono (fun _ _ h => h)⟩
   unfold putN
   rw [if_neg hne]
   exact htr.kept (Kept.of_below (S := fun _ => False) hb) (fun _ _ _ h => h)
 have hdone : ∀ (w5 : World) (v' : Value), Below w.heap.size w w5 → putE T l = 0 → RowB (fun k => w.heap.size ≤ k) w5 v' l.v → ∃ w6 v0 sti, (Instr.mapEntry 149 (.map (some m)) (.agg LK.toArray)).run Tryz.prog w5 = .ok (.tuple #[v0, .int .i64 sti]) w6 ∧ Kept (· = m) w5 w6 ∧
     ∃ w7, (Instr.entryStore 149 (.map (some m)) (.int .i64 sti) (leafV v' l.s)).run Tryz.prog w6 = .ok () w7 ∧ Kept (· = m) w5 w7 ∧ PutP K s0 S w g m T l (.returned (.int .i64 0)) (w7.setCell ⟨g, 8485, none⟩ (.int .u64 ((sr + s : Nat) : Int))) := fun w5 v' hb he hr => by
   obtain ⟨w6, v0, sti, q1, q2, -, q4⟩ := entry_is (T := 149) Tryz.underlying149 zero_leaf (htr.map.kept (Kept.of_below (S := fun _ => False) hb) (fun h => h)) hk
   obtain ⟨w7, q5, q6, q7⟩ := q4 (leafV v' l.s)
   refine ⟨w6, v0, sti, by rw [hLK]; exact q1, q2, w7, q5, q7, ⟨by rw [he], ⟨putL es l.k (leafV v' l.s), ?_⟩, ?_⟩⟩
   · unfold putN
     rw [if_pos he]
     have h7 : Has w7 g 163 cs := (hf.obj.below hb hglt).kept q7 (fun e => hmg e.symm)
     have hk8 : Kept (· = g) w7 (w7.setCell ⟨g, 8485, none⟩ (.int .u64 ((sr + s : Nat) : Int))) := (Kept.refl (· = g) w7).set (p := ⟨g, 8485, none⟩) (.inl rfl) _
     have hpE := he
     unfold putE at hpE
     have hsum : sumT (putT T l) = sr + s := by
       have := sum_put T l
       rw [← hws, ← hst, ← hss] at this
       omega
     split at hpE
     · cases hpE
     · split at hpE
       · cases hpE
       · next hshort =>
         split at hpE
         · cases hpE
         · next hroom =>
           split at hpE
           · next hfits =>
             have hlvs : Leaves S (w7.setCell ⟨g, 8485, none⟩ (.int .u64 ((sr + s : Nat) : Int))) (putL es l.k (leafV v' l.s)) (putT T l) := by
               have far : ∀ {S' : Nat → Prop} {v bs}, RowB S' w5 v bs → RowB S' (w7.setCell ⟨g, 8485, none⟩ (.int .u64 ((sr + s : Nat) : Int))) v bs := fun {S' v bs} hr' => by
                 obtain ⟨a', c', e, h1, h2, h3⟩ := hr'
                 refine ⟨a', c', e, h1, h2, fun hl => ?_⟩
                 obtain ⟨bg, bo, cur, e2, hz, hh, hc⟩ := h3 hl
                 have hbm : bg ≠ m := fun e => by
                  obtain ⟨es', clock, h1, _⟩ := htr.map.kept (Kept.of_below (S := fun _ => False) hb) (fun h => h)
                  unfold Has at hh
                  rw [e, h1] at hh
                  cases hh
                 have hbg : bg ≠ g := hh.ne (hf.obj.below hb hglt) (by decide)
                 exact ⟨bg, bo, cur, e2, hz, (hh.kept q7 hbm).kept hk8 hbg, hc⟩
               refine Leaves.put ?_ (htr.leaves.imp fun v bs hr' => far (hr'.kept (Kept.of_below (S := fun _ => False) hb) (fun _ _ _ h => h)))
               exact (far hr).zone (fun k _ h => hn k h)
             refine ⟨⟨_, h7.set 8485 _, by rw [Array.size_setIfInBounds]; exact hf.size, by rw [Array.getElem?_setIfInBounds_ne (by decide)]; exact hf.lock, by rw [Array.getElem?_setIfInBounds_ne (by decide)]; exact hf.lv, by rw [Array.getElem?_setIfInBounds_self_of_lt (by rw [hf.size]; decide), hsum], ?_⟩, q6.kept hk8 hmg, hlvs, htr.keyed.put hk, by rw [hsum, hsr, hst, hws, hss]; exact hfits, ?_, fun t ht => ?_, htr.zg, htr.zm⟩
             · rcases hf.once with h | ⟨h1, h2⟩
               · exact .inl (by rw [Array.getElem?_setIfInBounds_ne (by decide)]; exact h)
               · refine .inr ⟨by rw [Array.getElem?_setIfInBounds_ne (by decide)]; exact h1, fun h hh j u hu => ?_⟩
                 have hj := (List.getElem?_eq_some_iff.1 hu).1
                 have hj2 := h2 h hh j u hu
                 have hj3 : 3 + h * 33 + j < 8484 := by
                  have hl33 : j < 33 := by
                   refine Nat.lt_of_not_le fun hc => ?_
                   have : (ncells (emptyNd K s0 h).h (emptyNd K s0 h).s).length = 33 := ndV_len (empty_hash K s0 hl8 h)
                   omega
                  have := Nat.mul_le_mul_right 33 hh
                  omega
                 rw [Array.getElem?_setIfInBounds_ne (by omega)]
                 exact hj2
             · rw [put_len]
               split
               · next e =>
                    rcases Nat.lt_or_ge T.length 256 with h | h
                    · omega
                    · exact absurd ⟨e, h⟩ hroom
               · exact htr.len
             · rcases put_mem ht with rfl | ht
               · omega
               · exact htr.short t ht
           · cases hpE
   · exact ((Kept.of_below hb).trans (q7.mono (S' := fun k => k = g ∨ k = m) (fun _ _ h => .inr h))).set (p := ⟨g, 8485, none⟩) (.inl (.inl rfl)) _
 have hfz : ∀ v u, Below w.heap.size w v → Kept (· = m) v u → u.frozen? ⟨g, 8485, none⟩ = false := fun v u h1 h2 => ((hf.obj.below h1 hglt).kept h2 (fun e => hmg e.symm)).free _
 have HFZ0 := Lib.hid hfz
 have E1 := Lib.hid (show n = 0 ∧ s = 0 → 1 = putE T l from fun e => by rw [hnn, hss] at e; unfold putE; rw [if_pos e])
 have E3 := Lib.hid (show ¬ (n = 0 ∧ s = 0) → 65536 < n → 3 = putE T l from fun e h => by rw [hnn, hss] at e; rw [hnn] at h; unfold putE; rw [if_neg e, if_pos h])
 have E4 := Lib.hid (show ¬ (n = 0 ∧ s = 0) → ¬ 65536 < n → kn = false → 256 ≤ en → 4 = putE T l from fun e h k h2 => by
   rw [hnn, hss] at e; rw [hnn] at h
   unfold putE
   rw [if_neg e, if_neg h, if_pos ⟨(by cases hq : findT T l.k with | none => rfl | some x => (rw [hq] at hkn; rw [hkn] at k; cases k)), (by rw [← hesl, ← hen]; exact h2)⟩])
 have hno4 : kn = true ∨ en < 256 → ¬ (findT T l.k = none ∧ 256 ≤ T.length) := fun h ⟨h1, h2⟩ => by
   rcases h with h | h
   · rw [h1] at hkn; rw [hkn] at h; cases h
   · rw [hen, hesl] at h; omega
 have E0 := Lib.hid (show ¬ (n = 0 ∧ s = 0) → ¬ 65536 < n → (kn = true ∨ en < 256) → sr + s < 18446744073709551616 → putE T l = 0 from fun e h k h2 => by
   rw [hnn, hss] at e; rw [hnn] at h; rw [hsr, hst, hws, hss] at h2
   unfold putE
   rw [if_neg e, if_neg h, if_neg (hno4 k), if_pos h2])
 have E10 := Lib.hid (show ¬ (n = 0 ∧ s = 0) → ¬ 65536 < n → (kn = true ∨ en < 256) → ¬ sr + s < 18446744073709551616 → 10 = putE T l from fun e h k h2 => by
   rw [hnn, hss] at e; rw [hnn] at h; rw [hsr, hst, hws, hss] at h2
   unfold putE
   rw [if_neg e, if_neg h, if_neg (hno4 k), if_neg h2])
 have hsl : s < 18446744073709551616 := by rw [hss]; exact hs
 have hnl : n ≤ 1000000 := by rw [hnn]; exact hlen
 have hel : en ≤ 256 := by omega
 have hsrl : sr < 18446744073709551616 := by omega
 have HV := Lib.hid hv
 have HVN := Lib.hid hnn
 have HVS := Lib.hid hss
 have HLK := Lib.hid hlk
 have HGL := Lib.hid hgl
 have HLN := Lib.hid hln
 have HSTAY := Lib.hid hstay
 have HDONE := Lib.hid hdone
 have HB1 := Lib.hid hb1
 have HB2 := Lib.hid hb2
 have HBEL := Lib.hid hbel
 have HGM := Lib.hid (And.intro hglt (And.intro hmlt hmg))
 have hsub : IntKind.u64.wrap ((st : Int) - (ws : Int)) = (sr : Int) := by rw [IntKind.wrap_u64]; omega
 have HLE := Lib.hid hlen
 have earr : arr l.k = .agg LK.toArray := by unfold arr; rw [hLK]
 have elf : leafV (.slice a l.v.length c) l.s = .agg #[.slice a n c, .int .u64 (s : Int)] := by rw [hnn, hss]; rfl
 rw [earr, elf]
 have HSRX := Lib.hid (And.intro hsrl hsl)
 clear htr hn hk hv hs hlen hkl hLK hnn hss hst hlook hsome hws hkn hle hfit hsr hf hglt hmlt hmg hesl hT256 hen hb1 hb2 s1 hbel hlk hgl hln hstay hdone hno4 hfz earr elf hv2 hsl hsrl
 go_enter Tryz.func43, Tryz.ntmps43
 go_upto_region 1 with (fail)
 generalize (w.alloc (.cells LK.toArray 27)).alloc (.cells #[.slice a n c, .int .u64 (s : Int)] 50) = W0 at HB1 HB2 HBEL ⊢
 obtain ⟨Bk, hBk⟩ : ∃ B, B = w.heap.size := ⟨_, rfl⟩
 obtain ⟨Bl, hBl⟩ : ∃ B, B = w.heap.size + 1 := ⟨_, rfl⟩
 rw [← hBk] at HB1
 rw [← hBl] at HB2
 rw [← hBl, ← hBk]
 have d0 : W0.cell? ⟨Bl, 0, none⟩ = some (.slice a n c) := HB2.out.cell_is rfl
 have d1 : W0.cell? ⟨Bl, 1, none⟩ = some (.int .u64 (s : Int)) := HB2.out.cell_is rfl
 have EBK := Lib.hid hBk
 have EBL := Lib.hid hBl
 clear hBk hBl
 go_wp2_with fail
 refine (none_is W0 a n c s (by omega)).mono ?_
 rintro _ w1 ⟨rfl, hb1⟩
 have HB11 := Lib.hid (HB1.out.below hb1 HB1.out.lt)
 have HB21 := Lib.hid (HB2.out.below hb1 HB2.out.lt)
 have HBE1 := Lib.hid (HBEL.out.trans (hb1.mono HBEL.out.size))
 have HL1 := Lib.hid (show Bl < w1.heap.size from (HB2.out.below hb1 HB2.out.lt).lt)
 clear hb1 d0 d1 HB1 HB2 HBEL
 have d0 : w1.cell? ⟨Bl, 0, none⟩ = some (.slice a n c) := HB21.out.cell_is rfl
 have d1 : w1.cell? ⟨Bl, 1, none⟩ = some (.int .u64 (s : Int)) := HB21.out.cell_is rfl
 by_cases hN : n = 0 ∧ s = 0
 · have HN := Lib.hid hN
   have hd : decide (n = 0 ∧ s = 0) = true := decide_eq_true hN
   rw [hd]
   clear hN hd
   go_wp2
   go_ret
   exact HSTAY.out w1 HBE1.out (by rw [← E1.out HN.out]; decide) 1 (E1.out HN.out)
 have HN := Lib.hid hN
 have hd : decide (n = 0 ∧ s = 0) = false := decide_eq_false hN
 rw [hd]
 clear hN hd
 by_cases hL : 65536 < n
 · have HL := Lib.hid hL
   have hL2 : (65536 : Int) < (n : Int) := by omega
   go_wp2
   go_ret
   exact HSTAY.out w1 HBE1.out (by rw [← E3.out HN.out HL.out]; decide) 3 (E3.out HN.out HL.out)
 have HL := Lib.hid hL
 have hL2 : ¬ (65536 : Int) < (n : Int) := by omega
 clear hL
 have hS : ∀ v, Below w.heap.size w v → Below w1.heap.size w1 v → (v.cell? ⟨g, 8484, none⟩ = some (.map (some m)) ∧ v.rangeAt Bk 0 LK ∧ (Instr.lookup 149 (.map (some m)) (.agg LK.toArray) true).run Tryz.prog v = .ok (.tuple #[.agg #[.slice a0 n0 c0, .int .u64 (ws : Int)], .bool kn]) v) := fun v h1 h2 =>
   ⟨(HGL.out v h1).1, (HB11.out.below h2 HB11.out.lt).row0, HLK.out v h1⟩
 have hS5 := hS w1.drew HBE1.out.drew (Below.refl _ _).drew
 have hal : Below w1.heap.size w1 (w1.alloc (.cells #[.slice none 0 0, .int .u64 0] 50)).drew := ((Below.refl _ _).drew).alloc (Nat.le_refl _) _
 have hSa9 := hS _ (HBE1.out.trans (hal.mono HBE1.out.size)) hal
 have hnew : Has (w1.alloc (.cells #[.slice none 0 0, .int .u64 0] 50)).drew w1.heap.size 50 #[.slice none 0 0, .int .u64 0] := Has.new w1.drew _ _
 obtain ⟨p1, p2⟩ := row_set (L := [Value.slice a0 n0 c0, .int .u64 (ws : Int)]) hnew rfl
 have hal2 : Below w1.heap.size w1 ((w1.alloc (.cells #[.slice none 0 0, .int .u64 0] 50)).drew.setCells w1.heap.size 0 [Value.slice a0 n0 c0, .int .u64 (ws : Int)]) := hal.trans (p2.below hal.size (fun k e => by have e' : k = w1.heap.size := e; omega))
 have hS5b := hS _ (HBE1.out.trans (hal2.mono HBE1.out.size)) hal2
 have HTH5 := Lib.hid (hnew.there 0 2 (by decide))
 have HP1 := Lib.hid p1
 have HAL2 := Lib.hid hal2
 have HBE2 := Lib.hid (HBE1.out.trans (hal2.mono HBE1.out.size))
 clear hS hal hnew p1 p2 hal2
 go_upto_region 5 with (fail)
 refine wp_region_noPanic ?_
 refine wp_region_held_drew (S := fun w' => w'.cell? ⟨g, 8484, none⟩ = some (.map (some m)) ∧ w'.rangeAt Bk 0 LK ∧ (Instr.lookup 149 (.map (some m)) (.agg LK.toArray) true).run Tryz.prog w' = .ok (.tuple #[.agg #[.slice a0 n0 c0, .int .u64 (ws : Int)], .bool kn]) w') (by kernel_rfl) hS5 (fun hH0 => ?_)
 refine tk 0 (v := (.pointer (some ⟨g, 0, none⟩))) rfl (Or.inl ⟨by kernel_rfl, by intro w' hS; obtain ⟨e0, e1, e2⟩ := hS; go_simp⟩) hH0 ?_
 simp only [Act.put, qa]
 refine tk 1 (v := (.pointer (some ⟨g, 0, none⟩))) rfl (Or.inl ⟨by kernel_rfl, by intro w' hS; obtain ⟨e0, e1, e2⟩ := hS; go_simp⟩) hH0 ?_
 simp only [Act.put, qa]
 refine tk 2 (v := (.pointer (some ⟨g, 8484, none⟩))) rfl (Or.inl ⟨by kernel_rfl, by intro w' hS; obtain ⟨e0, e1, e2⟩ := hS; go_simp⟩) hH0 ?_
 simp only [Act.put, qa]
 refine tk 3 (v := (.map (some m))) rfl (Or.inl ⟨by kernel_rfl, by intro w' hS; obtain ⟨e0, e1, e2⟩ := hS; go_simp⟩) hH0 ?_
 simp only [Act.put, qa]
 refine tk 4 (v := (.agg LK.toArray)) rfl (yieldsIf_load_mid (by kernel_rfl) 27 (.tmp 4) rfl Bk 0 rfl LK _ (fun w' h => h.2.1) Tryz.underlying27 rfl SZK.out) hH0 ?_
 simp only [Act.put, qa]
 refine tk 5 (v := (.tuple #[.agg #[.slice a0 n0 c0, .int .u64 (ws : Int)], .bool kn])) rfl (Or.inl ⟨by kernel_rfl, by intro w' hS; obtain ⟨e0, e1, e2⟩ := hS; go_simp⟩) hH0 ?_
 simp only [Act.put, qa]
 refine tk 6 (v := (.tuple #[.agg #[.slice a0 n0 c0, .int .u64 (ws : Int)], .bool kn])) rfl (Or.inl ⟨by kernel_rfl, by intro w' hS; obtain ⟨e0, e1, e2⟩ := hS; go_simp⟩) hH0 ?_
 simp only [Act.put, qa]
 refine tk 7 (v := (.agg #[.slice a0 n0 c0, .int .u64 (ws : Int)])) rfl (Or.inl ⟨by kernel_rfl, by intro w' hS; obtain ⟨e0, e1, e2⟩ := hS; go_simp⟩) hH0 ?_
 simp only [Act.put, qa]
 refine tk 8 (v := (.bool kn)) rfl (Or.inl ⟨by kernel_rfl, by intro w' hS; obtain ⟨e0, e1, e2⟩ := hS; go_simp⟩) hH0 ?_
 simp only [Act.put, qa]
 refine wpAnyH_ready (rs := [9]) (by kernel_rfl) (by simp) ?_
 refine AllReadyH.cons rfl (fun K hK => ?_) AllReadyH.nil
 go_simp
 refine Shut.out hK _ _ hSa9 (fun hH1 => ?_)
 clear hK K
 try simp only [Act.put, qa]
 refine wpAnyH_ready (rs := [10]) (by kernel_rfl) (by simp) ?_
 refine AllReadyH.cons rfl (fun K hK => ?_) AllReadyH.nil
 refine step_store_mid rfl 50 (.tmp 7) (.tmp 30) rfl w1.heap.size 0 #[.slice a0 n0 c0, .int .u64 (ws : Int)] rfl rfl HTH5.out SZL.out ONEL.out ?_
 refine Shut.out hK _ _ hS5b (fun hH2 => ?_)
 clear hK K
 try simp only [Act.put, qa]
 refine tk 11 (v := (.bool kn)) rfl (Or.inl ⟨by kernel_rfl, by intro w' hS; obtain ⟨e0, e1, e2⟩ := hS; go_simp⟩) hH2 ?_
 simp only [Act.put, qa]
 refine wpAnyH_done (by kernel_rfl) ?_ _
 refine NoPanic.normal ?_
 clear hH0 hH1 hH2 hS5 hSa9 hS5b
 have hb12 := HB11.out.below HAL2.out HB11.out.lt
 have hb22 := HB21.out.below HAL2.out HB21.out.lt
 clear d0 d1
 generalize (w1.alloc (.cells #[.slice none 0 0, .int .u64 0] 50)).drew.setCells w1.heap.size 0 [Value.slice a0 n0 c0, .int .u64 (ws : Int)] = W2 at HP1 HAL2 HBE2 hb12 hb22 ⊢
 obtain ⟨B7, hB7⟩ : ∃ B, B = w1.heap.size := ⟨_, rfl⟩
 rw [← hB7] at HP1 ⊢
 have HB12 := Lib.hid hb12
 have HB22 := Lib.hid hb22
 clear hb12 hb22 hB7
 have hln : ∀ ty, (Builtin.len_ #[149] ty #[.map (some m)]).run Tryz.prog W2 = .ok (.int .i64 (en : Int)) W2 := fun ty => HLN.out W2 ty HBE2.out
 have d84 : W2.cell? ⟨g, 8484, none⟩ = some (.map (some m)) := (HGL.out W2 HBE2.out).1
 go_upto_region 6 with (fail)
 go_cut [41] from 11 (fun cc wx => W2 = wx ∧ cc = .bool (decide (kn = false ∧ 256 ≤ en)))
 case first =>
   cases kn with
   | true =>
     go_wp2
     go_meet
     case rel => exact ⟨rfl, rfl⟩
   | false =>
     by_cases hM : 256 ≤ en
     · have HD := Lib.hid (show decide ((false : Bool) = false ∧ 256 ≤ en) = true from decide_eq_true ⟨rfl, hM⟩)
       have hM2 : (256 : Int) ≤ (en : Int) := by omega
       go_wp2
       go_meet
       case rel => exact ⟨rfl, by rw [HD.out]⟩
     · have HD := Lib.hid (show decide ((false : Bool) = false ∧ 256 ≤ en) = false from decide_eq_false (fun e => hM e.2))
       have hM2 : ¬ (256 : Int) ≤ (en : Int) := by omega
       go_wp2
       go_meet
       case rel => exact ⟨rfl, by rw [HD.out]⟩
 case rest =>
 obtain ⟨hw, hc⟩ := hcut
 subst hw
 subst hc
 clear hln d84
 by_cases hM : kn = false ∧ 256 ≤ en
 · have HM := Lib.hid hM
   have hd : decide (kn = false ∧ 256 ≤ en) = true := decide_eq_true hM
   rw [hd]
   clear hM hd
   go_wp2
   go_ret
   exact HSTAY.out W2 HBE2.out (by rw [← E4.out HN.out HL.out HM.out.1 HM.out.2]; decide) 4 (E4.out HN.out HL.out HM.out.1 HM.out.2)
 have HM := Lib.hid (show kn = true ∨ en < 256 from by
   cases kn with
   | true => exact .inl rfl
   | false => exact .inr (by have : ¬ 256 ≤ en := fun e => hM ⟨rfl, e⟩; omega))
 have hd : decide (kn = false ∧ 256 ≤ en) = false := decide_eq_false hM
 rw [hd]
 clear hM hd
 have d85 : W2.cell? ⟨g, 8485, none⟩ = some (.int .u64 (st : Int)) := (HGL.out W2 HBE2.out).2
 have d71 : W2.cell? ⟨B7, 1, none⟩ = some (.int .u64 (ws : Int)) := HP1.out.cell_is rfl
 have dl1 : W2.cell? ⟨Bl, 1, none⟩ = some (.int .u64 (s : Int)) := HB22.out.cell_is rfl
 have hS8 : W2.drew.cell? ⟨g, 8485, none⟩ = some (.int .u64 (st : Int)) ∧ W2.drew.cell? ⟨B7, 1, none⟩ = some (.int .u64 (ws : Int)) ∧ W2.drew.cell? ⟨Bl, 1, none⟩ = some (.int .u64 (s : Int)) := ⟨d85, d71, dl1⟩
 have hS8b := hS8
 clear d85 d71 dl1
 by_cases hfits : sr + s < 18446744073709551616
 · have hadd := add_fits W2.drew sr s hfits
   obtain ⟨sn, hsn⟩ : ∃ x, x = sr + s := ⟨_, rfl⟩
   rw [← hsn] at hadd
   have HADD := Lib.hid hadd
   have ESN := Lib.hid hsn
   have HFT := Lib.hid hfits
   clear hadd hsn hfits
   go_upto_region 8 with (fail)
   refine wp_region_noPanic ?_
   refine wp_region_held_drew (S := fun w' => w'.cell? ⟨g, 8485, none⟩ = some (.int .u64 (st : Int)) ∧ w'.cell? ⟨B7, 1, none⟩ = some (.int .u64 (ws : Int)) ∧ w'.cell? ⟨Bl, 1, none⟩ = some (.int .u64 (s : Int))) (by kernel_rfl) hS8 (fun hH0 => ?_)
   refine tk 0 (v := (.pointer (some ⟨g, 0, none⟩))) rfl (Or.inl ⟨by kernel_rfl, by intro w' hS; obtain ⟨e0, e1, e2⟩ := hS; go_simp⟩) hH0 ?_
   simp only [Act.put, qa]
   refine tk 1 (v := (.pointer (some ⟨g, 0, none⟩))) rfl (Or.inl ⟨by kernel_rfl, by intro w' hS; obtain ⟨e0, e1, e2⟩ := hS; go_simp⟩) hH0 ?_
   simp only [Act.put, qa]
   refine tk 2 (v := (.pointer (some ⟨g, 8485, none⟩))) rfl (Or.inl ⟨by kernel_rfl, by intro w' hS; obtain ⟨e0, e1, e2⟩ := hS; go_simp⟩) hH0 ?_
   simp only [Act.put, qa]
   refine tk 3 (v := (.int .u64 (st : Int))) rfl (Or.inl ⟨by kernel_rfl, by intro w' hS; obtain ⟨e0, e1, e2⟩ := hS; go_simp⟩) hH0 ?_
   simp only [Act.put, qa]
   refine tk 4 (v := (.pointer (some ⟨B7, 1, none⟩))) rfl (Or.inl ⟨by kernel_rfl, by intro w' hS; obtain ⟨e0, e1, e2⟩ := hS; go_simp⟩) hH0 ?_
   simp only [Act.put, qa]
   refine tk 5 (v := (.int .u64 (ws : Int))) rfl (Or.inl ⟨by kernel_rfl, by intro w' hS; obtain ⟨e0, e1, e2⟩ := hS; go_simp⟩) hH0 ?_
   simp only [Act.put, qa]
   refine tk 6 (v := (.int .u64 (sr : Int))) rfl (Or.inl ⟨by kernel_rfl, by intro w' hS; obtain ⟨e0, e1, e2⟩ := hS; go_simp⟩) hH0 ?_
   simp only [Act.put, qa]
   refine tk 7 (v := (.pointer (some ⟨Bl, 1, none⟩))) rfl (Or.inl ⟨by kernel_rfl, by intro w' hS; obtain ⟨e0, e1, e2⟩ := hS; go_simp⟩) hH0 ?_
   simp only [Act.put, qa]
   refine tk 8 (v := (.int .u64 (s : Int))) rfl (Or.inl ⟨by kernel_rfl, by intro w' hS; obtain ⟨e0, e1, e2⟩ := hS; go_simp⟩) hH0 ?_
   simp only [Act.put, qa]
   refine wpAnyH_ready (rs := [9]) (by kernel_rfl) (by simp) ?_
   refine AllReadyH.cons rfl (fun K hK => ?_) AllReadyH.nil
   go_simp
   refine HADD.out.mono ?_
   rintro _ v1 ⟨rfl, e9⟩
   subst e9
   refine Shut.out hK _ _ hS8b (fun hH1 => ?_)
   clear hK K
   try simp only [Act.put, qa]
   refine tk 10 (v := (.tuple #[.int .u64 (sn : Int), .int .i64 0])) rfl (Or.inl ⟨by kernel_rfl, by intro w' hS; obtain ⟨e0, e1, e2⟩ := hS; go_simp⟩) hH1 ?_
   simp only [Act.put, qa]
   refine tk 11 (v := (.int .u64 (sn : Int))) rfl (Or.inl ⟨by kernel_rfl, by intro w' hS; obtain ⟨e0, e1, e2⟩ := hS; go_simp⟩) hH1 ?_
   simp only [Act.put, qa]
   refine tk 12 (v := (.int .i64 0)) rfl (Or.inl ⟨by kernel_rfl, by intro w' hS; obtain ⟨e0, e1, e2⟩ := hS; go_simp⟩) hH1 ?_
   simp only [Act.put, qa]
   refine tk 13 (v := (.int .u64 (sn : Int))) rfl (Or.inl ⟨by kernel_rfl, by intro w' hS; obtain ⟨e0, e1, e2⟩ := hS; go_simp⟩) hH1 ?_
   simp only [Act.put, qa]
   refine tk 14 (v := (.int .i64 0)) rfl (Or.inl ⟨by kernel_rfl, by intro w' hS; obtain ⟨e0, e1, e2⟩ := hS; go_simp⟩) hH1 ?_
   simp only [Act.put, qa]
   refine wpAnyH_done (by kernel_rfl) ?_ _
   refine NoPanic.normal ?_
   clear hH0 hH1 hS8 hS8b
   have hb12 := HB12.out.drew
   have hb22 := HB22.out.drew
   have hbe := HBE2.out.drew
   generalize W2.drew = W3 at hb12 hb22 hbe ⊢
   have HB13 := Lib.hid hb12
   have HB23 := Lib.hid hb22
   have HBE3 := Lib.hid hbe
   have hcl := clone_bytes W3 _ l.v HLE.out (HV.out.alive hbe hbe.size)
   rw [← HVN.out] at hcl
   have HCL := Lib.hid hcl
   have d0 : W3.cell? ⟨Bl, 0, none⟩ = some (.slice a n c) := hb22.cell_is rfl
   clear hb12 hb22 hbe hcl
   go_wp2_with fail
   refine HCL.out.mono ?_
   rintro _ w4 ⟨v', rfl, hrow, hb4⟩
   obtain ⟨av, cv, hv', -⟩ := id hrow
   obtain ⟨nv, hnv⟩ : ∃ x, x = l.v.length := ⟨_, rfl⟩
   rw [← hnv] at hv'
   subst hv'
   have hb24 := HB23.out.below hb4 HB23.out.lt
   have hb14 := HB13.out.below hb4 HB13.out.lt
   have hset := hb24.set 0 (.slice av nv cv)
   have hk5 : Kept (· = Bl) w4 (w4.setCell ⟨Bl, 0, none⟩ (.slice av nv cv)) := (Kept.refl (· = Bl) w4).set (p := ⟨Bl, 0, none⟩) (.inl rfl) _
   have d0 : w4.cell? ⟨Bl, 0, none⟩ = some (.slice a n c) := hb24.cell_is rfl
   have f0 : w4.frozen? ⟨Bl, 0, none⟩ = false := hb24.free _
   have hBl3 : Bl < W3.heap.size := HB23.out.lt
   have hBw : w.heap.size ≤ Bk ∧ Bk < Bl := by have h1 := EBK.out; have h2 := EBL.out; omega
   have hbe5 : Below w.heap.size w (w4.setCell ⟨Bl, 0, none⟩ (.slice av nv cv)) := (HBE3.out.trans (hb4.mono HBE3.out.size)).trans (hk5.below (by have h1 := HBE3.out.size; have h2 := hb4.size; omega) (fun k e => by have e' : k = Bl := e; omega))
   have hrow5 : RowB (fun k => w.heap.size ≤ k) (w4.setCell ⟨Bl, 0, none⟩ (.slice av nv cv)) (.slice av nv cv) l.v := (hrow.kept hk5 (fun k _ h e => by have e' : k = Bl := e; have h' : W3.heap.size ≤ k := h; omega)).zone (fun k _ h => by have h' : W3.heap.size ≤ k := h; have := HBE3.out.size; show w.heap.size ≤ k; omega)
   have hb15 := hb14.kept hk5 (by omega)
   have HSET := Lib.hid hset
   have HB15 := Lib.hid hb15
   have HBE5 := Lib.hid hbe5
   have HROW5 := Lib.hid hrow5
   have HBB := Lib.hid hBw
   clear hrow hb4 hb24 hb14 hset hk5 hBl3 hBw hbe5 hrow5 hb15 hnv
   go_upto_region 12 with (fail)
   generalize w4.setCell ⟨Bl, 0, none⟩ (.slice av nv cv) = W5 at HSET HB15 HBE5 HROW5 ⊢
   have hbd : Below w.heap.size w W5.drew := HBE5.out.drew
   have hrd : RowB (fun k => w.heap.size ≤ k) W5.drew (.slice av nv cv) l.v := HROW5.out.kept ((Kept.refl (fun _ => False) W5).drew) (fun _ _ _ h => h)
   obtain ⟨w6, v0, sti, q1, k6, w7, q5, k7, hfin⟩ := HDONE.out W5.drew (.slice av nv cv) hbd (E0.out HN.out HL.out HM.out HFT.out) hrd
   rw [← ESN.out] at hfin
   have elf : leafV (.slice av nv cv) l.s = .agg #[.slice av nv cv, .int .u64 (s : Int)] := by rw [HVS.out]; rfl
   rw [elf] at q5
   have hmk : m ≠ Bk ∧ m ≠ Bl ∧ g ≠ m ∧ g ≠ Bk ∧ g ≠ Bl := by
     have h1 := HBB.out
     have h2 := HGM.out
     exact ⟨by omega, by omega, fun e => h2.2.2 e.symm, by omega, by omega⟩
   have hSx : ∀ v, Kept (· = m) W5.drew v → (v.cell? ⟨g, 8484, none⟩ = some (.map (some m)) ∧ v.rangeAt Bk 0 LK ∧ v.cell? ⟨Bl, 0, none⟩ = some (.slice av nv cv) ∧ v.cell? ⟨Bl, 1, none⟩ = some (.int .u64 (s : Int))) := fun v hv => by
     have hh := (HSET.out.drew).kept hv (fun e => hmk.2.1 e.symm)
     exact ⟨cell_held hv (HGL.out _ hbd).1 hmk.2.2.1, ((HB15.out.drew).kept hv (fun e => hmk.1 e.symm)).row0, hh.cell_is rfl, hh.cell_is rfl⟩
   have hS12 := hSx W5.drew (Kept.refl _ _)
   have hS12b := hSx w6 k6
   have hS12c := hSx w7 k7
   have hS12d : ((w7.setCell ⟨g, 8485, none⟩ (.int .u64 (sn : Int))).cell? ⟨g, 8484, none⟩ = some (.map (some m)) ∧ (w7.setCell ⟨g, 8485, none⟩ (.int .u64 (sn : Int))).rangeAt Bk 0 LK ∧ (w7.setCell ⟨g, 8485, none⟩ (.int .u64 (sn : Int))).cell? ⟨Bl, 0, none⟩ = some (.slice av nv cv) ∧ (w7.setCell ⟨g, 8485, none⟩ (.int .u64 (sn : Int))).cell? ⟨Bl, 1, none⟩ = some (.int .u64 (s : Int))) := by
     have hk : Kept (· = g) w7 (w7.setCell ⟨g, 8485, none⟩ (.int .u64 (sn : Int))) := (Kept.refl (· = g) w7).set (p := ⟨g, 8485, none⟩) (.inl rfl) _
     refine ⟨(World.cell?_setCell_other _ ⟨g, 8485, none⟩ ⟨g, 8484, none⟩ _ (by simp)).trans hS12c.1, rangeAt_kept hS12c.2.1 hk (fun e => hmk.2.2.2.1 e.symm), cell_held hk hS12c.2.2.1 (fun e => hmk.2.2.2.2 e.symm), cell_held hk hS12c.2.2.2 (fun e => hmk.2.2.2.2 e.symm)⟩
   have c7 : w7.cell? ⟨g, 8485, none⟩ = some (.int .u64 (st : Int)) := cell_held k7 (HGL.out _ hbd).2 hmk.2.2.1
   have f7 : w7.frozen? ⟨g, 8485, none⟩ = false := HFZ0.out W5.drew w7 hbd k7
   have HFIN := Lib.hid hfin
   clear hbd hrd hfin elf hmk hSx k6 k7 d0 f0
   refine wp_region_noPanic ?_
   refine wp_region_held_drew (S := fun w' => w'.cell? ⟨g, 8484, none⟩ = some (.map (some m)) ∧ w'.rangeAt Bk 0 LK ∧ w'.cell? ⟨Bl, 0, none⟩ = some (.slice av nv cv) ∧ w'.cell? ⟨Bl, 1, none⟩ = some (.int .u64 (s : Int))) (by kernel_rfl) hS12 (fun hH0 => ?_)
   refine tk 0 (v := (.pointer (some ⟨g, 0, none⟩))) rfl (Or.inl ⟨by kernel_rfl, by intro w' hS; obtain ⟨e0, e1, e2, e3⟩ := hS; go_simp⟩) hH0 ?_
   simp only [Act.put, qa]
   refine tk 1 (v := (.pointer (some ⟨g, 0, none⟩))) rfl (Or.inl ⟨by kernel_rfl, by intro w' hS; obtain ⟨e0, e1, e2, e3⟩ := hS; go_simp⟩) hH0 ?_
   simp only [Act.put, qa]
   refine tk 2 (v := (.pointer (some ⟨g, 8484, none⟩))) rfl (Or.inl ⟨by kernel_rfl, by intro w' hS; obtain ⟨e0, e1, e2, e3⟩ := hS; go_simp⟩) hH0 ?_
   simp only [Act.put, qa]
   refine tk 3 (v := (.map (some m))) rfl (Or.inl ⟨by kernel_rfl, by intro w' hS; obtain ⟨e0, e1, e2, e3⟩ := hS; go_simp⟩) hH0 ?_
   simp only [Act.put, qa]
   refine tk 4 (v := (.agg LK.toArray)) rfl (yieldsIf_load_mid (by kernel_rfl) 27 (.tmp 4) rfl Bk 0 rfl LK _ (fun w' h => h.2.1) Tryz.underlying27 rfl SZK.out) hH0 ?_
   simp only [Act.put, qa]
   refine tk 5 (v := (.pointer (some ⟨g, 0, none⟩))) rfl (Or.inl ⟨by kernel_rfl, by intro w' hS; obtain ⟨e0, e1, e2, e3⟩ := hS; go_simp⟩) hH0 ?_
   simp only [Act.put, qa]
   refine tk 6 (v := (.agg #[.slice av nv cv, .int .u64 (s : Int)])) rfl (Or.inl ⟨by kernel_rfl, by intro w' hS; obtain ⟨e0, e1, e2, e3⟩ := hS; go_simp⟩) hH0 ?_
   simp only [Act.put, qa]
   refine tk 7 (v := (.int .u64 (sn : Int))) rfl (Or.inl ⟨by kernel_rfl, by intro w' hS; obtain ⟨e0, e1, e2, e3⟩ := hS; go_simp⟩) hH0 ?_
   simp only [Act.put, qa]
   refine wpAnyH_ready (rs := [8]) (by kernel_rfl) (by simp) ?_
   refine AllReadyH.cons rfl (fun K hK => ?_) AllReadyH.nil
   go_simp
   refine Shut.out hK _ _ hS12b (fun hH1 => ?_)
   clear hK K
   try simp only [Act.put, qa]
   refine tk 9 (v := (.int .i64 sti)) rfl (Or.inl ⟨by kernel_rfl, by intro w' hS; obtain ⟨e0, e1, e2, e3⟩ := hS; go_simp⟩) hH1 ?_
   simp only [Act.put, qa]
   refine wpAnyH_ready (rs := [10]) (by kernel_rfl) (by simp) ?_
   refine AllReadyH.cons rfl (fun K hK => ?_) AllReadyH.nil
   go_simp
   refine Shut.out hK _ _ hS12c (fun hH2 => ?_)
   clear hK K
   try simp only [Act.put, qa]
   refine tk 11 (v := (.pointer (some ⟨g, 0, none⟩))) rfl (Or.inl ⟨by kernel_rfl, by intro w' hS; obtain ⟨e0, e1, e2, e3⟩ := hS; go_simp⟩) hH2 ?_
   simp only [Act.put, qa]
   refine tk 12 (v := (.pointer (some ⟨g, 8485, none⟩))) rfl (Or.inl ⟨by kernel_rfl, by intro w' hS; obtain ⟨e0, e1, e2, e3⟩ := hS; go_simp⟩) hH2 ?_
   simp only [Act.put, qa]
   refine wpAnyH_ready (rs := [13]) (by kernel_rfl) (by simp) ?_
   refine AllReadyH.cons rfl (fun K hK => ?_) AllReadyH.nil
   go_simp
   refine Shut.out hK _ _ hS12d (fun hH3 => ?_)
   clear hK K
   try simp only [Act.put, qa]
   refine wpAnyH_done (by kernel_rfl) ?_ _
   refine NoPanic.normal ?_
   clear hH0 hH1 hH2 hH3 hS12 hS12b hS12c hS12d c7 f7 q1 q5
   go_wp2
   go_ret
   exact HFIN.out
 · have HFO := Lib.hid (show 18446744073709551616 ≤ sr + s ∧ sr + s < 36893488147419103232 by have := HSRX.out; omega)
   have HADD := Lib.hid (add_over W2.drew sr s HFO.out.1 HFO.out.2)
   have HFT := Lib.hid hfits
   clear hfits
   go_upto_region 8 with (fail)
   refine wp_region_noPanic ?_
   refine wp_region_held_drew (S := fun w' => w'.cell? ⟨g, 8485, none⟩ = some (.int .u64 (st : Int)) ∧ w'.cell? ⟨B7, 1, none⟩ = some (.int .u64 (ws : Int)) ∧ w'.cell? ⟨Bl, 1, none⟩ = some (.int .u64 (s : Int))) (by kernel_rfl) hS8 (fun hH0 => ?_)
   refine tk 0 (v := (.pointer (some ⟨g, 0, none⟩))) rfl (Or.inl ⟨by kernel_rfl, by intro w' hS; obtain ⟨e0, e1, e2⟩ := hS; go_simp⟩) hH0 ?_
   simp only [Act.put, qa]
   refine tk 1 (v := (.pointer (some ⟨g, 0, none⟩))) rfl (Or.inl ⟨by kernel_rfl, by intro w' hS; obtain ⟨e0, e1, e2⟩ := hS; go_simp⟩) hH0 ?_
   simp only [Act.put, qa]
   refine tk 2 (v := (.pointer (some ⟨g, 8485, none⟩))) rfl (Or.inl ⟨by kernel_rfl, by intro w' hS; obtain ⟨e0, e1, e2⟩ := hS; go_simp⟩) hH0 ?_
   simp only [Act.put, qa]
   refine tk 3 (v := (.int .u64 (st : Int))) rfl (Or.inl ⟨by kernel_rfl, by intro w' hS; obtain ⟨e0, e1, e2⟩ := hS; go_simp⟩) hH0 ?_
   simp only [Act.put, qa]
   refine tk 4 (v := (.pointer (some ⟨B7, 1, none⟩))) rfl (Or.inl ⟨by kernel_rfl, by intro w' hS; obtain ⟨e0, e1, e2⟩ := hS; go_simp⟩) hH0 ?_
   simp only [Act.put, qa]
   refine tk 5 (v := (.int .u64 (ws : Int))) rfl (Or.inl ⟨by kernel_rfl, by intro w' hS; obtain ⟨e0, e1, e2⟩ := hS; go_simp⟩) hH0 ?_
   simp only [Act.put, qa]
   refine tk 6 (v := (.int .u64 (sr : Int))) rfl (Or.inl ⟨by kernel_rfl, by intro w' hS; obtain ⟨e0, e1, e2⟩ := hS; go_simp⟩) hH0 ?_
   simp only [Act.put, qa]
   refine tk 7 (v := (.pointer (some ⟨Bl, 1, none⟩))) rfl (Or.inl ⟨by kernel_rfl, by intro w' hS; obtain ⟨e0, e1, e2⟩ := hS; go_simp⟩) hH0 ?_
   simp only [Act.put, qa]
   refine tk 8 (v := (.int .u64 (s : Int))) rfl (Or.inl ⟨by kernel_rfl, by intro w' hS; obtain ⟨e0, e1, e2⟩ := hS; go_simp⟩) hH0 ?_
   simp only [Act.put, qa]
   refine wpAnyH_ready (rs := [9]) (by kernel_rfl) (by simp) ?_
   refine AllReadyH.cons rfl (fun K hK => ?_) AllReadyH.nil
   go_simp
   refine HADD.out.mono ?_
   rintro _ v1 ⟨rfl, e9⟩
   subst e9
   refine Shut.out hK _ _ hS8b (fun hH1 => ?_)
   clear hK K
   try simp only [Act.put, qa]
   refine tk 10 (v := (.tuple #[.int .u64 (0 : Int), .int .i64 10])) rfl (Or.inl ⟨by kernel_rfl, by intro w' hS; obtain ⟨e0, e1, e2⟩ := hS; go_simp⟩) hH1 ?_
   simp only [Act.put, qa]
   refine tk 11 (v := (.int .u64 (0 : Int))) rfl (Or.inl ⟨by kernel_rfl, by intro w' hS; obtain ⟨e0, e1, e2⟩ := hS; go_simp⟩) hH1 ?_
   simp only [Act.put, qa]
   refine tk 12 (v := (.int .i64 10)) rfl (Or.inl ⟨by kernel_rfl, by intro w' hS; obtain ⟨e0, e1, e2⟩ := hS; go_simp⟩) hH1 ?_
   simp only [Act.put, qa]
   refine tk 13 (v := (.int .u64 (0 : Int))) rfl (Or.inl ⟨by kernel_rfl, by intro w' hS; obtain ⟨e0, e1, e2⟩ := hS; go_simp⟩) hH1 ?_
   simp only [Act.put, qa]
   refine tk 14 (v := (.int .i64 10)) rfl (Or.inl ⟨by kernel_rfl, by intro w' hS; obtain ⟨e0, e1, e2⟩ := hS; go_simp⟩) hH1 ?_
   simp only [Act.put, qa]
   refine wpAnyH_done (by kernel_rfl) ?_ _
   refine NoPanic.normal ?_
   clear hH0 hH1 hS8 hS8b
   go_wp2
   go_ret
   exact HSTAY.out W2.drew HBE2.out.drew (by rw [← E10.out HN.out HL.out HM.out HFT.out]; decide) 10 (E10.out HN.out HL.out HM.out HFT.out)
end Go.Proofs.YtknfbccbdiidjaaGreatDoor

