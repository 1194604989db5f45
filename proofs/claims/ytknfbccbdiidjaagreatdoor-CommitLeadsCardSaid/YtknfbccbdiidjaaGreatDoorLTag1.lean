/- Get and Drop of a tree, for callers. -/
import Derived.Test.YtknfbccbdiidjaaGreatDoorWu
import Derived.Test.YtknfbccbdiidjaaGreatDoorLRnEq
import Derived.Deep.WholeRow
import Derived.Deep.CutBlock
import Derived.DeepKeys
import Derived.ChangeKeysEq
import Derived.Laws.StructEq
import Derived.Test.YtknfbccbdiidjaaGreatDoorLKeys1
import Derived.Test.YtknfbccbdiidjaaGreatDoorLMem
import Derived.Laws.IdiomStrings
namespace Go.Proofs.YtknfbccbdiidjaaGreatDoor
set_option linter.unusedVariables false
set_option linter.unusedSimpArgs false
open Go.ChangeShapes Go.WideShapes Go.ChangeAt Go.RowKit Go.Maps

section
section
variable {K s0 : List Wd} {S : Nat → Prop} {w : World} {g : Nat} {T : List Lf}
end
end

/- The plain law of MsumSwaps: a leaf put in the place of another one, and taken away again. -/

theorem Tr.short {K s0 : List Wd} {S : Nat → Prop} {w : World} {g : Nat} {T : List Lf} (h : Tr K s0 S w g T) : ∀ t ∈ T, t.v.length ≤ 65536 := by obtain ⟨m, es, h⟩ := h; exact h.short

/- The plain law of MsumClimbs: a key's leaf with what stands beside its way makes the root. -/

def ownT (T : List Lf) (key : List Nat) : Nat → List Lf
 | 0 => T
 | d + 1 => side (ownT T key d) (255 - d) (bitAt key (255 - d))
def besideT (T : List Lf) (key : List Nat) (h : Nat) : List Lf := side (ownT T key (255 - h)) h (1 - bitAt key h)
theorem own_mem (T : List Lf) (key : List Nat) : ∀ (d : Nat), d ≤ 256 → ∀ t, t ∈ ownT T key d ↔ t ∈ T ∧ ∀ j, 256 - d ≤ j → j < 256 → bitAt t.k j = bitAt key j := by
 intro d
 induction d with
 | zero => exact fun _ t => ⟨fun h => ⟨h, fun j h1 h2 => absurd h2 (by omega)⟩, fun h => h.1⟩
 | succ d ih =>
  intro hd t
  show t ∈ side _ _ _ ↔ _
  unfold side
  rw [List.mem_filter, decide_eq_true_eq, ih (by omega) t]
  refine ⟨fun ⟨⟨h1, h2⟩, h3⟩ => ⟨h1, fun j hj hj2 => ?_⟩, fun ⟨h1, h2⟩ => ⟨⟨h1, fun j hj hj2 => h2 j (by omega) hj2⟩, h2 _ (by omega) (by omega)⟩⟩
  rcases Nat.lt_or_ge j (256 - d) with h | h
  · have e : j = 255 - d := by omega
    rw [e]; exact h3
  · exact h2 j h hj2
theorem own_sub (T : List Lf) (key : List Nat) : ∀ d, ∃ p : Lf → Bool, ownT T key d = T.filter p := by
 intro d
 induction d with
 | zero => exact ⟨fun _ => true, (List.filter_eq_self.2 (fun _ _ => rfl)).symm⟩
 | succ d ih =>
  obtain ⟨p, hp⟩ := ih
  refine ⟨fun t => decide (bitAt t.k (255 - d) = bitAt key (255 - d)) && p t, ?_⟩
  show side _ _ _ = _
  unfold side
  rw [hp, List.filter_filter]
theorem own_keyed {T : List Lf} (hk : Keyed (T.map (·.k))) (key : List Nat) (d : Nat) : Keyed ((ownT T key d).map (·.k)) := by
 obtain ⟨p, hp⟩ := own_sub T key d
 rw [hp]; exact hk.sub p
def climbN (K s0 : List Wd) (T : List Lf) (key : List Nat) (h : Nat) : Nd := partNd K s0 h (ownT T key (256 - h))
theorem climb_step (K s0 : List Wd) (T : List Lf) (key : List Nat) (h : Nat) (hh : h < 256) :
   climbN K s0 T key (h + 1) = if bitAt key h = 1 then brNd K s0 (partNd K s0 h (besideT T key h)) (climbN K s0 T key h) else brNd K s0 (climbN K s0 T key h) (partNd K s0 h (besideT T key h)) := by
 have e : 256 - h = (255 - h) + 1 := by omega
 have e2 : 256 - (h + 1) = 255 - h := by omega
 have e3 : 255 - (255 - h) = h := by omega
 have hb := bitAt_lt key h
 unfold climbN besideT
 rw [e2, e]
 show brNd K s0 (partNd K s0 h (side (ownT T key (255 - h)) h 0)) (partNd K s0 h (side (ownT T key (255 - h)) h 1)) = _
 show _ = if _ then brNd K s0 _ (partNd K s0 h (side (ownT T key (255 - h)) (255 - (255 - h)) (bitAt key (255 - (255 - h))))) else brNd K s0 (partNd K s0 h (side (ownT T key (255 - h)) (255 - (255 - h)) (bitAt key (255 - (255 - h))))) _
 rw [e3]
 rcases Nat.lt_or_ge (bitAt key h) 1 with h0 | h1
 · have hz : bitAt key h = 0 := by omega
   rw [hz, if_neg (by decide)]
 · have hz : bitAt key h = 1 := by omega
   rw [hz, if_pos rfl]
theorem climb_top (K s0 : List Wd) (T : List Lf) (key : List Nat) : climbN K s0 T key 256 = partNd K s0 256 T := rfl
theorem climb_leaf (K s0 : List Wd) {T : List Lf} (hk : Keyed (T.map (·.k))) {key : List Nat} (hkey : IsHash key) : climbN K s0 T key 0 = leafNd K s0 (valT T key) (wasS T key) := by
 unfold climbN
 have hkd := own_keyed hk key 256
 have hm := own_mem T key 256 (Nat.le_refl _)
 have Aa : ∀ t ∈ ownT T key 256, t.k = key := fun t ht => by
  obtain ⟨h1, h2⟩ := (hm t).1 ht
  exact key_ext (hk.hash _ (List.mem_map.2 ⟨t, h1, rfl⟩)) hkey (fun j hj => h2 j (Nat.zero_le _) hj)
 show partNd K s0 0 (ownT T key 256) = _
 cases hf : findT T key with
 | none =>
  have e : ownT T key 256 = [] := by
   cases hl : ownT T key 256 with
   | nil => rfl
   | cons t U =>
    have ht : t ∈ ownT T key 256 := by rw [hl]; exact List.mem_cons_self
    exact absurd (Aa t ht) (find_none hf t ((hm t).1 ht).1)
  rw [e]
  unfold valT wasS
  rw [hf]; rfl
 | some l =>
  obtain ⟨h1, h2⟩ := find_key hf
  have hl : l ∈ ownT T key 256 := (hm l).2 ⟨h2, fun j _ _ => by rw [h1]⟩
  unfold valT wasS
  rw [hf]
  cases hU : ownT T key 256 with
  | nil => rw [hU] at hl; cases hl
  | cons t U =>
   have ht : t ∈ ownT T key 256 := by rw [hU]; exact List.mem_cons_self
   have htT := ((hm t).1 ht).1
   have e1 := find_mem hk.nodup htT
   rw [Aa t ht, hf] at e1
   rw [Option.some.inj e1]
   rfl
section

/- The keys of a key's way, and those beside it, as Beside parts them. -/

def ownK (ks : List (List Nat)) (key : List Nat) : Nat → List (List Nat)
 | 0 => ks
 | d + 1 => (ownK ks key d).filter fun k => bitAt k (255 - d) = bitAt key (255 - d)
def besK (ks : List (List Nat)) (key : List Nat) (h : Nat) : List (List Nat) := (ownK ks key (255 - h)).filter fun k => bitAt k h = 1 - bitAt key h
section
variable {ks : List (List Nat)} {key : List Nat}
theorem ownK_mem : ∀ (d : Nat), ∀ k ∈ ownK ks key d, k ∈ ks := by
 intro d
 induction d with
 | zero => exact fun k h => h
 | succ d ih => exact fun k h => ih k (List.mem_filter.1 h).1
theorem ownK_sub : ∀ (d : Nat), (ownK ks key d).Sublist ks := by
 intro d
 induction d with
 | zero => exact List.Sublist.refl _
 | succ d ih => exact List.filter_sublist.trans ih
theorem ownK_bits : ∀ (d : Nat), d ≤ 256 → ∀ k ∈ ownK ks key d, ∀ j, 256 - d ≤ j → j < 256 → bitAt k j = bitAt key j := by
 intro d
 induction d with
 | zero => exact fun _ k h j h1 h2 => absurd h2 (by omega)
 | succ d ih =>
  intro hd k h j h1 h2
  obtain ⟨h3, h4⟩ := List.mem_filter.1 h
  have h4' := of_decide_eq_true h4
  rcases Nat.lt_or_ge j (256 - d) with hj | hj
  · have e : j = 255 - d := by omega
    rw [e]; exact h4'
  · exact ih (by omega) k h3 j hj h2
theorem ownK_coh (d : Nat) (hd : d ≤ 256) : Coh (ownK ks key d) (256 - d) := fun a ha b hb j h1 h2 => by
 rw [ownK_bits d hd a ha j h1 h2, ownK_bits d hd b hb j h1 h2]
theorem ownK_sorted (hs : Sorted ks) (d : Nat) : Sorted (ownK ks key d) := List.Pairwise.sublist (ownK_sub d) hs
theorem own_map {L : List Nat → Lf} (hL : ∀ k ∈ ks, (L k).k = k) : ∀ d, ownT (ks.map L) key d = (ownK ks key d).map L := by
 intro d
 induction d with
 | zero => rfl
 | succ d ih =>
  show side (ownT (ks.map L) key d) _ _ = _
  rw [ih, side_map (fun k hk => hL k (ownK_mem d k hk))]
  rfl
theorem bes_map {L : List Nat → Lf} (hL : ∀ k ∈ ks, (L k).k = k) (h : Nat) : besideT (ks.map L) key h = (besK ks key h).map L := by
 unfold besideT besK
 rw [own_map hL, side_map (fun k hk => hL k (ownK_mem _ k hk))]
theorem own_perm {T U : List Lf} (hp : T.Perm U) : ∀ d, (ownT T key d).Perm (ownT U key d) := by
 intro d
 induction d with
 | zero => exact hp
 | succ d ih => exact ih.filter _
theorem bes_perm {T U : List Lf} (hp : T.Perm U) (h : Nat) : (besideT T key h).Perm (besideT U key h) := (own_perm hp _).filter _
theorem bes_keyed {T : List Lf} (hk : Keyed (T.map (·.k))) (h : Nat) : Keyed ((besideT T key h).map (·.k)) := (own_keyed hk key _).sub _
theorem bes_coh {T : List Lf} (h : Nat) (hh : h < 256) : Coh ((besideT T key h).map (·.k)) h := fun a ha b hb j h1 h2 => by
 obtain ⟨s, hs, rfl⟩ := List.mem_map.1 ha
 obtain ⟨t, ht, rfl⟩ := List.mem_map.1 hb
 obtain ⟨s1, s2⟩ := List.mem_filter.1 hs
 obtain ⟨t1, t2⟩ := List.mem_filter.1 ht
 have s2' := of_decide_eq_true s2
 have t2' := of_decide_eq_true t2
 rcases Nat.lt_or_ge h j with e | e
 · rw [((own_mem T key (255 - h) (by omega) s).1 s1).2 j (by omega) h2, ((own_mem T key (255 - h) (by omega) t).1 t1).2 j (by omega) h2]
 · have e' : j = h := by omega
   rw [e', s2', t2']
theorem bes_part {T : List Lf} (hk : Keyed (T.map (·.k))) (ht : KeysT T ks) (K s0 : List Wd) (h : Nat) (hh : h < 256) : partNd K s0 h ((besK ks key h).map (leafAt T)) = partNd K s0 h (besideT T key h) := by
 have hL : ∀ k ∈ ks, (leafAt T k).k = k := fun k hk' => (find_key (leafAt_some T k (ht.find k hk'))).1
 rw [← bes_map hL]
 have e : (ks.map (leafAt T)).map (·.k) = ks := by
  rw [List.map_map]
  conv => rhs; rw [← List.map_id ks]
  exact List.map_congr_left fun k hk => hL k hk
 exact part_perm K s0 h _ _ (bes_keyed (by rw [e]; exact ⟨fun k hk' => hk.hash k ((ht.mem k).1 hk'), ht.sorted.nodup⟩) h) (bes_coh h hh) (bes_perm (ht.perm hk.nodup) h)
end
theorem bes_sum (T : List Lf) (key : List Nat) (h : Nat) (hh : h < 256) : sumT (ownT T key (256 - h)) + sumT (besideT T key h) = sumT (ownT T key (255 - h)) := by
 have e : 256 - h = (255 - h) + 1 := by omega
 have e2 : 255 - (255 - h) = h := by omega
 rw [e]
 show sumT (side (ownT T key (255 - h)) (255 - (255 - h)) (bitAt key (255 - (255 - h)))) + sumT (side (ownT T key (255 - h)) h (1 - bitAt key h)) = _
 rw [e2]
 have h2 := side_two (ownT T key (255 - h)) h
 have hb := bitAt_lt key h
 rcases Nat.lt_or_ge (bitAt key h) 1 with h0 | h1
 · have hz : bitAt key h = 0 := by omega
   rw [hz]; omega
 · have hz : bitAt key h = 1 := by omega
   rw [hz, Nat.sub_self]; omega
theorem own_le (T : List Lf) (key : List Nat) : ∀ d, sumT (ownT T key d) ≤ sumT T := by
 intro d
 induction d with
 | zero => exact Nat.le_refl _
 | succ d ih => exact Nat.le_trans (side_le _ _ _) ih
end

/- Nodes compared. -/

theorem nd_fields : ∃ f0 f1, (Tryz.prog.fieldsOf 30).toList = [f0, f1] ∧ (f0.name ≠ "_" ∧ f0.type = 27 ∧ f0.offset = 0) ∧ (f1.name ≠ "_" ∧ f1.type = 28 ∧ f1.offset = 32) := by
 unfold Program.fieldsOf
 rw [Tryz.underlying30]
 exact ⟨_, _, rfl, ⟨by decide, rfl, rfl⟩, ⟨by decide, rfl, rfl⟩⟩
theorem nd_struct : Tryz.prog.underlying 30 = some (.struct (Tryz.prog.fieldsOf 30)) := by
 unfold Program.fieldsOf
 rw [Tryz.underlying30]
section

/- What stands beside the way from a key to the root: the walk of Beside. -/

theorem enters_beside : ∀ args w, (callFunc 120 args).run Tryz.prog w = .ok (.enter 120 args) w := enters_of Tryz.func120 (by kernel_rfl) rfl
theorem info_node : (Tryz.prog.info? 30).map (fun i => (i.zero, i.size, i.bytes)) = some (some (.agg (List.replicate 32 (Value.int .u8 0) ++ [Value.int .u64 0]).toArray), 33, 40) := by kernel_rfl
theorem made_nodes : ∃ Z : Array Value, (∀ w, (Instr.makeSlice 37 (.int .i64 256) (.int .i64 256)).run Tryz.prog w = .ok (.slice (some ⟨w.heap.size, 0, none⟩) 256 256) (w.alloc (.cells Z 30))) ∧ Z.size = 8448 := by
 obtain ⟨i, h, h0, h1, h2⟩ := info_parts info_node
 refine ⟨madeCells (Value.agg (List.replicate 32 (Value.int .u8 0) ++ [Value.int .u64 0]).toArray).cells 8448, fun w => ?_, size_madeCells _ _⟩
 have := run_make (P := Tryz.prog) w 37 30 i _ Tryz.underlying37 h h0 .i64 .i64 256 256 (by decide) (by decide) (by rw [h2]; decide) (by decide)
 rw [h1] at this
 exact this
theorem at_node (b n c k : Nat) (hk : k < n) (w : World) : (Instr.indexAt 37 (.slice (some ⟨b, 0, none⟩) n c) (.int .i64 (k : Int))).run Tryz.prog w = .ok (.pointer (some ⟨b, k * 33, none⟩)) w := by
 have hu : Tryz.prog.underlying 37 = some (.slice (Tryz.prog.elem 37)) := by kernel_rfl
 have he : Tryz.prog.elem 37 = 30 := by kernel_rfl
 have hz : ∀ w, (sizeOf 30).run Tryz.prog w = .ok 33 w := fun w => by kernel_rfl
 rw [run_indexAt_slice w 37 ⟨b, 0, none⟩ n c .i64 (k : Int) hu, if_pos ⟨by omega, by omega⟩, he, hz]
 simp only [Result.andThen, Int.toNat_natCast, Addr.add_mid, Nat.zero_add]
theorem node_put {w : World} {g : Nat} {t : TypeId} {cs : Array Value} (h : Has w g t cs) (o : Nat) (n : Nd) (hn : IsHash n.h) (ho : o + 33 ≤ cs.size) :
   ∃ cs', Has (w.setCells g o (ndV n)) g t cs' ∧ cs'.size = cs.size ∧ (∀ i, i < o ∨ o + 33 ≤ i → cs'[i]? = cs[i]?) ∧ NodeAt cs' o n ∧ Kept (· = g) w (w.setCells g o (ndV n)) := by
 obtain ⟨cur, h1, h2, h3, h4⟩ := Has.setCells (ndV n) o w cs h
 have hl := ndV_len hn
 refine ⟨cur, h1, h2, fun i hi => ?_, fun j v hv => ?_, h4⟩
 · by_cases hlt : i < cs.size
   · rw [h3 i hlt, if_neg (by rw [hl]; omega)]
   · rw [Array.getElem?_eq_none (by omega), Array.getElem?_eq_none (by omega)]
 · have hj := (List.getElem?_eq_some_iff.1 hv).1
   change j < (ndV n).length at hj
   rw [hl] at hj
   rw [h3 _ (by omega), if_pos (by rw [hl]; omega), Nat.add_sub_cancel_left]
   exact hv
def OutAt (w : World) (B k : Nat) (f : Nat → Nd) : Prop := ∃ cs, Has w B 30 cs ∧ cs.size = 8448 ∧ ∀ h, k ≤ h → h < 256 → NodeAt cs (h * 33) (f h)
section
variable {w w' : World} {B k : Nat} {f : Nat → Nd}
theorem OutAt.kept {S : Nat → Prop} (h : OutAt w B k f) (hk : Kept S w w') (hs : ¬ S B) : OutAt w' B k f := by
 obtain ⟨cs, h1, h2, h3⟩ := h
 exact ⟨cs, h1.kept hk hs, h2, h3⟩
theorem OutAt.there (h : OutAt w B k f) (i : Nat) (hi : i < 256) : w.there B (i * 33) 33 := by
 obtain ⟨cs, h1, h2, h3⟩ := h
 exact h1.there _ _ (by omega)
theorem OutAt.range (h : OutAt w B k f) (i : Nat) (h1 : k ≤ i) (h2 : i < 256) : w.rangeAt B (i * 33) (ndV (f i)) := by
 obtain ⟨cs, h3, h4, h5⟩ := h
 exact nodeAt_range h3 (h5 i h1 h2)
theorem OutAt.put (h : OutAt w B (k + 1) f) (hk : k < 256) (hf : ∀ i, IsHash (f i).h) : OutAt (w.setCells B (k * 33) (ndV (f k))) B k f ∧ Kept (· = B) w (w.setCells B (k * 33) (ndV (f k))) := by
 obtain ⟨cs, h1, h2, h3⟩ := h
 obtain ⟨cs', p1, p2, p3, p4, p5⟩ := node_put h1 (k * 33) (f k) (hf k) (by omega)
 refine ⟨⟨cs', p1, by rw [p2, h2], fun i hi1 hi2 => ?_⟩, p5⟩
 rcases Nat.lt_or_ge k i with e | e
 · intro j v hv
   have hj : j < 33 := by
    have h1 := (List.getElem?_eq_some_iff.1 hv).1
    change j < (ndV (f i)).length at h1
    rwa [ndV_len (hf i)] at h1
   rw [p3 _ (.inr (by omega))]
   exact h3 i (by omega) hi2 j v hv
 · have e' : i = k := by omega
   rw [e']; exact p4
end
def cellI (w : World) : Value → Int
 | .pointer (some a) => match w.cell? a with
  | some (.int _ i) => i
  | _ => 0
 | _ => 0
theorem cellI_is {w : World} {a : Addr} {k : IntKind} {i : Int} (h : w.cell? a = some (.int k i)) : cellI w (.pointer (some a)) = i := by
 simp only [cellI, h]
structure BesW (K s0 : List Wd) (S : Nat → Prop) (g m : Nat) (es : List Ent) (T : List Lf) (key : List Nat) (ks : List (List Nat)) (w1 : World) (B : Nat) (hI : Int) (a : Option Addr) (n c Bh : Nat) (wr : World) : Prop where
 keys : KeysAt w1 a n (ownK ks key (255 - hI).toNat)
 cap : n ≤ c
 n256 : n ≤ 256
 fg : FarK a g
 fB : FarK a B
 top : w1.heap.size ≤ Bh
 box : Has wr Bh 3 #[.int .i64 hI]
 out : OutAt wr B (hI + 1).toNat (fun h => partNd K s0 h (besideT T key h))
 tree : TreeAt K s0 S wr g m es T
 kept : Kept (fun j => j = g ∨ j = B) w1 wr
section
variable {w : World} {a : Option Addr} {n : Nat} {ks : List (List Nat)}
theorem KeysAt.lo2 (h : KeysAt w a n ks) (c p : Nat) (hc : n ≤ c) (hp : p ≤ n) (g B : Nat) (hg : FarK a g) (hB : FarK a B) :
  ∃ a1 c1, (∀ w', (Instr.slice 124 (.slice a n c) none (some (.int .i64 (p : Int))) none).run Tryz.prog w' = .ok (.slice a1 p c1) w') ∧ KeysAt w a1 p (ks.take p) ∧ p ≤ c1 ∧ FarK a1 g ∧ FarK a1 B := by
 obtain ⟨a1, c1, r1, k1, h1, f1⟩ := h.lo c p hc hp g hg
 obtain ⟨a2, c2, r2, _, _, f2⟩ := h.lo c p hc hp B hB
 have e := (r1 w).symm.trans (r2 w)
 injection e with e
 injection e with e
 exact ⟨a1, c1, r1, k1, h1, f1, by rw [e]; exact f2⟩
theorem KeysAt.hi2 (h : KeysAt w a n ks) (c p : Nat) (hc : n ≤ c) (hp : p ≤ n) (g B : Nat) (hg : FarK a g) (hB : FarK a B) :
  ∃ a1 c1, (∀ w', (Instr.slice 124 (.slice a n c) (some (.int .i64 (p : Int))) none none).run Tryz.prog w' = .ok (.slice a1 (n - p) c1) w') ∧ KeysAt w a1 (n - p) (ks.drop p) ∧ n - p ≤ c1 ∧ FarK a1 g ∧ FarK a1 B := by
 obtain ⟨a1, c1, r1, k1, h1, f1⟩ := h.hi c p hc hp g hg
 obtain ⟨a2, c2, r2, _, _, f2⟩ := h.hi c p hc hp B hB
 have e := (r1 w).symm.trans (r2 w)
 injection e with e
 injection e with e
 exact ⟨a1, c1, r1, k1, h1, f1, by rw [e]; exact f2⟩
end
section
variable (K s0 : List Wd) (S : Nat → Prop) (g m : Nat) (es : List Ent) (T : List Lf) (hlow : 2 + 1 ≤ g)
include hlow
set_option maxRecDepth 100000 in
set_option maxHeartbeats 8000000 in
theorem beside_is (w : World) (hT : Tabs K s0 w) (htr : TreeAt K s0 S w g m es T) (key : List Nat) (hkey : IsHash key) :
  Calls Tryz.prog 95 #[.pointer (some ⟨g, 0, none⟩), arr key] w fun e w' => ∃ B, e = .returned (.slice (some ⟨B, 0, none⟩) 256 256) ∧ w.heap.size ≤ B ∧ OutAt w' B 0 (fun h => partNd K s0 h (besideT T key h)) ∧ TreeAt K s0 S w' g m es T ∧ Kept (· = g) w w' := by
 obtain ⟨Z, hmk, hZs⟩ := made_nodes
 unfold arr
 obtain ⟨CK, hCK⟩ : ∃ C, C = (bcells key).toArray := ⟨_, rfl⟩
 rw [← hCK]
 have A6 : CK.size = 32 := by rw [hCK, List.size_toArray, bcells_length, hkey.1]
 have b3 := (Has.new w 27 CK).alloc (.cells Z 30)
 have b5 := Has.new (w.alloc (.cells CK 27)) 30 Z
 have s1 : ∀ (x : World) o, (x.alloc o).heap.size = x.heap.size + 1 := fun x o => by simp
 rw [s1] at b5
 have hk0 : Kept (fun _ => False) w ((w.alloc (.cells CK 27)).alloc (.cells Z 30)) := ((Kept.refl _ _).alloc _).alloc _
 have Bg : ((w.alloc (.cells CK 27)).alloc (.cells Z 30)).heap.size = w.heap.size + 2 := by rw [s1, s1]
 have Bf := hmk (w.alloc (.cells CK 27))
 rw [s1] at Bf
 have Au : g < w.heap.size := by obtain ⟨cs, hf⟩ := htr.frame; exact hf.obj.lt
 have HT := Hh hT
 have Bs := Hh htr
 have Bq := Hh hkey
 have Bm := Hh b3
 have Bn := Hh b5
 have Bj := Hh hk0
 have A4 := Hh Bg
 have B6 := Hh Au
 have B8 := Hh hZs
 have B4 := Hh hCK
 have B9 := Hh (show (Tryz.prog.info? 27).map (·.size) = some CK.size by rw [A6]; kernel_rfl)
 have Ar := Hh hlow
 clear hT htr hkey b3 b5 hk0 Bg Au hZs hCK A6 s1 hmk hlow
 go_enter Tryz.func95, Tryz.ntmps95
 go_upto_region 4 with (fail)
 clear Bf
 generalize (w.alloc (.cells CK 27)).alloc (.cells Z 30) = W0 at Bm Bn Bj A4 ⊢
 obtain ⟨B, hB⟩ : ∃ B, B = w.heap.size + 1 := ⟨_, rfl⟩
 rw [← hB] at Bn ⊢
 obtain ⟨Bk, hBk⟩ : ∃ B, B = w.heap.size := ⟨_, rfl⟩
 rw [← hBk] at Bm ⊢
 have EB := Hh (And.intro hB hBk)
 have A1 : TreeAt K s0 S W0 g m es T := Bs.o.kept Bj.o (fun _ _ _ h => h)
 have Ax := keysT_is K s0 S W0 A1
 have Av := Hh Ax
 have Bt := Hh A1
 clear hB hBk A1 Ax
 go_wp2_with fail
 refine Av.o.mono ?_
 rintro _ w1 ⟨a, n, c, ks, rfl, hkt, hka, hnc, hn, hA, hb1⟩
 have Au := B6.o
 have hw0 := A4.o
 have heb := EB.o
 have hw1 := hb1.size
 have hk1 : Kept (fun _ => False) W0 w1 := Kept.of_below hb1
 have Aj := hkt.sorted
 have Af : BesW K s0 S g m es T key ks w1 B 255 a n c w1.heap.size (w1.alloc (.cells #[.int .i64 255] 3)) := by
  have hk2 : Kept (fun _ => False) w1 (w1.alloc (.cells #[.int .i64 255] 3)) := (Kept.refl _ _).alloc _
  refine ⟨hka, hnc, hn, fun A hA' e => by have h1 := hA A hA'; omega, fun A hA' e => by have h1 := hA A hA'; omega, Nat.le_refl _, Has.new _ _ _, ?_, (Bt.o.kept hk1 (fun _ _ _ h => h)).kept hk2 (fun _ _ _ h => h), hk2.mono (fun _ _ h => h.elim)⟩
  exact ⟨Z, (Bn.o.kept hk1 (fun h => h)).kept hk2 (fun h => h), B8.o, fun h h1 h2 => by have h1' : (256 : Nat) ≤ h := h1; omega⟩
 have A2 := Hh Af
 have Bl := Hh hkt
 have Bp := Hh (show Kept (· = g) w w1 from (Bj.o.trans hk1).mono (fun _ _ h => h.elim))
 have B5 := Hh (show Has w1 Bk 27 CK from Bm.o.kept hk1 (fun h => h))
 have Az := Hh (show B < w1.heap.size ∧ g < B ∧ Bk < B ∧ g < Bk by omega)
 have B7 := Hh Aj
 have Aw := Hh (show Tabs K s0 w1 from (HT.o.kept Bj.o (fun _ h => h.elim)).kept hk1 (fun _ h => h.elim))
 clear hkt hka hnc hn hA hb1 Au hw0 heb hw1 hk1 Aj Af Av
 have hmf : ∀ (fn : Fn) (first cap : Array Value) (w : World), (Instr.makeFunc fn first cap).run Tryz.prog w = .ok (.func fn first cap) w := fun _ _ _ _ => rfl
 go_wp2_with fail
 go_loopw [6, 7] (fun kv bv wr => ∃ (hI : Int) (a : Option Addr) (n c Bh : Nat), kv = .slice a n c ∧ bv = .pointer (some ⟨Bh, 0, none⟩) ∧ -1 ≤ hI ∧ hI ≤ 255 ∧ BesW K s0 S g m es T key ks w1 B hI a n c Bh wr) (fun _ bv wr => (cellI wr bv + 1).toNat)
 case atStart => exact ⟨255, a, n, c, w1.heap.size, rfl, rfl, by omega, by omega, A2.o⟩
 case round =>
  clear A2
  obtain ⟨hI, a, n, c, Bh, rfl, rfl, hi1, hi2, hbw⟩ := hrel
  have Aa := Hh hbw
  have hbx : wr.cell? ⟨Bh, 0, none⟩ = some (.int .i64 hI) := hbw.box.cell_is rfl
  clear hbw
  by_cases hi0 : 0 ≤ hI
  · obtain ⟨h, rfl⟩ : ∃ h : Nat, hI = (h : Int) := ⟨hI.toNat, by omega⟩
    have hh : h < 256 := by omega
    have ed : (255 - (h : Int)).toNat = 255 - h := by omega
    have hka := Aa.o.keys
    rw [ed] at hka
    have Bx : ∀ k ∈ ownK ks key (255 - h), k ∈ ks := ownK_mem _
    have hso : Sorted (ownK ks key (255 - h)) := ownK_sorted B7.o _
    have hco : Coh (ownK ks key (255 - h)) (h + 1) := by
      have := ownK_coh (ks := ks) (key := key) (255 - h) (by omega)
      rwa [show 256 - (255 - h) = h + 1 by omega] at this
    have hkr : KeysAt wr a n (ownK ks key (255 - h)) := hka.kept Aa.o.kept (fun b o e e' => e'.elim (Aa.o.fg _ e) (Aa.o.fB _ e))
    have hbs := bsearch_is 120 (.pointer (some ⟨Bh, 0, none⟩)) wr h a n c (ownK ks key (255 - h)) (by have := Aa.o.n256; omega) hkr enters_beside
      (fun W k hW hk => turn_beside W k hk Bh h hh (cell_held (Kept.of_below (S := fun _ => False) hW) (Aa.o.box.cell_is rfl) (fun h => h)))
      (fun i j x y hi hj hij => sorted_mono hso hka.hash hh hco hi hj hij)
    have B0 := Hh hbs
    have B3 := Hh hka
    have As := Hh hso
    have B2 := Hh hco
    clear hka Bx hso hco hkr hbs ed hi0 hi1 hi2
    go_wp2_with fail
    refine B0.o.mono ?_
    rintro _ w2 ⟨p, pb, rfl, hpn, hp0, hp1, hb2⟩
    obtain ⟨e0, e1⟩ := split_at hp0 hp1
    obtain ⟨a1, c1, A7, Bd, hc1, A9, Bb⟩ := B3.o.lo2 c p Aa.o.cap hpn g B Aa.o.fg Aa.o.fB
    obtain ⟨a2, c2, A8, Be, hc2, Ba, Bc⟩ := B3.o.hi2 c p Aa.o.cap hpn g B Aa.o.fg Aa.o.fB
    have HE := Hh (And.intro e0 e1)
    have HP := Hh hpn
    have Ag := Hh (And.intro Bd (And.intro hc1 (And.intro A9 Bb)))
    have Ah := Hh (And.intro Be (And.intro hc2 (And.intro Ba Bc)))
    have Bz := Hh hb2
    clear hpn hp0 hp1 hb2 e0 e1 Bd hc1 A9 Bb Be hc2 Ba Bc B0 hbx
    go_upto_region 9 with (fail)
    go_region
    have hb2 : Below wr.heap.size wr w2.drew := Bz.o.drew
    clear A7 A8 Bz
    generalize w2.drew = V at hb2 ⊢
    have hbx : V.cell? ⟨Bh, 0, none⟩ = some (.int .i64 (h : Int)) := (Aa.o.box.below hb2 Aa.o.box.lt).cell_is rfl
    have hkw : Kept (fun j => j = g ∨ j = B) w1 V := Aa.o.kept.trans ((Kept.of_below (S := fun _ => False) hb2).mono (fun _ _ h => h.elim))
    have hck : Has V Bk 27 CK := B5.o.kept hkw (by have := Az.o; omega)
    have Al := bit_in key (h : Int) V Bq.o.1 (by omega) (by omega)
    unfold arr at Al
    rw [← B4.o, Int.toNat_natCast] at Al
    obtain ⟨bt, hbt⟩ : ∃ b : Nat, b = bitAt key h := ⟨_, rfl⟩
    rw [← hbt] at Al
    have hb2' : bt < 2 := by rw [hbt]; exact bitAt_lt key h
    have Bi := Hh hbt
    have A3 := Hh Al
    have B1 := Hh hck
    have Bu := Hh hb2
    clear Al hck hkw hbt hb2
    go_wp2_with (refine wpList_load_row rfl 27 (.tmp 3) rfl Bk rfl 27 CK (0, 0) _ B1.o Tryz.underlying27 rfl B9.o ?_)
    refine A3.o.mono ?_
    rintro _ W3 ⟨rfl, e3⟩
    have hb3 : Below wr.heap.size wr W3 := by rw [e3]; exact Bu.o.alloc Bu.o.size _
    have Ak := Hh hb3
    clear e3 hb3 hbx Bu B1 A3
    rcases (by omega : bt = 0 ∨ bt = 1) with h0 | h0
    · subst h0
      have An : ownK ks key (256 - h) = (ownK ks key (255 - h)).take p := by
       rw [show 256 - h = (255 - h) + 1 by omega]
       show (ownK ks key (255 - h)).filter _ = _
       rw [show 255 - (255 - h) = h by omega, ← Bi.o]
       exact HE.o.1
      have Af : besK ks key h = (ownK ks key (255 - h)).drop p := by
       unfold besK
       rw [← Bi.o]
       exact HE.o.2
      have hvw : Kept (fun j => j = g ∨ j = B) w1 W3.drew := (Aa.o.kept.trans ((Kept.of_below (S := fun _ => False) Ak.o).mono (fun _ _ h => h.elim))).drew
      have hvr : Kept (fun _ => False) wr W3.drew := (Kept.of_below (S := fun _ => False) Ak.o).drew
      have Ai : TreeAt K s0 S W3.drew g m es T := Aa.o.tree.kept hvr (fun _ _ _ h => h)
      have Ab := Aa.o.out.kept hvr (fun h => h)
      rw [show ((h : Int) + 1).toNat = h + 1 by omega] at Ab
      have Ae : Has W3.drew Bh 3 #[.int .i64 (h : Int)] := Aa.o.box.kept hvr (fun h => h)
      have hT3 : Tabs K s0 W3.drew := Aw.o.kept hvw (fun k e => by have h1 := Az.o; have h2 := Ar.o; have h3 := Aw.o.low; omega)
      have Am : KeysAt W3.drew a2 (n - p) (besK ks key h) := by
       rw [Af]
       exact Ah.o.1.kept hvw (fun b o e e' => e'.elim (Ah.o.2.2.1 _ e) (Ah.o.2.2.2 _ e))
      have hpt := part_is K s0 S g m es T Ar.o (leafAt T) (leafAt_some T) h (by omega) W3.drew hT3 Ai a2 (n - p) c2 (besK ks key h) Am Ah.o.2.1 (by have := Aa.o.n256; have := HP.o; omega) Ah.o.2.2.1 (by rw [Af]; first | exact As.o.take p | exact As.o.drop p) (B2.o.less (fun k hk => (List.mem_filter.1 hk).1) (b := 1 - bitAt key h) (fun k hk => of_decide_eq_true (List.mem_filter.1 hk).2)) (fun k hk => Bl.o.find k (ownK_mem _ k (List.mem_filter.1 hk).1))
      rw [bes_part Ai.keyed Bl.o K s0 h hh] at hpt
      obtain ⟨LN, hLN⟩ : ∃ L, L = ndV (partNd K s0 h (besideT T key h)) := ⟨_, rfl⟩
      have hln : LN.length = 33 := by rw [hLN]; exact ndV_len (part_hash K s0 Aw.o.len _ _)
      have Ao : Calls Tryz.prog 75 #[.pointer (some ⟨g, 0, none⟩), .slice a2 (n - p) c2, .int .i64 (h : Int)] W3.drew fun e v1 => e = .returned (.agg LN.toArray) ∧ Has v1 Bh 3 #[.int .i64 (h : Int)] ∧ OutAt v1 B (h + 1) (fun h => partNd K s0 h (besideT T key h)) ∧ BesW K s0 S g m es T key ks w1 B ((h : Int) - 1) a1 p c1 (v1.setCells B (h * 33) LN).heap.size ((v1.setCells B (h * 33) LN).alloc (.cells #[.int .i64 ((h : Int) - 1)] 3)) ∧ (v1.setCells B (h * 33) LN).cell? ⟨Bh, 0, none⟩ = some (.int .i64 (h : Int)) ∧ (v1.setCells B (h * 33) LN).there B (h * 33) 33 := by
       refine hpt.mono fun e v1 q => ?_
       have hg1 := Az.o
       have By := Aa.o.top
       have o1 := Ab.kept q.2.2 (by show ¬ B = g; omega)
       have b1 : Has v1 Bh 3 #[.int .i64 (h : Int)] := Ae.kept q.2.2 (by show ¬ Bh = g; omega)
       obtain ⟨o2, k2⟩ := o1.put hh (fun _ => part_hash K s0 Aw.o.len _ _)
       obtain ⟨f0, hf0⟩ : ∃ f : Nat → Nd, f = fun h => partNd K s0 h (besideT T key h) := ⟨_, rfl⟩
       have e0 : ndV ((fun h => partNd K s0 h (besideT T key h)) h) = LN := hLN.symm
       rw [e0] at o2 k2
       have t2 : TreeAt K s0 S (v1.setCells B (h * 33) LN) g m es T := by
         obtain ⟨cs, hf⟩ := q.2.1.frame
         exact Bs.o.framed ((Bp.o.step (hvw.trans (q.2.2.mono (fun _ _ e => .inl e))) (fun k e => by have := EB.o; omega)).step k2 (fun k e => by have e' : k = B := e; have := EB.o; omega)) (cs := cs) ⟨hf.obj.kept k2 (by omega), hf.size, hf.lock, hf.lv, hf.sm, hf.once⟩
       have k3 : Kept (fun _ => False) (v1.setCells B (h * 33) LN) ((v1.setCells B (h * 33) LN).alloc (.cells #[.int .i64 ((h : Int) - 1)] 3)) := (Kept.refl _ _).alloc _
       have kw : Kept (fun j => j = g ∨ j = B) w1 (v1.setCells B (h * 33) LN) := (hvw.trans (q.2.2.mono (fun _ _ e => .inl e))).trans (k2.mono (fun _ _ e => .inr e))
       refine ⟨by rw [q.1, hLN], b1, o1, ⟨?_, Ag.o.2.1, by have := Aa.o.n256; have := HP.o; omega, Ag.o.2.2.1, Ag.o.2.2.2, kw.size, Has.new _ _ _, ?_, t2.kept k3 (fun _ _ _ h => h), kw.trans (k3.mono (fun _ _ h => h.elim))⟩, (b1.kept k2 (by show ¬ Bh = B; omega)).cell_is rfl, o2.there h hh⟩
       · rw [show (255 - ((h : Int) - 1)).toNat = 256 - h by omega, An]
         exact Ag.o.1
       · rw [show ((h : Int) - 1 + 1).toNat = h by omega]
         exact o2.kept k3 (fun h => h)
      have hS0 : W3.cell? ⟨Bh, 0, none⟩ = some (.int .i64 (h : Int)) ∧ W3.there B (h * 33) 33 := ⟨Ae.cell_is rfl, Ab.there h hh⟩
      have Bw := Hh (show (Tryz.prog.info? 30).map (·.size) = some LN.toArray.size by rw [List.size_toArray, hln]; kernel_rfl)
      have A0 := Hh (show LN.toArray.all (·.oneCell') = true by rw [hLN]; exact ndV_one _)
      have Bv := Hh (show LN.toArray.size = 33 by rw [List.size_toArray, hln])
      have Br := Hh Ao
      have hat := at_node B 256 256 h hh
      have hq1 : wrap64 ((h : Int) - 1) = (h : Int) - 1 := by unfold wrap64; omega
      clear hvw hvr Ai Ab Ae hT3 Am hpt Ao hln hLN An Af
      go_upto_region 12 with (fail)
      refine wp_region_noPanic ?_
      refine wp_region_held_drew (S := (fun v => v.cell? ⟨Bh, 0, none⟩ = some (.int .i64 (h : Int)) ∧ v.there B (h * 33) 33)) (by kernel_rfl) hS0 (fun hH0 => ?_)
      refine tl 0 (v := ((.slice (some ⟨B, 0, none⟩) 256 256))) rfl (by intro w' hS; obtain ⟨e0, e1⟩ := hS; go_simp) hH0 ?_
      simp only [qc]
      refine tl 1 (v := (.int .i64 (h : Int))) rfl (by intro w' hS; obtain ⟨e0, e1⟩ := hS; go_simp) hH0 ?_
      simp only [qc]
      refine tl 2 (v := ((.pointer (some ⟨g, 0, none⟩)))) rfl (by intro w' hS; obtain ⟨e0, e1⟩ := hS; go_simp) hH0 ?_
      simp only [qc]
      refine tl 3 (v := ((.slice a2 (n - p) c2))) rfl (by intro w' hS; obtain ⟨e0, e1⟩ := hS; go_simp) hH0 ?_
      simp only [qc]
      refine tl 4 (v := (.int .i64 (h : Int))) rfl (by intro w' hS; obtain ⟨e0, e1⟩ := hS; go_simp) hH0 ?_
      simp only [qc]
      refine tl 6 (v := ((.slice a1 p c1))) rfl (by intro w' hS; obtain ⟨e0, e1⟩ := hS; go_simp) hH0 ?_
      simp only [qc]
      refine rdy [5] (ar1 rfl fun K hK => ?_)
      go_simp
      refine Br.o.mono ?_
      rintro _ v1 ⟨rfl, hv1, ho1, Ac, Ap, Aq⟩
      have hs1 : v1.cell? ⟨Bh, 0, none⟩ = some (.int .i64 (h : Int)) ∧ v1.there B (h * 33) 33 := ⟨hv1.cell_is rfl, ho1.there h hh⟩
      have A5 := Hh hs1.2
      have Ad := Hh Ac
      have Ay := Hh (And.intro Ap Aq)
      clear hv1 ho1 Ac Ap Aq
      refine hK _ _ hs1 fun hH1 => ?_
      clear hK K
      try simp only [qc]
      refine tl 7 (v := ((.pointer (some ⟨B, h * 33, none⟩)))) rfl (by intro w' hS; obtain ⟨e0, e1⟩ := hS; go_simp) hH1 ?_
      simp only [qc]
      refine rdy [8] (ar1 rfl fun K hK => ?_)
      refine step_store_mid rfl 30 (.tmp 46) (.tmp 44) rfl B (h * 33) LN.toArray rfl rfl (by rw [Bv.o]; exact A5.o) Bw.o A0.o ?_
      refine hK _ _ Ay.o fun hH2 => ?_
      clear hK K
      try simp only [qc]
      refine tl 9 (v := ((.slice a1 p c1))) rfl (by intro w' hS; obtain ⟨e0, e1⟩ := hS; go_simp) hH2 ?_
      simp only [qc]
      refine wpAnyH_done (by kernel_rfl) ?_ _
      refine NoPanic.normal ?_
      have hbx : (v1.setCells B (h * 33) LN).cell? ⟨Bh, 0, none⟩ = some (.int .i64 (h : Int)) := Ay.o.1
      have Ac := Ad.o
      clear Ad Ay hH0 hH1 hH2 hs1 hS0 A5 Ak
      generalize v1.setCells B (h * 33) LN = WB at hbx Ac ⊢
      have Ad := Hh Ac
      clear Ac
      go_wp2
      go_roundw
      case rel => exact ⟨(h : Int) - 1, _, _, _, WB.heap.size, rfl, rfl, by omega, by omega, Ad.o⟩
      case measure =>
       rw [cellI_is (Ad.o.box.cell_is rfl), cellI_is (Aa.o.box.cell_is rfl)]
       omega
    · subst h0
      have An : ownK ks key (256 - h) = (ownK ks key (255 - h)).drop p := by
       rw [show 256 - h = (255 - h) + 1 by omega]
       show (ownK ks key (255 - h)).filter _ = _
       rw [show 255 - (255 - h) = h by omega, ← Bi.o]
       exact HE.o.2
      have Af : besK ks key h = (ownK ks key (255 - h)).take p := by
       unfold besK
       rw [← Bi.o]
       exact HE.o.1
      have hvw : Kept (fun j => j = g ∨ j = B) w1 W3.drew := (Aa.o.kept.trans ((Kept.of_below (S := fun _ => False) Ak.o).mono (fun _ _ h => h.elim))).drew
      have hvr : Kept (fun _ => False) wr W3.drew := (Kept.of_below (S := fun _ => False) Ak.o).drew
      have Ai : TreeAt K s0 S W3.drew g m es T := Aa.o.tree.kept hvr (fun _ _ _ h => h)
      have Ab := Aa.o.out.kept hvr (fun h => h)
      rw [show ((h : Int) + 1).toNat = h + 1 by omega] at Ab
      have Ae : Has W3.drew Bh 3 #[.int .i64 (h : Int)] := Aa.o.box.kept hvr (fun h => h)
      have hT3 : Tabs K s0 W3.drew := Aw.o.kept hvw (fun k e => by have h1 := Az.o; have h2 := Ar.o; have h3 := Aw.o.low; omega)
      have Am : KeysAt W3.drew a1 p (besK ks key h) := by
       rw [Af]
       exact Ag.o.1.kept hvw (fun b o e e' => e'.elim (Ag.o.2.2.1 _ e) (Ag.o.2.2.2 _ e))
      have hpt := part_is K s0 S g m es T Ar.o (leafAt T) (leafAt_some T) h (by omega) W3.drew hT3 Ai a1 p c1 (besK ks key h) Am Ag.o.2.1 (by have := Aa.o.n256; have := HP.o; omega) Ag.o.2.2.1 (by rw [Af]; first | exact As.o.take p | exact As.o.drop p) (B2.o.less (fun k hk => (List.mem_filter.1 hk).1) (b := 1 - bitAt key h) (fun k hk => of_decide_eq_true (List.mem_filter.1 hk).2)) (fun k hk => Bl.o.find k (ownK_mem _ k (List.mem_filter.1 hk).1))
      rw [bes_part Ai.keyed Bl.o K s0 h hh] at hpt
      obtain ⟨LN, hLN⟩ : ∃ L, L = ndV (partNd K s0 h (besideT T key h)) := ⟨_, rfl⟩
      have hln : LN.length = 33 := by rw [hLN]; exact ndV_len (part_hash K s0 Aw.o.len _ _)
      have Ao : Calls Tryz.prog 75 #[.pointer (some ⟨g, 0, none⟩), .slice a1 p c1, .int .i64 (h : Int)] W3.drew fun e v1 => e = .returned (.agg LN.toArray) ∧ Has v1 Bh 3 #[.int .i64 (h : Int)] ∧ OutAt v1 B (h + 1) (fun h => partNd K s0 h (besideT T key h)) ∧ BesW K s0 S g m es T key ks w1 B ((h : Int) - 1) a2 (n - p) c2 (v1.setCells B (h * 33) LN).heap.size ((v1.setCells B (h * 33) LN).alloc (.cells #[.int .i64 ((h : Int) - 1)] 3)) ∧ (v1.setCells B (h * 33) LN).cell? ⟨Bh, 0, none⟩ = some (.int .i64 (h : Int)) ∧ (v1.setCells B (h * 33) LN).there B (h * 33) 33 := by
       refine hpt.mono fun e v1 q => ?_
       have hg1 := Az.o
       have By := Aa.o.top
       have o1 := Ab.kept q.2.2 (by show ¬ B = g; omega)
       have b1 : Has v1 Bh 3 #[.int .i64 (h : Int)] := Ae.kept q.2.2 (by show ¬ Bh = g; omega)
       obtain ⟨o2, k2⟩ := o1.put hh (fun _ => part_hash K s0 Aw.o.len _ _)
       obtain ⟨f0, hf0⟩ : ∃ f : Nat → Nd, f = fun h => partNd K s0 h (besideT T key h) := ⟨_, rfl⟩
       have e0 : ndV ((fun h => partNd K s0 h (besideT T key h)) h) = LN := hLN.symm
       rw [e0] at o2 k2
       have t2 : TreeAt K s0 S (v1.setCells B (h * 33) LN) g m es T := by
         obtain ⟨cs, hf⟩ := q.2.1.frame
         exact Bs.o.framed ((Bp.o.step (hvw.trans (q.2.2.mono (fun _ _ e => .inl e))) (fun k e => by have := EB.o; omega)).step k2 (fun k e => by have e' : k = B := e; have := EB.o; omega)) (cs := cs) ⟨hf.obj.kept k2 (by omega), hf.size, hf.lock, hf.lv, hf.sm, hf.once⟩
       have k3 : Kept (fun _ => False) (v1.setCells B (h * 33) LN) ((v1.setCells B (h * 33) LN).alloc (.cells #[.int .i64 ((h : Int) - 1)] 3)) := (Kept.refl _ _).alloc _
       have kw : Kept (fun j => j = g ∨ j = B) w1 (v1.setCells B (h * 33) LN) := (hvw.trans (q.2.2.mono (fun _ _ e => .inl e))).trans (k2.mono (fun _ _ e => .inr e))
       refine ⟨by rw [q.1, hLN], b1, o1, ⟨?_, Ah.o.2.1, by have := Aa.o.n256; have := HP.o; omega, Ah.o.2.2.1, Ah.o.2.2.2, kw.size, Has.new _ _ _, ?_, t2.kept k3 (fun _ _ _ h => h), kw.trans (k3.mono (fun _ _ h => h.elim))⟩, (b1.kept k2 (by show ¬ Bh = B; omega)).cell_is rfl, o2.there h hh⟩
       · rw [show (255 - ((h : Int) - 1)).toNat = 256 - h by omega, An]
         exact Ah.o.1
       · rw [show ((h : Int) - 1 + 1).toNat = h by omega]
         exact o2.kept k3 (fun h => h)
      have hS0 : W3.cell? ⟨Bh, 0, none⟩ = some (.int .i64 (h : Int)) ∧ W3.there B (h * 33) 33 := ⟨Ae.cell_is rfl, Ab.there h hh⟩
      have Bw := Hh (show (Tryz.prog.info? 30).map (·.size) = some LN.toArray.size by rw [List.size_toArray, hln]; kernel_rfl)
      have A0 := Hh (show LN.toArray.all (·.oneCell') = true by rw [hLN]; exact ndV_one _)
      have Bv := Hh (show LN.toArray.size = 33 by rw [List.size_toArray, hln])
      have Br := Hh Ao
      have hat := at_node B 256 256 h hh
      have hq1 : wrap64 ((h : Int) - 1) = (h : Int) - 1 := by unfold wrap64; omega
      clear hvw hvr Ai Ab Ae hT3 Am hpt Ao hln hLN An Af
      go_upto_region 12 with (fail)
      refine wp_region_noPanic ?_
      refine wp_region_held_drew (S := (fun v => v.cell? ⟨Bh, 0, none⟩ = some (.int .i64 (h : Int)) ∧ v.there B (h * 33) 33)) (by kernel_rfl) hS0 (fun hH0 => ?_)
      refine tl 0 (v := ((.slice (some ⟨B, 0, none⟩) 256 256))) rfl (by intro w' hS; obtain ⟨e0, e1⟩ := hS; go_simp) hH0 ?_
      simp only [qc]
      refine tl 1 (v := (.int .i64 (h : Int))) rfl (by intro w' hS; obtain ⟨e0, e1⟩ := hS; go_simp) hH0 ?_
      simp only [qc]
      refine tl 2 (v := ((.pointer (some ⟨g, 0, none⟩)))) rfl (by intro w' hS; obtain ⟨e0, e1⟩ := hS; go_simp) hH0 ?_
      simp only [qc]
      refine tl 3 (v := ((.slice a1 p c1))) rfl (by intro w' hS; obtain ⟨e0, e1⟩ := hS; go_simp) hH0 ?_
      simp only [qc]
      refine tl 4 (v := (.int .i64 (h : Int))) rfl (by intro w' hS; obtain ⟨e0, e1⟩ := hS; go_simp) hH0 ?_
      simp only [qc]
      refine tl 6 (v := ((.slice a2 (n - p) c2))) rfl (by intro w' hS; obtain ⟨e0, e1⟩ := hS; go_simp) hH0 ?_
      simp only [qc]
      refine rdy [5] (ar1 rfl fun K hK => ?_)
      go_simp
      refine Br.o.mono ?_
      rintro _ v1 ⟨rfl, hv1, ho1, Ac, Ap, Aq⟩
      have hs1 : v1.cell? ⟨Bh, 0, none⟩ = some (.int .i64 (h : Int)) ∧ v1.there B (h * 33) 33 := ⟨hv1.cell_is rfl, ho1.there h hh⟩
      have A5 := Hh hs1.2
      have Ad := Hh Ac
      have Ay := Hh (And.intro Ap Aq)
      clear hv1 ho1 Ac Ap Aq
      refine hK _ _ hs1 fun hH1 => ?_
      clear hK K
      try simp only [qc]
      refine tl 7 (v := ((.pointer (some ⟨B, h * 33, none⟩)))) rfl (by intro w' hS; obtain ⟨e0, e1⟩ := hS; go_simp) hH1 ?_
      simp only [qc]
      refine rdy [8] (ar1 rfl fun K hK => ?_)
      refine step_store_mid rfl 30 (.tmp 46) (.tmp 44) rfl B (h * 33) LN.toArray rfl rfl (by rw [Bv.o]; exact A5.o) Bw.o A0.o ?_
      refine hK _ _ Ay.o fun hH2 => ?_
      clear hK K
      try simp only [qc]
      refine tl 9 (v := ((.slice a2 (n - p) c2))) rfl (by intro w' hS; obtain ⟨e0, e1⟩ := hS; go_simp) hH2 ?_
      simp only [qc]
      refine wpAnyH_done (by kernel_rfl) ?_ _
      refine NoPanic.normal ?_
      have hbx : (v1.setCells B (h * 33) LN).cell? ⟨Bh, 0, none⟩ = some (.int .i64 (h : Int)) := Ay.o.1
      have Ac := Ad.o
      clear Ad Ay hH0 hH1 hH2 hs1 hS0 A5 Ak
      generalize v1.setCells B (h * 33) LN = WB at hbx Ac ⊢
      have Ad := Hh Ac
      clear Ac
      go_wp2
      go_roundw
      case rel => exact ⟨(h : Int) - 1, _, _, _, WB.heap.size, rfl, rfl, by omega, by omega, Ad.o⟩
      case measure =>
       rw [cellI_is (Ad.o.box.cell_is rfl), cellI_is (Aa.o.box.cell_is rfl)]
       omega
  · have hm1 : hI = -1 := by omega
    have Bo := Hh (show OutAt wr B 0 (fun h => partNd K s0 h (besideT T key h)) ∧ TreeAt K s0 S wr g m es T ∧ Kept (· = g) w wr by
      have h1 := Aa.o.out
      rw [show (hI + 1).toNat = 0 by omega] at h1
      refine ⟨h1, Aa.o.tree, ?_⟩
      exact Bp.o.step Aa.o.kept (fun k hk => by have := Az.o; have := EB.o; omega))
    clear hm1
    go_wp2
    go_ret
    exact ⟨B, rfl, by have := Az.o; have := EB.o; omega, Bo.o⟩
end
end
section

/- The walk of MsumClimbs. -/

theorem step_load_mid {P : Program} {ops : Array Oper} {op : Oper} {a : Act} {w : World} {K : Act → World → Prop} {Q : Exit → Act → World → Prop} (hw : Region.wanted op (yielded ops a.tmps) = true) (ty : TypeId) (x : Operand) (ho : op.op = .load ty x)
  (b o : Nat) (hx : a.eval x = .pointer (some ⟨b, o, none⟩)) (cs : List Value) (d : TypeDesc) (hc : w.rangeAt b o cs)
  (hu : P.underlying ty = some d) (hd : d.isRow = true) (hi : (P.info? ty).map (·.size) = some cs.length)
  (h : K (a.put op.dst (.agg cs.toArray)) w) : if Region.wanted op (yielded ops a.tmps) = true then Oper.wp P op a w K Q else K (a.put op.dst undef) w := by
 rw [if_pos hw]
 exact wp_load_mid ty x ho b o hx cs d hc hu hd hi h
theorem Tr.zg {K s0 : List Wd} {S : Nat → Prop} {w : World} {g : Nat} {T : List Lf} (h : Tr K s0 S w g T) : S g := by obtain ⟨m, es, h⟩ := h; exact h.zg
theorem climb_sum {K s0 : List Wd} {T : List Lf} (hk : Keyed (T.map (·.k))) (hf : sumT T < 18446744073709551616) {key : List Nat} {h : Nat} (hh : h < 256) : (climbN K s0 T key h).s + (partNd K s0 h (besideT T key h)).s < 18446744073709551616 := by
 have hco : Coh ((ownT T key (256 - h)).map (·.k)) h := fun a ha b hb j h1 h2 => by
  obtain ⟨s, hs, rfl⟩ := List.mem_map.1 ha
  obtain ⟨t, ht, rfl⟩ := List.mem_map.1 hb
  rw [((own_mem T key (256 - h) (by omega) s).1 hs).2 j (by omega) h2, ((own_mem T key (256 - h) (by omega) t).1 ht).2 j (by omega) h2]
 have h1 := part_sum K s0 h _ (own_keyed hk key (256 - h)) hco
 have h2 := part_sum K s0 h _ (bes_keyed hk h) (bes_coh (key := key) h hh)
 have h3 := bes_sum T key h hh
 have h4 := own_le T key (255 - h)
 unfold climbN
 omega
section
variable {K s0 : List Wd} {w v v' : World} {lo hi g B Bk Bn h : Nat} {T : List Lf} {key : List Nat} {CK : List Value}
end
end
/- The walks of sha.NewTag, sha.New and of what fills a tag's head. -/

def sbytes (s : ByteArray) : List Nat := s.data.toList.map UInt8.toNat
theorem sbytes_lt (s : ByteArray) : ∀ x ∈ sbytes s, x < 256 := by
 intro x hx
 obtain ⟨b, _, rfl⟩ := List.mem_map.1 hx
 exact b.toNat_lt
def tagP (s : ByteArray) (d l : Int) : List Value := [.string s, .int .u32 d, .int .i32 l, .int .u32 0]
def tag0 (s : ByteArray) : List Value := tcells (tagP s 0 0) (.int .i64 0) (List.replicate 8 0) (List.replicate 64 0) 0 0
theorem build_tag (s : ByteArray) (w : World) : (Instr.build 178 #[(0, .string s)]).run Tryz.prog w = .ok (.agg (tag0 s).toArray) w := by
 exact run_build w 178 _ _ (by kernel_rfl)
theorem newTag_is (s : ByteArray) (w : World) : Calls Tryz.prog 53 #[.string s] w fun e w' => e = .returned (.pointer (some ⟨w.heap.size, 0, none⟩)) ∧ w' = w.alloc (.cells (tag0 s).toArray 178) := by
 have hb := build_tag s
 obtain ⟨L, hL⟩ : ∃ L, L = (tag0 s).toArray := ⟨_, rfl⟩
 rw [← hL] at hb ⊢
 have HB := Hh hb
 clear hL hb
 go_enter Tryz.func53, Tryz.ntmps53
 go_wp2_with (refine wpList_build_run (by kernel_rfl) 178 _ rfl #[(0, .string s)] (by kernel_rfl) (.agg L) (HB.o _) ?_)
 go_ret
 exact ⟨rfl, rfl⟩
theorem build_hasher (s0 : List Wd) (h : s0.length = 8) (w : World) : (Instr.build 173 #[(0, .agg (wcells s0).toArray)]).run Tryz.prog w = .ok (.agg (hcells s0 (List.replicate 64 0) 0 0).toArray) w := by
 obtain ⟨x0, x1, x2, x3, x4, x5, x6, x7, rfl⟩ := eight_words _ h
 exact run_build w 173 _ _ (by kernel_rfl)
theorem new_is (K s0 : List Wd) (w : World) (hT : Tabs K s0 w) : Calls Tryz.prog 81 #[] w fun e w' => e = .returned (.pointer (some ⟨w.heap.size, 0, none⟩)) ∧ w' = w.alloc (.cells (hcells s0 (List.replicate 64 0) 0 0).toArray 173) := by
 have hb := build_hasher s0 hT.len
 obtain ⟨L, hL⟩ : ∃ L, L = (hcells s0 (List.replicate 64 0) 0 0).toArray := ⟨_, rfl⟩
 obtain ⟨M, hM⟩ : ∃ M, M = wcells s0 := ⟨_, rfl⟩
 have hst := hT.start
 have Ab := Hh (show (Tryz.prog.info? 53).map (·.size) = some M.length by rw [hM, wcells_length, hT.len]; kernel_rfl)
 rw [← hM] at hst
 rw [← hL, ← hM] at hb
 rw [← hL]
 have HB := Hh hb
 have Aa := Hh hst
 clear hL hb hst hM hT
 go_enter Tryz.func81, Tryz.ntmps81
 go_wp2_with (first
  | (refine wpList_load_mid rfl 53 (.global 1) rfl 1 0 rfl M _ Aa.o Tryz.underlying53 rfl Ab.o ?_)
  | (refine wpList_build_run (by kernel_rfl) 173 _ rfl #[(0, .agg M.toArray)] (by kernel_rfl) (.agg L) (HB.o _) ?_))
 go_ret
 exact ⟨rfl, rfl⟩
def FillP (K s0 : List Wd) (w : World) (g : Nat) (s : ByteArray) (w' : World) : Prop :=
 HshT (tagP s 0 1) (.int .i64 0) K s0 w' g (digest K s0 (sbytes s) ++ digest K s0 (sbytes s)) ∧ Kept (· = g) w w'
theorem tag_row {P : List Value} {U : Value} (hP : P.length = 4) (s : List Wd) (rest : List Nat) (at_ n : Int) : ∀ (g : Nat) (w w' : World) (L : List Value), Has w g 178 (tcells P U s rest at_ n).toArray → s.length = 8 → rest.length = 64 → L.length = 74 →
  Has (w.setCells g 4 L) g 178 (P ++ (L ++ [U])).toArray ∧ Kept (· = g) w (w.setCells g 4 L) := by
 intro g w w' L h hs hr hL
 obtain ⟨cur', h1, h2, h3, h4⟩ := Has.setCells L 4 w _ h
 have hl := hcells_len s rest at_ n hs hr
 have hsz : (tcells P U s rest at_ n).toArray.size = 79 := by rw [List.size_toArray, tcells, List.length_append, List.length_append, hl, hP]; rfl
 rw [hsz] at h2 h3
 have e : cur' = (P ++ (L ++ [U])).toArray := by
  apply Array.ext_getElem?
  intro j
  show cur'[j]? = ((P ++ (L ++ [U])).toArray)[j]?
  by_cases hj : j < 79
  · rw [h3 j hj, List.getElem?_toArray, List.getElem?_toArray, tcells]
    by_cases h4 : j < 4
    · rw [if_neg (by omega), List.getElem?_append_left (by omega), List.getElem?_append_left (by omega)]
    · by_cases h78 : j < 78
      · rw [if_pos (by omega), List.getElem?_append_right (by omega), hP, List.getElem?_append_left (by omega)]
      · obtain rfl : j = 78 := by omega
        rw [if_neg (by omega), List.getElem?_append_right (by omega), List.getElem?_append_right (by omega), List.getElem?_append_right (by omega), List.getElem?_append_right (by omega), hP, hl, hL]
  · rw [Array.getElem?_eq_none (xs := cur') (by omega), List.getElem?_toArray, List.getElem?_eq_none (by rw [List.length_append, List.length_append, hP, hL]; simp; omega)]
 rw [e] at h1
 exact ⟨h1, h4⟩
theorem zero_hashT : ∃ Z : Array Value, (∀ w, (zeroValue 27).run Tryz.prog w = .ok (.agg Z) w) ∧ Z.size = 32 ∧ ¬ Z = #[] := by
 have hs : (bcells (List.replicate 32 0)).toArray.size = 32 := by kernel_rfl
 exact ⟨(bcells (List.replicate 32 0)).toArray, fun w => by kernel_rfl, hs, fun e => (by rw [e] at hs; cases hs)⟩
theorem str_bytes (w : World) (s : ByteArray) : ∃ cap C, (convert 9 48 (.string s)).run Tryz.prog w = .ok (.slice (some ⟨w.heap.size, 0, none⟩) s.size cap) (w.drew.alloc (.cells C 5 (C.size, C.size + 1))) ∧
  Bytes (w.alloc (.cells C 5 (C.size, C.size + 1))) (w.alloc (.cells C 5 (C.size, C.size + 1))).heap.size (.slice (some ⟨w.heap.size, 0, none⟩) s.size cap) (sbytes s) := by
 refine ⟨grownCap w s.size 0 5, bytesRow s (grownCap w s.size 0 5), run_bytes_of_string w 9 48 5 s Tryz.underlying9 Tryz.underlying48 Tryz.underlying5, ?_⟩
 have hl : (sbytes s).length = s.size := by simp [sbytes]
 refine ⟨_, _, by rw [hl], by rw [hl]; exact grownCap_ge w s.size 0 _, sbytes_lt s, fun _ => ⟨w.heap.size, 0, rfl, by simp, fun i hi => ?_⟩⟩
 rw [hl] at hi
 have hi2 : i < s.data.size := hi
 unfold World.cell?
 have hb : (w.alloc (.cells (bytesRow s (grownCap w s.size 0 5)) 5 ((bytesRow s (grownCap w s.size 0 5)).size, (bytesRow s (grownCap w s.size 0 5)).size + 1))).heap[w.heap.size]? = some (.cells (bytesRow s (grownCap w s.size 0 5)) 5 ((bytesRow s (grownCap w s.size 0 5)).size, (bytesRow s (grownCap w s.size 0 5)).size + 1)) := heap_alloc_new w _
 show (match (w.alloc _).heap[w.heap.size]? with | some (.cells cs _ _) => _ | _ => none) = _
 rw [hb]
 show (bytesRow s _)[0 + i]? = _
 rw [Nat.zero_add, bytesRow_at s _ i hi2]
 have : (sbytes s).getD i 0 = s.data[i].toNat := by
  unfold sbytes
  rw [List.getD_eq_getElem?_getD, List.getElem?_map, Array.getElem?_toList, Array.getElem?_eq_getElem hi2]; rfl
 rw [this]
theorem parts_oneT (w : World) (v : Value) (p : List Nat) (h : Bytes w w.heap.size v p) : Parts (w.alloc (.cells #[v] 48)) (.slice (some ⟨w.heap.size, 0, none⟩) 1 1) [p] := by
 refine ⟨_, _, rfl, fun _ => ⟨w.heap.size, 0, rfl, fun i hi => ?_⟩⟩
 have hi0 : i = 0 := by simpa using hi
 subst hi0
 have hb : Below w.heap.size w (w.alloc (.cells #[v] 48)) := (Below.refl _ _).alloc (Nat.le_refl _) _
 exact ⟨v, (Has.new w _ _).cell_is rfl, h.alive hb hb.size⟩
theorem hcells_one (s : List Wd) (rest : List Nat) (at_ n : Int) : (hcells s rest at_ n).toArray.all (·.oneCell') = true := by
 rw [Array.all_eq_true']
 intro x hx
 have hx2 : x ∈ hcells s rest at_ n := by simpa using hx
 rcases List.mem_append.1 hx2 with h | h
 · obtain ⟨y, _, rfl⟩ := List.mem_map.1 h; rfl
 · rcases List.mem_append.1 h with h | h
   · obtain ⟨y, _, rfl⟩ := List.mem_map.1 h; rfl
   · rcases List.mem_cons.1 h with rfl | h
     · rfl
     · rcases List.mem_cons.1 h with rfl | h
       · rfl
       · cases h
theorem hash_by {w : World} {G g : Nat} {D : List Nat} (h : Has w G 27 (bcells D).toArray) (hD : IsHash D) (hne : G ≠ g) : Bytes w.drew g (.slice (some ⟨G, 0, none⟩) 32 32) D :=
 ⟨_, 32, by rw [hD.1], by rw [hD.1]; exact Nat.le_refl _, hD.2, fun _ => ⟨G, 0, rfl, hne, fun i hi => by
  rw [Nat.zero_add]
  exact h.drew.cell_is (by rw [List.getElem?_toArray]; exact bcells_get _ i hi)⟩⟩
theorem fill_head {K s0 : List Wd} {s : ByteArray} {w : World} {g : Nat} {LH : List Value} (hl : LH = hcells s0 (List.replicate 64 0) 0 0) (h : Has w g 178 (tagP s 0 1 ++ (LH ++ [Value.int .i64 0])).toArray) (h8 : s0.length = 8) : HshT (tagP s 0 1) (.int .i64 0) K s0 w g [] := by
 refine ⟨List.replicate 64 0, ⟨?_, h8, by simp, fun x hx => by rw [List.eq_of_mem_replicate hx]; decide, rfl⟩, rfl, by decide⟩
 rw [hl] at h
 exact h
set_option maxRecDepth 100000 in
set_option maxHeartbeats 4000000 in
theorem tagFill_is (K s0 : List Wd) (w : World) (hT : Tabs K s0 w) (g B1 : Nat) (s : ByteArray) (hs : s.size ≤ 1000000) (hlow : 2 + 1 ≤ g) (hh : Has w g 178 (tcells (tagP s 0 1) (.int .i64 0) (List.replicate 8 0) (List.replicate 64 0) 0 0).toArray) (hb : w.cell? ⟨B1, 0, none⟩ = some (.pointer (some ⟨g, 0, none⟩))) (hne : B1 ≠ g) :
  Calls Tryz.prog 80 #[.pointer (some ⟨B1, 0, none⟩)] w fun e w' => e = .returned (.tuple #[]) ∧ FillP K s0 w g s w' := by
 obtain ⟨zk, hzk, hzs, hzn⟩ := zero_hashT
 have hB1 := World.block_lt_of_cell? w _ hb
 obtain ⟨D, hD⟩ : ∃ D, D = digest K s0 (sbytes s) := ⟨_, rfl⟩
 have hDh : IsHash D := by rw [hD]; exact digest_hash K s0 hT.len _
 have hlb : (sbytes s).length = s.size := by simp [sbytes]
 have cn := hh.cell_is (i := 0) (v := .string s) rfl
 obtain ⟨cap, C, hcv, hby⟩ := str_bytes w s
 obtain ⟨O1, hO1⟩ : ∃ o, o = Obj.cells C 5 (C.size, C.size + 1) := ⟨_, rfl⟩
 obtain ⟨O2, hO2⟩ : ∃ o, o = Obj.cells #[.slice (some ⟨w.heap.size, 0, none⟩) s.size cap] 48 := ⟨_, rfl⟩
 have hpt := parts_oneT _ _ _ hby
 rw [← hO1, ← hO2, show (w.alloc O1).heap.size = w.heap.size + 1 by simp] at hpt
 have hal : Below w.heap.size w (w.alloc O1) := (Below.refl _ _).alloc (Nat.le_refl _) _
 have Ab : Below w.heap.size w ((w.alloc O1).alloc O2).drew := (hal.alloc hal.size O2).drew
 have Ad := sum_is K s0 ((w.alloc O1).alloc O2).drew _ [sbytes s] (hT.below Ab hT.low) hpt (by simp [hlb]; omega) (by show 1 ≤ 1000000000; decide)
 rw [show [sbytes s].flatten = sbytes s by simp, ← hD] at Ad
 rw [hO1, hO2] at Ad Ab
 have Ae := Hh Ad
 have Al := Hh Ab
 have Aj := Hh hDh
 have HD := Hh hD
 have HT := Hh hT
 have Az := Hh hh
 have HB := Hh hb
 have SZ := Hh (show (Tryz.prog.info? 27).map (·.size) = some (bcells D).toArray.size by rw [List.size_toArray, bcells_length, hDh.1]; kernel_rfl)
 have A8 := Hh (show zk.size = (bcells D).toArray.size by rw [hzs, List.size_toArray, bcells_length, hDh.1])
 have A7 := Hh (show (bcells D).toArray.all (·.oneCell') = true by rw [Array.all_eq_true']; intro x hx; exact bcells_one D x (by simpa using hx))
 have hgl := hh.lt
 clear hby hal Ab Ad hDh hD hT hh hlb hzs hpt hO1 hO2
 unfold arr at Ae
 go_enter Tryz.func80, Tryz.ntmps80
 go_wp2_with fail
 refine Ae.o.mono ?_
 rintro _ w1 ⟨rfl, hb1⟩
 have hnw : Has ((w1.alloc (.cells zk 27)).setRow w1.heap.size (bcells D).toArray) w1.heap.size 27 (bcells D).toArray ∧ Below w1.heap.size w1 ((w1.alloc (.cells zk 27)).setRow w1.heap.size (bcells D).toArray) := by
  rw [World.setRow_alloc_new]
  exact ⟨Has.new _ _ _, (Below.refl _ _).alloc (Nat.le_refl _) _⟩
 have hbx := (Al.o.trans (hb1.mono Al.o.size))
 have hbw := hbx.trans (hnw.2.mono hbx.size)
 have Af := Hh hbw
 have Ar := Hh hnw.1
 have Ag := Hh hbx.size
 clear hnw hb1 hbx hbw hcv cn hb Ae Al
 go_upto_region 1 with (refine wpList_store_row rfl 27 (.tmp 1) (.tmp 8) rfl w1.heap.size (bcells D).toArray rfl rfl 27 zk (heap_alloc_new w1 _) SZ.o A8.o A7.o ?_)
 generalize (w1.alloc (.cells zk 27)).setRow w1.heap.size (bcells D).toArray = W1 at Af Ar ⊢
 generalize w1.heap.size = G at Ar Ag ⊢
 have Ai := Hh (HT.o.below Af.o HT.o.low)
 have A5 := Hh (Az.o.below Af.o Az.o.lt)
 obtain ⟨LH, hLH⟩ : ∃ l, l = hcells s0 (List.replicate 64 0) 0 0 := ⟨_, rfl⟩
 have A1 := Hh hLH
 have Ah := Hh (show LH.length = 74 by rw [hLH]; exact hcells_len _ _ _ _ Ai.o.len (by simp))
 have A9 := Hh (show (Tryz.prog.info? 173).map (·.size) = some LH.length by rw [Ah.o]; kernel_rfl)
 have Ax := Hh (show (Tryz.prog.info? 173).map (·.size) = some LH.toArray.size by rw [List.size_toArray, Ah.o]; kernel_rfl)
 have Aw := Hh (show LH.toArray.all (·.oneCell') = true by rw [hLH]; exact hcells_one _ _ _ _)
 have Ba := Hh (show (tcells (tagP s 0 1) (.int .i64 0) (List.replicate 8 0) (List.replicate 64 0) 0 0).toArray.size = 79 by rw [List.size_toArray, tcells, List.length_append, List.length_append, hcells_len _ _ _ _ (by simp) (by simp)]; rfl)
 have hS0 : W1.drew.cell? ⟨B1, 0, none⟩ = some (.pointer (some ⟨g, 0, none⟩)) := cell_held (S := fun _ => False) (Kept.of_below Af.o) HB.o (fun h => h)
 clear hLH
 refine wp_region_noPanic ?_
 refine wp_region_held_drew (S := (fun v => v.cell? ⟨B1, 0, none⟩ = some (.pointer (some ⟨g, 0, none⟩)))) (by kernel_rfl) hS0 (fun hH0 => ?_)
 refine tl 0 (v := ((.pointer (some ⟨g, 0, none⟩)))) rfl (by intro w' hS; go_simp) hH0 ?_
 simp only [qc]
 refine rdy [1] (ar1 rfl fun K hK => ?_)
 go_simp
 refine (new_is _ s0 W1.drew (Ai.o.drew)).mono ?_
 rintro _ x1 ⟨rfl, hx1⟩
 rw [← A1.o] at hx1
 have Aa : Kept (fun _ => False) W1 x1 := by rw [hx1]; exact ((Kept.refl _ W1).drew).alloc _
 have hz1 : Has x1 W1.heap.size 173 LH.toArray := by rw [hx1]; exact Has.new W1.drew _ _
 have hs1 : x1.cell? ⟨B1, 0, none⟩ = some (.pointer (some ⟨g, 0, none⟩)) := cell_held Aa hS0 (fun h => h)
 have Av := Hh (A5.o.kept Aa (fun h => h))
 have Am := Hh Aa
 clear hx1 Aa
 refine hK _ _ hs1 fun hH1 => ?_
 clear hK K
 try simp only [qc]
 refine tl 2 (v := ((.pointer (some ⟨W1.heap.size, 0, none⟩)))) rfl (by intro w' hS; go_simp) hH1 ?_
 simp only [qc]
 refine rdy [3] (ar1 rfl fun K hK => ?_)
 refine step_load_mid rfl 173 (.tmp 11) rfl W1.heap.size 0 rfl LH _ hz1.row0 Tryz.underlying173 rfl A9.o ?_
 refine hK _ _ hH1 fun hH2 => ?_
 clear hK K
 try simp only [qc]
 refine tl 4 (v := ((.pointer (some ⟨g, 0, none⟩)))) rfl (by intro w' hS; go_simp) hH2 ?_
 simp only [qc]
 refine tl 5 (v := ((.pointer (some ⟨g, 4, none⟩)))) rfl (by intro w' hS; go_simp) hH2 ?_
 simp only [qc]
 refine rdy [6] (ar1 rfl fun K hK => ?_)
 refine step_store_mid rfl 173 (.tmp 14) (.tmp 12) rfl g 4 LH.toArray rfl rfl (Av.o.there 4 LH.toArray.size (by rw [Ba.o, List.size_toArray, Ah.o]; decide)) Ax.o Aw.o ?_
 refine hK _ _ (cell_held (tag_row (w' := x1) rfl _ _ _ _ g x1 LH Av.o (by simp) (by simp) Ah.o).2 hs1 hne) fun hH3 => ?_
 clear hK K
 try simp only [qc]
 refine wpAnyH_done (by kernel_rfl) ?_ _
 refine NoPanic.normal ?_
 have Ac := tag_row (w' := x1) rfl _ _ _ _ g x1 LH Av.o (by simp) (by simp) Ah.o
 have Ak := Hh ((Am.o.mono (S' := (· = g)) (fun _ _ h => h.elim)).trans Ac.2)
 have A2 := Hh (fill_head (K := K) (s := s) A1.o Ac.1 Ai.o.len)
 have Ay := Hh (cell_held Ac.2 hs1 hne)
 have Ap := Hh (Ar.o.kept Ak.o (by have := Ag.o; show ¬ _ = g; omega))
 clear Ac hz1 hs1 hS0
 generalize x1.setCells g 4 LH = W2 at Ak A2 Ay Ap ⊢
 have As := Hh (Ai.o.kept Ak.o (fun k e => by have e' : k = g := e; omega))
 have An := Hh (hash_by Ap.o Aj.o (by have := Ag.o; show G ≠ g; omega))
 go_upto_region 2 with (fail)
 have hS0 : W2.drew.cell? ⟨B1, 0, none⟩ = some (.pointer (some ⟨g, 0, none⟩)) := Ay.o
 refine wp_region_noPanic ?_
 refine wp_region_held_drew (S := (fun v => v.cell? ⟨B1, 0, none⟩ = some (.pointer (some ⟨g, 0, none⟩)))) (by kernel_rfl) hS0 (fun hH0 => ?_)
 refine tl 0 (v := ((.pointer (some ⟨g, 0, none⟩)))) rfl (by intro w' hS; go_simp) hH0 ?_
 simp only [qc]
 refine tl 1 (v := ((.pointer (some ⟨g, 0, none⟩)))) rfl (by intro w' hS; go_simp) hH0 ?_
 simp only [qc]
 refine tl 2 (v := ((.pointer (some ⟨g, 4, none⟩)))) rfl (by intro w' hS; go_simp) hH0 ?_
 simp only [qc]
 refine tl 3 (v := ((.slice (some ⟨G, 0, none⟩) 32 32))) rfl (by intro w' hS; go_simp) hH0 ?_
 simp only [qc]
 refine rdy [4] (ar1 rfl fun K hK => ?_)
 go_simp
 refine (writeT_is (tagP s 0 1) (.int .i64 0) _ s0 W2.drew g [] _ D (As.o.drew) A2.o hlow An.o (by rw [Aj.o.1]; decide)).mono ?_
 rintro _ W3 ⟨rfl, hw4, hk4⟩
 have hs4 : W3.cell? ⟨B1, 0, none⟩ = some (.pointer (some ⟨g, 0, none⟩)) := cell_held hk4 hS0 hne
 refine hK _ _ hs4 fun hH1 => ?_
 clear hK K
 try simp only [qc]
 refine wpAnyH_done (by kernel_rfl) ?_ _
 refine NoPanic.normal ?_
 rw [List.nil_append] at hw4
 have A6 := Hh hw4
 have A0 := Hh (Ak.o.trans hk4.undrew)
 have A3 := Hh hs4
 have A4 := Hh (Ap.o.kept hk4.undrew (by have := Ag.o; show ¬ _ = g; omega))
 clear hs4 hw4 hk4 hS0
 have Au := Hh (Ai.o.kept A0.o (fun k e => by have e' : k = g := e; omega))
 have Ao := Hh (hash_by A4.o Aj.o (by have := Ag.o; show G ≠ g; omega))
 go_upto_region 3 with (fail)
 have hS0 : W3.drew.cell? ⟨B1, 0, none⟩ = some (.pointer (some ⟨g, 0, none⟩)) := A3.o
 refine wp_region_noPanic ?_
 refine wp_region_held_drew (S := (fun v => v.cell? ⟨B1, 0, none⟩ = some (.pointer (some ⟨g, 0, none⟩)))) (by kernel_rfl) hS0 (fun hH0 => ?_)
 refine tl 0 (v := ((.pointer (some ⟨g, 0, none⟩)))) rfl (by intro w' hS; go_simp) hH0 ?_
 simp only [qc]
 refine tl 1 (v := ((.pointer (some ⟨g, 0, none⟩)))) rfl (by intro w' hS; go_simp) hH0 ?_
 simp only [qc]
 refine tl 2 (v := ((.pointer (some ⟨g, 4, none⟩)))) rfl (by intro w' hS; go_simp) hH0 ?_
 simp only [qc]
 refine tl 3 (v := ((.slice (some ⟨G, 0, none⟩) 32 32))) rfl (by intro w' hS; go_simp) hH0 ?_
 simp only [qc]
 refine rdy [4] (ar1 rfl fun K hK => ?_)
 go_simp
 refine (writeT_is (tagP s 0 1) (.int .i64 0) _ s0 W3.drew g D _ D (Au.o.drew) A6.o hlow Ao.o (by rw [Aj.o.1]; decide)).mono ?_
 rintro _ x4 ⟨rfl, hw4, hk4⟩
 have hs4 : x4.cell? ⟨B1, 0, none⟩ = some (.pointer (some ⟨g, 0, none⟩)) := cell_held hk4 hS0 hne
 refine hK _ _ hs4 fun hH1 => ?_
 clear hK K
 try simp only [qc]
 refine wpAnyH_done (by kernel_rfl) ?_ _
 refine NoPanic.normal ?_
 have Aq := Hh (show FillP K s0 w g s x4 from ⟨by rw [← HD.o]; exact hw4, (Kept.of_below Af.o).trans (A0.o.trans hk4.undrew)⟩)
 clear hs4 hw4 hk4 hS0
 go_wp2_with fail
 go_end0
 exact ⟨rfl, Aq.o⟩
end Go.Proofs.YtknfbccbdiidjaaGreatDoor
