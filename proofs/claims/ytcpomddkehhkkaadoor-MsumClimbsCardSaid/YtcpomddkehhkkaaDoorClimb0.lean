/- The plain law of MsumClimbs: a key's leaf with what stands beside its way makes the root. -/
import Derived.Test.YtcpomddkehhkkaaDoorSwap0
import Derived.Test.YtcpomddkehhkkaaDoorTree15
namespace Go.Proofs.YtcpomddkehhkkaaDoor
set_option linter.unusedVariables false
set_option linter.unusedSimpArgs false
open Go.ChangeShapes Go.WideShapes Go.ChangeAt Go.RowKit Go.Maps

/-- the leaves that go a key's way from the top on, for so many turns. -/
def ownT (T : List Lf) (key : List Nat) : Nat → List Lf
  | 0 => T
  | d + 1 => side (ownT T key d) (255 - d) (bitAt key (255 - d))
/-- the leaves beside the way at a height. -/
def besideT (T : List Lf) (key : List Nat) (h : Nat) : List Lf := side (ownT T key (255 - h)) h (1 - bitAt key h)
theorem own_mem (T : List Lf) (key : List Nat) : ∀ (d : Nat), d ≤ 256 → ∀ t, t ∈ ownT T key d ↔ t ∈ T ∧ ∀ j, 256 - d ≤ j → j < 256 → bitAt t.k j = bitAt key j := by
  intro d
  induction d with
  | zero => exact fun _ t => ⟨fun h => ⟨h, fun j h1 h2 => absurd h2 (by omega)⟩, fun h => h.1⟩
  | succ d ih =>
    intro hd t
    show t ∈ side _ _ _ ↔ _
    unfold side
    rw [List.mem_filter, decide_eq_true_eq, ih (by omega) t]
    refine ⟨fun ⟨⟨h1, h2⟩, h3⟩ => ⟨h1, fun j hj hj2 => ?_⟩, fun ⟨h1, h2⟩ => ⟨⟨h1, fun j hj hj2 => h2 j (by omega) hj2⟩, h2 _ (by omega) (by omega)⟩⟩
    rcases Nat.lt_or_ge j (256 - d) with h | h
    · have e : j = 255 - d := by omega
      rw [e]; exact h3
    · exact h2 j h hj2
theorem own_sub (T : List Lf) (key : List Nat) : ∀ d, ∃ p : Lf → Bool, ownT T key d = T.filter p := by
  intro d
  induction d with
  | zero => exact ⟨fun _ => true, (List.filter_eq_self.2 (fun _ _ => rfl)).symm⟩
  | succ d ih =>
    obtain ⟨p, hp⟩ := ih
    refine ⟨fun t => decide (bitAt t.k (255 - d) = bitAt key (255 - d)) && p t, ?_⟩
    show side _ _ _ = _
    unfold side
    rw [hp, List.filter_filter]
theorem own_keyed {T : List Lf} (hk : Keyed (T.map (·.k))) (key : List Nat) (d : Nat) : Keyed ((ownT T key d).map (·.k)) := by
  obtain ⟨p, hp⟩ := own_sub T key d
  rw [hp]; exact hk.sub p
/-- all of the way, from the key's leaf to the root. -/
def climbN (K s0 : List Wd) (T : List Lf) (key : List Nat) (h : Nat) : Nd := partNd K s0 h (ownT T key (256 - h))
theorem climb_step (K s0 : List Wd) (T : List Lf) (key : List Nat) (h : Nat) (hh : h < 256) :
    climbN K s0 T key (h + 1) = if bitAt key h = 1 then brNd K s0 (partNd K s0 h (besideT T key h)) (climbN K s0 T key h) else brNd K s0 (climbN K s0 T key h) (partNd K s0 h (besideT T key h)) := by
  have e : 256 - h = (255 - h) + 1 := by omega
  have e2 : 256 - (h + 1) = 255 - h := by omega
  have e3 : 255 - (255 - h) = h := by omega
  have hb := bitAt_lt key h
  unfold climbN besideT
  rw [e2, e]
  show brNd K s0 (partNd K s0 h (side (ownT T key (255 - h)) h 0)) (partNd K s0 h (side (ownT T key (255 - h)) h 1)) = _
  show _ = if _ then brNd K s0 _ (partNd K s0 h (side (ownT T key (255 - h)) (255 - (255 - h)) (bitAt key (255 - (255 - h))))) else brNd K s0 (partNd K s0 h (side (ownT T key (255 - h)) (255 - (255 - h)) (bitAt key (255 - (255 - h))))) _
  rw [e3]
  rcases Nat.lt_or_ge (bitAt key h) 1 with h0 | h1
  · have hz : bitAt key h = 0 := by omega
    rw [hz, if_neg (by decide)]
  · have hz : bitAt key h = 1 := by omega
    rw [hz, if_pos rfl]
theorem climb_top (K s0 : List Wd) (T : List Lf) (key : List Nat) : climbN K s0 T key 256 = partNd K s0 256 T := rfl
theorem climb_leaf (K s0 : List Wd) {T : List Lf} (hk : Keyed (T.map (·.k))) {key : List Nat} (hkey : IsHash key) : climbN K s0 T key 0 = leafNd K s0 (valT T key) (wasS T key) := by
  unfold climbN
  have hkd := own_keyed hk key 256
  have hm := own_mem T key 256 (Nat.le_refl _)
  have hall : ∀ t ∈ ownT T key 256, t.k = key := fun t ht => by
    obtain ⟨h1, h2⟩ := (hm t).1 ht
    exact key_ext (hk.hash _ (List.mem_map.2 ⟨t, h1, rfl⟩)) hkey (fun j hj => h2 j (Nat.zero_le _) hj)
  show partNd K s0 0 (ownT T key 256) = _
  cases hf : findT T key with
  | none =>
    have e : ownT T key 256 = [] := by
      cases hl : ownT T key 256 with
      | nil => rfl
      | cons t U =>
        have ht : t ∈ ownT T key 256 := by rw [hl]; exact List.mem_cons_self
        exact absurd (hall t ht) (find_none hf t ((hm t).1 ht).1)
    rw [e]
    unfold valT wasS
    rw [hf]; rfl
  | some l =>
    obtain ⟨h1, h2⟩ := find_key hf
    have hl : l ∈ ownT T key 256 := (hm l).2 ⟨h2, fun j _ _ => by rw [h1]⟩
    unfold valT wasS
    rw [hf]
    cases hU : ownT T key 256 with
    | nil => rw [hU] at hl; cases hl
    | cons t U =>
      have ht : t ∈ ownT T key 256 := by rw [hU]; exact List.mem_cons_self
      have htT := ((hm t).1 ht).1
      have e1 := find_mem hk.nodup htT
      rw [hall t ht, hf] at e1
      rw [Option.some.inj e1]
      rfl
end Go.Proofs.YtcpomddkehhkkaaDoor

/- The keys of a key's way, and those beside it, as Beside parts them. -/
namespace Go.Proofs.YtcpomddkehhkkaaDoor
set_option linter.unusedVariables false
set_option linter.unusedSimpArgs false
open Go.ChangeShapes Go.WideShapes Go.ChangeAt Go.RowKit Go.Maps

/-- the keys that go a key's way from the top on, for so many turns. -/
def ownK (ks : List (List Nat)) (key : List Nat) : Nat → List (List Nat)
  | 0 => ks
  | d + 1 => (ownK ks key d).filter fun k => bitAt k (255 - d) = bitAt key (255 - d)
def besK (ks : List (List Nat)) (key : List Nat) (h : Nat) : List (List Nat) := (ownK ks key (255 - h)).filter fun k => bitAt k h = 1 - bitAt key h
section
variable {ks : List (List Nat)} {key : List Nat}
theorem ownK_mem : ∀ (d : Nat), ∀ k ∈ ownK ks key d, k ∈ ks := by
  intro d
  induction d with
  | zero => exact fun k h => h
  | succ d ih => exact fun k h => ih k (List.mem_filter.1 h).1
theorem ownK_sub : ∀ (d : Nat), (ownK ks key d).Sublist ks := by
  intro d
  induction d with
  | zero => exact List.Sublist.refl _
  | succ d ih => exact List.filter_sublist.trans ih
theorem ownK_bits : ∀ (d : Nat), d ≤ 256 → ∀ k ∈ ownK ks key d, ∀ j, 256 - d ≤ j → j < 256 → bitAt k j = bitAt key j := by
  intro d
  induction d with
  | zero => exact fun _ k h j h1 h2 => absurd h2 (by omega)
  | succ d ih =>
    intro hd k h j h1 h2
    obtain ⟨h3, h4⟩ := List.mem_filter.1 h
    have h4' := of_decide_eq_true h4
    rcases Nat.lt_or_ge j (256 - d) with hj | hj
    · have e : j = 255 - d := by omega
      rw [e]; exact h4'
    · exact ih (by omega) k h3 j hj h2
theorem ownK_coh (d : Nat) (hd : d ≤ 256) : Coh (ownK ks key d) (256 - d) := fun a ha b hb j h1 h2 => by
  rw [ownK_bits d hd a ha j h1 h2, ownK_bits d hd b hb j h1 h2]
theorem ownK_sorted (hs : Sorted ks) (d : Nat) : Sorted (ownK ks key d) := List.Pairwise.sublist (ownK_sub d) hs
theorem own_map {L : List Nat → Lf} (hL : ∀ k ∈ ks, (L k).k = k) : ∀ d, ownT (ks.map L) key d = (ownK ks key d).map L := by
  intro d
  induction d with
  | zero => rfl
  | succ d ih =>
    show side (ownT (ks.map L) key d) _ _ = _
    rw [ih, side_map (fun k hk => hL k (ownK_mem d k hk))]
    rfl
theorem bes_map {L : List Nat → Lf} (hL : ∀ k ∈ ks, (L k).k = k) (h : Nat) : besideT (ks.map L) key h = (besK ks key h).map L := by
  unfold besideT besK
  rw [own_map hL, side_map (fun k hk => hL k (ownK_mem _ k hk))]
theorem own_perm {T U : List Lf} (hp : T.Perm U) : ∀ d, (ownT T key d).Perm (ownT U key d) := by
  intro d
  induction d with
  | zero => exact hp
  | succ d ih => exact ih.filter _
theorem bes_perm {T U : List Lf} (hp : T.Perm U) (h : Nat) : (besideT T key h).Perm (besideT U key h) := (own_perm hp _).filter _
theorem bes_keyed {T : List Lf} (hk : Keyed (T.map (·.k))) (h : Nat) : Keyed ((besideT T key h).map (·.k)) := (own_keyed hk key _).sub _
theorem bes_coh {T : List Lf} (h : Nat) (hh : h < 256) : Coh ((besideT T key h).map (·.k)) h := fun a ha b hb j h1 h2 => by
  obtain ⟨s, hs, rfl⟩ := List.mem_map.1 ha
  obtain ⟨t, ht, rfl⟩ := List.mem_map.1 hb
  obtain ⟨s1, s2⟩ := List.mem_filter.1 hs
  obtain ⟨t1, t2⟩ := List.mem_filter.1 ht
  have s2' := of_decide_eq_true s2
  have t2' := of_decide_eq_true t2
  rcases Nat.lt_or_ge h j with e | e
  · rw [((own_mem T key (255 - h) (by omega) s).1 s1).2 j (by omega) h2, ((own_mem T key (255 - h) (by omega) t).1 t1).2 j (by omega) h2]
  · have e' : j = h := by omega
    rw [e', s2', t2']
theorem bes_part {T : List Lf} (hk : Keyed (T.map (·.k))) (ht : KeysT T ks) (K s0 : List Wd) (h : Nat) (hh : h < 256) : partNd K s0 h ((besK ks key h).map (leafAt T)) = partNd K s0 h (besideT T key h) := by
  have hL : ∀ k ∈ ks, (leafAt T k).k = k := fun k hk' => (find_key (leafAt_some T k (ht.find k hk'))).1
  rw [← bes_map hL]
  have e : (ks.map (leafAt T)).map (·.k) = ks := by
    rw [List.map_map]
    conv => rhs; rw [← List.map_id ks]
    exact List.map_congr_left fun k hk => hL k hk
  exact part_perm K s0 h _ _ (bes_keyed (by rw [e]; exact ⟨fun k hk' => hk.hash k ((ht.mem k).1 hk'), ht.sorted.nodup⟩) h) (bes_coh h hh) (bes_perm (ht.perm hk.nodup) h)
theorem bes_sub (T : List Lf) (h : Nat) : ∀ t ∈ besideT T key h, t ∈ T := fun t ht => by
  obtain ⟨p, hp⟩ := own_sub T key (255 - h)
  have h1 := (List.mem_filter.1 ht).1
  rw [hp] at h1
  exact (List.mem_filter.1 h1).1
end
/-- all that stands has one sum, however it is parted. -/
theorem bes_sum (T : List Lf) (key : List Nat) (h : Nat) (hh : h < 256) : sumT (ownT T key (256 - h)) + sumT (besideT T key h) = sumT (ownT T key (255 - h)) := by
  have e : 256 - h = (255 - h) + 1 := by omega
  have e2 : 255 - (255 - h) = h := by omega
  rw [e]
  show sumT (side (ownT T key (255 - h)) (255 - (255 - h)) (bitAt key (255 - (255 - h)))) + sumT (side (ownT T key (255 - h)) h (1 - bitAt key h)) = _
  rw [e2]
  have h2 := side_two (ownT T key (255 - h)) h
  have hb := bitAt_lt key h
  rcases Nat.lt_or_ge (bitAt key h) 1 with h0 | h1
  · have hz : bitAt key h = 0 := by omega
    rw [hz]; omega
  · have hz : bitAt key h = 1 := by omega
    rw [hz, Nat.sub_self]; omega
theorem own_le (T : List Lf) (key : List Nat) : ∀ d, sumT (ownT T key d) ≤ sumT T := by
  intro d
  induction d with
  | zero => exact Nat.le_refl _
  | succ d ih => exact Nat.le_trans (side_le _ _ _) ih
end Go.Proofs.YtcpomddkehhkkaaDoor
