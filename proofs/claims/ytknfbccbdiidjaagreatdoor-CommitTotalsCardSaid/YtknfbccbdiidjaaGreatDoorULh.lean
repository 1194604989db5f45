/- The plain law of commits: a proof that was made leads to what is said of all. -/
import Derived.Test.YtknfbccbdiidjaaGreatDoorWs
import Derived.Test.YtknfbccbdiidjaaGreatDoorUCo10
import Derived.Test.YtknfbccbdiidjaaGreatDoorUCo0
namespace Go.Proofs.YtknfbccbdiidjaaGreatDoor
set_option linter.unusedVariables false
set_option linter.unusedSimpArgs false

variable {K s0 : List Wd} {ls : List LeafT} {l : LeafT} {p q : Pf} {N : Nat} {w : World} {T : List Lf}
theorem low_find (h : Fine K s0 ls) (hl : l ∈ ls) : findT (lowT K s0 ls l.id) (keyK K s0 l) = some (lfL K s0 l) := by
 have hn : ((lowT K s0 ls l.id).map (·.k)).Nodup := by
  rw [low_keys]
  exact (List.Sublist.map _ List.filter_sublist).nodup h.keys
 have hm : lfL K s0 l ∈ lowT K s0 ls l.id := by
  unfold lowT ofId
  exact List.mem_map.2 ⟨l, List.mem_filter.2 ⟨hl, by simp⟩, rfl⟩
 exact find_mem hn hm
theorem top_find (hm : l.id ∈ idsOf ls) : findT (topT K s0 ls) l.id = some (topL K s0 ls l.id) := by
 have hn : ((topT K s0 ls).map (·.k)).Nodup := by
  have e : (topT K s0 ls).map (·.k) = idsOf ls := by
   unfold topT
   rw [List.map_map]
   have : (Lf.k ∘ topL K s0 ls) = id := rfl
   rw [this, List.map_id]
  rw [e]
  exact ids_nodup ls
 exact find_mem hn (List.mem_map.2 ⟨l.id, hm, rfl⟩)
theorem find_perm {T U : List Lf} (h : T.Perm U) (hT : (T.map (·.k)).Nodup) {k : List Nat} {t : Lf} (hu : findT U k = some t) : findT T k = some t := by
 obtain ⟨e1, e2⟩ := find_key hu
 have := find_mem hT (h.mem_iff.2 e2)
 rw [e1] at this
 exact this
theorem low_root (hs0 : s0.length = 8) (h : Fine K s0 ls) (hl : l ∈ ls) (ho : p.Of K s0 (lowT K s0 ls l.id) (keyK K s0 l) N w) : lowR K s0 p l = .ok (partNd K s0 256 (lowT K s0 ls l.id)) := by
 have hfit : sumT (lowT K s0 ls l.id) < 18446744073709551616 := by
  rw [low_sum]
  have a1 := of_le ls l.id
  have a2 := h.fit
  omega
 have hkh : IsHash (keyK K s0 l) := tagD_hash K s0 hs0 _ _
 have ht := pf_tree (low_keyed hs0 h.keys l.id) hfit hkh ho.bits
 have hv : valT (lowT K s0 ls l.id) (keyK K s0 l) = leafB l := by unfold valT; rw [low_find h hl]; rfl
 have hw : wasS (lowT K s0 ls l.id) (keyK K s0 l) = l.am := by unfold wasS; rw [low_find h hl]; rfl
 rw [← ho.nodes, hv, hw] at ht
 exact ht
theorem high_root (hs0 : s0.length = 8) (h : Fine K s0 ls) (hl : l ∈ ls) (hp : T.Perm (topT K s0 ls)) (hk : Keyed (T.map (·.k))) (ho : q.Of K s0 T l.id N w) : highR K s0 q l.id (partNd K s0 256 (lowT K s0 ls l.id)) = .ok (partNd K s0 256 (topT K s0 ls)) := by
 have hfit : sumT T < 18446744073709551616 := by
  rw [perm_sum hp]
  unfold topT
  rw [top_sum hs0 h]
  have a1 := ids_sum ls _ (ids_nodup ls)
  have a2 := h.fit
  omega
 have hm : l.id ∈ idsOf ls := (ids_mem ls l.id).2 ⟨l, hl, rfl⟩
 have hf := find_perm hp hk.nodup (top_find (K := K) (s0 := s0) hm)
 have ht := pf_tree hk hfit (h.ok l hl).id ho.bits
 obtain ⟨P, hP⟩ : ∃ P, P = partNd K s0 256 (lowT K s0 ls l.id) := ⟨_, rfl⟩
 have htl : topL K s0 ls l.id = ⟨l.id, P.h, P.s⟩ := by unfold topL; rw [← hP]
 rw [htl] at hf
 have hv : valT T l.id = P.h := by unfold valT; rw [hf]
 have hw : wasS T l.id = P.s := by unfold wasS; rw [hf]
 rw [← ho.nodes, hv, hw, top_perm h hp hk] at ht
 rw [← hP]
 exact ht
theorem lead_made (hs0 : s0.length = 8) (h : Fine K s0 ls) (hl : l ∈ ls) (hp : T.Perm (topT K s0 ls)) (ho : p.Of K s0 (lowT K s0 ls l.id) (keyK K s0 l) N w) (ho2 : q.Of K s0 T l.id N w) : leadR K s0 p q l = .ok (anchorOf K s0 ls) := by
 have hk : Keyed (T.map (·.k)) := by
  have hk0 := top_keyed (K := K) (s0 := s0) h
  have hpm : (T.map (·.k)).Perm ((topT K s0 ls).map (·.k)) := hp.map _
  exact ⟨fun k hk => hk0.hash k (hpm.mem_iff.1 hk), hpm.nodup_iff.2 hk0.nodup⟩
 have hne : ls ≠ [] := fun e => by rw [e] at hl; cases hl
 rw [lead_ok (by rw [h.good l hl]; decide) (low_root hs0 h hl ho) (high_root hs0 h hl hp hk ho2)]
 unfold anchorOf
 rw [if_neg hne]
/-! the head's leaf -/
theorem hZ_hash : IsHash hZ := ⟨rfl, fun k hk => by rw [List.eq_of_mem_replicate hk]; decide⟩
theorem hL_ok : hL.ok := ⟨hZ_hash, by decide, hZ_hash, by decide, by decide, ⟨by decide, by decide⟩, by decide⟩
theorem hA_ok : hA.ok := ⟨hZ_hash, by decide, hZ_hash, by decide, by decide, hZ_hash, by decide⟩
theorem head_add : addE KS SS [] hL = 0 := by
 unfold addE
 rw [if_neg (by decide), if_neg (by simp), if_neg (by decide), if_pos (by decide)]
theorem head_addC : addC KS SS [] hL = [hL] := by unfold addC; rw [if_pos head_add]; rfl
theorem head_tot : amS (ofId [hL] hZ) = 7 := by decide
theorem head_low : lowT KS SS [hL] hL.id = [⟨keyK KS SS hL, leafB hL, 7⟩] := by
 unfold lowT ofId
 rw [List.filter_cons_of_pos (by simp), List.filter_nil]
 rfl
theorem head_top : topT KS SS [hL] = [⟨hZ, rL, 7⟩] := by
 have e : idsOf [hL] = [hZ] := by decide
 unfold topT
 rw [e, List.map_cons, List.map_nil]
 unfold topL
 have e2 := head_low
 rw [show hL.id = hZ from rfl] at e2
 rw [e2, low_h]
theorem head_anchor : anchorOf KS SS [hL] = anchorK KS SS ⟨rH, 7⟩ := by
 unfold anchorOf
 rw [if_neg (by simp), head_top, high_h]
theorem head_ne : anchorOf KS SS [hL] ≠ hZ := by rw [head_anchor]; exact anchor_ne
theorem alone_none {t : Lf} {T : List Lf} (hT : T = [t]) {key : List Nat} (hk : key = t.k) (ho : p.Of K s0 T key N w) : p.n = 0 := by
 subst hT hk
 have h1 := ho.nodes
 rw [nodesF_all 256 (fun h _ => bareF_own K s0 t h)] at h1
 have h2 := ho.at_.nodes.len
 rw [h1] at h2
 exact h2.symm
end Go.Proofs.YtknfbccbdiidjaaGreatDoor
/- The plain law of CommitOrders: the order of the leaves is nothing to what is said of them. -/
namespace Go.Proofs.YtknfbccbdiidjaaGreatDoor
set_option linter.unusedVariables false
set_option linter.unusedSimpArgs false

variable {K s0 : List Wd} {ls ls' : List LeafT} {l : LeafT}
def addAll (K s0 : List Wd) (ls : List LeafT) : List LeafT := ls.foldl (addC K s0) []
theorem addAll_snoc (ls : List LeafT) (l : LeafT) : addAll K s0 (ls ++ [l]) = addC K s0 (addAll K s0 ls) l := by
 unfold addAll
 rw [List.foldl_append]
 rfl
theorem addAll_take {k : Nat} (h : ls[k]? = some l) : addAll K s0 (ls.take (k + 1)) = addC K s0 (addAll K s0 (ls.take k)) l := by
 rw [List.take_add_one, h]
 exact addAll_snoc _ _
theorem addAll_fine (ls : List LeafT) : (∀ l ∈ ls, l.ok) → Fine K s0 (addAll K s0 ls) := by
 refine list_snoc (P := fun ls => (∀ l ∈ ls, l.ok) → Fine K s0 (addAll K s0 ls)) (fun _ => fine_nil) (fun xs x h hok => ?_) ls
 rw [addAll_snoc]
 exact (h (fun l hl => hok l (List.mem_append.2 (.inl hl)))).add (hok x (by simp))
theorem Fine.perm (h : Fine K s0 ls) (hp : ls'.Perm ls) : Fine K s0 ls' :=
 ⟨fun l hl => h.ok l (hp.mem_iff.1 hl), fun l hl => h.good l (hp.mem_iff.1 hl), (hp.map _).nodup_iff.2 h.keys, by rw [hp.length_eq]; exact h.len, by rw [am_perm hp]; exact h.fit⟩
end Go.Proofs.YtknfbccbdiidjaaGreatDoor
/- The head of the laws of leaves: the document's example. -/
namespace Go.Proofs.YtknfbccbdiidjaaGreatDoor
set_option linter.unusedVariables false
set_option linter.unusedSimpArgs false
open Go.ChangeShapes Go.WideShapes Go.ChangeAt Go.RowKit Go.Maps

def zLf (n : Nat) : LeafT := ⟨List.replicate 32 0, n, List.replicate 32 0, 0, zNd⟩
theorem zLf_build (n : Nat) (w : World) : (Instr.build 32 #[(1, .int .u64 (n : Int))]).run Tryz.prog w = .ok (.agg (zLf n).cells.toArray) w := by kernel_rfl
theorem leaf_at0 (b n c : Nat) (hn : 0 < n) (w : World) : (Instr.indexAt 22 (.slice (some ⟨b, 0, none⟩) n c) (.int .i64 0)).run Tryz.prog w = .ok (.pointer (some ⟨b, 0, none⟩)) w := by simpa using at_leaf0 b n c 0 hn w
def hls : List LeafT := [zLf 3, zLf 4]
end Go.Proofs.YtknfbccbdiidjaaGreatDoor
