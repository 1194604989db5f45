/- The walks of commit's all and Anchor. -/
import Derived.Test.YtknfbccbdiidjaaGreatDoorWs
import Derived.Test.YtknfbccbdiidjaaGreatDoorRCo3
namespace Go.Proofs.YtknfbccbdiidjaaGreatDoor
set_option linter.unusedVariables false
set_option linter.unusedSimpArgs false
open Go.ChangeShapes Go.WideShapes Go.ChangeAt Go.RowKit Go.Maps

variable {K s0 : List Wd} {S : Nat → Prop} {w w' : World} {g m0 m1 : Nat} {ls : List LeafT} {E : List (List Nat × Nat)} {Z : Nat → Nat → Prop}
set_option maxRecDepth 100000 in
theorem put_tight (hs0 : s0.length = 8) {v : World} {Za : Nat → Prop} {q : Nat} {T : List Lf} (htr : Tr K s0 Za v q T) (l : Lf) (hk : IsHash l.k) {sv : Value} (hv : Bytes v v.heap.size sv l.v) (hs : l.s < 18446744073709551616) (hlen : l.v.length ≤ 1000000) :
   Calls Tryz.prog 43 #[.pointer (some ⟨q, 0, none⟩), arr l.k, leafV sv l.s] v fun e w' => e = .returned (.int .i64 (putE T l)) ∧ Tr K s0 (fun k => (Za k ∨ v.heap.size ≤ k) ∧ k < w'.heap.size) w' q (putN T l) ∧ Kept Za v w' := by
 have t1 : Tr K s0 (fun k => Za k ∨ v.heap.size ≤ k) v q T := htr.zone (fun k _ hz => .inl hz)
 refine (tr_put t1 hs0 (fun k hk => .inr hk) l hk sv hv hs hlen).mono fun e w' ⟨r1, r2, r3⟩ => ?_
 refine ⟨r1, r2.zone (fun k hk hz => ⟨hz, hk⟩), r3.mono (fun k hk hz => ?_)⟩
 rcases hz with hz | hz
 · exact hz
 · omega
set_option maxRecDepth 100000 in
/-- one of the trees was asked for its root. -/
theorem CmAt.root (h : CmAt K s0 S w g ls m0 m1 E Z) {e : List Nat × Nat} (he : e ∈ E) (htr : Tr K s0 (Z e.2) w' e.2 (lowT K s0 ls e.1)) (hk : Kept (Z e.2) w w') : CmAt K s0 S w' g ls m0 m1 E Z := by
 have hz := fun k (hk : Z e.2 k) => (h.zone e he k hk).2.2
 refine ⟨h.obj.kept hk (fun e2 => (hz _ e2).1 rfl), h.map0.kept hk (fun e2 => (hz _ e2).2.1 rfl), h.map1.kept hk (fun e2 => (hz _ e2).2.2 rfl), h.ids, fun a ha => ?_, fun a ha k h2 => ⟨Nat.lt_of_lt_of_le (h.zone a ha k h2).1 hk.size, (h.zone a ha k h2).2⟩, h.apart, h.gs, h.low, h.inS, h.ne, h.fine⟩
 by_cases e1 : a.2 = e.2
 · rw [ent_eq h.gs ha he e1]; exact htr
 · exact (h.trees a ha).kept hk (fun k _ h2 h3 => h.apart a ha e he e1 k h2 h3)
theorem top_s (hs0 : s0.length = 8) (hf : Fine K s0 ls) (id : List Nat) : (topL K s0 ls id).s = amS (ofId ls id) := by
 unfold topL
 dsimp only
 exact low_part hs0 hf.keys id
theorem top_sum (hs0 : s0.length = 8) (hf : Fine K s0 ls) (D : List (List Nat)) : sumT (D.map (topL K s0 ls)) = (D.map fun id => amS (ofId ls id)).sum := by
 induction D with
 | nil => rfl
 | cons a D ih =>
  unfold sumT at ih ⊢
  rw [List.map_cons, List.map_cons, List.sum_cons, ih, List.map_cons, List.sum_cons, top_s hs0 hf]
theorem ids_len (ls : List LeafT) : (idsOf ls).length ≤ ls.length := by
 have h := len_sub (idsOf ls) (ls.map (·.id)) (ids_nodup ls) (fun x hx => by
  obtain ⟨l, hl, e⟩ := (ids_mem ls x).1 hx
  exact List.mem_map.2 ⟨l, hl, e⟩)
 rwa [List.length_map] at h
theorem top_put (hs0 : s0.length = 8) (hf : Fine K s0 ls) {D : List (List Nat)} {id : List Nat} (hn : (D ++ [id]).Nodup) (hm : ∀ x ∈ D ++ [id], x ∈ idsOf ls) : putE (D.map (topL K s0 ls)) (topL K s0 ls id) = 0 ∧ putN (D.map (topL K s0 ls)) (topL K s0 ls id) = (D ++ [id]).map (topL K s0 ls) := by
 have hni : id ∉ D := fun e => by
  rw [List.nodup_append] at hn
  exact hn.2.2 id e id (by simp) rfl
 have hfd : findT (D.map (topL K s0 ls)) (topL K s0 ls id).k = none := by
  cases hc : findT (D.map (topL K s0 ls)) (topL K s0 ls id).k with
  | none => rfl
  | some o =>
   exfalso
   obtain ⟨e1, e2⟩ := find_key hc
   obtain ⟨x, hx, rfl⟩ := List.mem_map.1 e2
   have e3 : x = id := e1
   exact hni (by rw [← e3]; exact hx)
 have hlen := len_sub _ _ hn hm
 rw [List.length_append, List.length_singleton] at hlen
 have hl2 := ids_len ls
 have hl3 := hf.len
 have hsum := ids_sum ls _ hn
 rw [List.map_append, List.sum_append] at hsum
 have hone : ([id].map fun id => amS (ofId ls id)).sum = amS (ofId ls id) := by simp
 rw [hone] at hsum
 have hfit := hf.fit
 have hv : (topL K s0 ls id).v.length = 32 := (low_hash (ls := ls) hs0 id).1
 have hs := top_s hs0 hf id
 have e0 : putE (D.map (topL K s0 ls)) (topL K s0 ls id) = 0 := by
  unfold putE
  rw [if_neg (fun e => by have := e.1; omega), if_neg (by rw [hv]; decide), if_neg (fun e => by have := e.2; rw [List.length_map] at this; omega), show wasS (D.map (topL K s0 ls)) (topL K s0 ls id).k = 0 by unfold wasS; rw [hfd], top_sum hs0 hf, hs, if_pos (by omega)]
 refine ⟨e0, ?_⟩
 unfold putN
 rw [if_pos e0, put_new hfd, List.map_append]
 rfl
def AllP (K s0 : List Wd) (S : Nat → Prop) (w : World) (g : Nat) (ls : List LeafT) (m0 m1 : Nat) (E : List (List Nat × Nat)) (Z : Nat → Nat → Prop) (e : Ending) (w' : World) : Prop :=
 ∃ ga T Za, e = .returned (.pointer (some ⟨ga, 0, none⟩)) ∧ T.Perm (topT K s0 ls) ∧ Tr K s0 Za w' ga T ∧ (∀ k, Za k → w.heap.size ≤ k) ∧ 2 + 1 ≤ ga ∧ CmAt K s0 S w' g ls m0 m1 E Z ∧ Kept (fun k => ∃ e ∈ E, Z e.2 k) w w'
structure GoAll (K s0 : List Wd) (w : World) (S : Nat → Prop) (g : Nat) (ls : List LeafT) (m0 m1 : Nat) (E : List (List Nat × Nat)) (Z : Nat → Nat → Prop) (r ga : Nat) (wr : World) (done : List (List Nat)) (Za : Nat → Prop) : Prop where
 iter : Iter wr m0 r (E.map entP) done
 tree : Tr K s0 Za wr ga (done.map (topL K s0 ls))
 zone : ∀ k, Za k → w.heap.size ≤ k ∧ k ≠ r ∧ k < wr.heap.size
 cm : CmAt K s0 (fun k => S k ∧ k < w.heap.size) wr g ls m0 m1 E Z
 kept : Kept (fun k => ∃ e ∈ E, Z e.2 k) w wr
 lt : r < wr.heap.size
set_option maxRecDepth 100000 in
set_option maxHeartbeats 16000000 in
theorem coAll_at (h : CmAt K s0 S w g ls m0 m1 E Z) (hT : Tabs K s0 w) (hS : ∀ k, S k → 2 + 1 ≤ k) :
  Calls Tryz.prog 45 #[.pointer (some ⟨g, 0, none⟩)] w (AllP K s0 S w g ls m0 m1 E Z) := by
 obtain ⟨zk, hzk, hzks, hzkn⟩ := zero_hashT
 have HZK := Lib.hid hzks
 have h1 : CmAt K s0 (fun k => S k ∧ k < w.heap.size) w g ls m0 m1 E Z := h.zoneS (fun k h1 h2 => ⟨h2, h1⟩)
 have HZB := Lib.hid (show ∀ e ∈ E, ∀ k, Z e.2 k → k < w.heap.size ∧ S k from fun e he k hz => ⟨(h.zone e he k hz).1, (h.zone e he k hz).2.1⟩)
 have HTV := Lib.hid (show ∀ v, Kept (fun k => ∃ e ∈ E, Z e.2 k) w v → Tabs K s0 v from fun v hv => hT.kept hv (fun k ⟨e, he, hz⟩ => hS k (h.zone e he k hz).2.1))
 have HLOW := Lib.hid (show 2 + 1 ≤ w.heap.size from hT.low)
 have HS0 := Lib.hid (show s0.length = 8 from hT.len)
 have HFN := Lib.hid (show Fine K s0 ls from h.fine)
 have HIDS := Lib.hid h.ids
 have HLO := Lib.hid h.low
 have H1 := Lib.hid h1
 have HS := Lib.hid (show S g ∧ S m0 ∧ S m1 from h.inS)
 clear h h1 hT hS hzks
 go_enter Tryz.func45, Tryz.ntmps45
 go_wp2_with fail
 refine (newT_is K s0 (fun k => w.heap.size ≤ k) w (fun k h => h)).mono ?_
 rintro _ W2 ⟨ga, rfl, htr, hb2, hga⟩
 have hz2 : Tr K s0 (fun k => w.heap.size ≤ k ∧ k < W2.heap.size) W2 ga [] := htr.zone (fun k h1 h2 => ⟨h2, h1⟩)
 have hcm2 := H1.out.quiet hb2
 obtain ⟨w0, hrun, hit, hk0, hsz0⟩ := range_is (T := 98) Tryz.underlying98 hcm2.map0
 have hc0 := hcm2.cells.1
 obtain ⟨r, hr⟩ : ∃ y, y = W2.heap.size := ⟨_, rfl⟩
 rw [← hr] at hrun hit
 have HGO := Lib.hid (show GoAll K s0 w S g ls m0 m1 E Z r ga w0 [] (fun k => w.heap.size ≤ k ∧ k < W2.heap.size) from
  ⟨hit, hz2.kept hk0 (fun _ _ _ e => e), fun k hk => ⟨hk.1, by omega, Nat.lt_of_lt_of_le hk.2 hk0.size⟩, hcm2.kept hk0 (fun _ _ _ e => e), (Kept.of_below hb2).trans (hk0.mono (fun _ _ e => e.elim)), by rw [hsz0]; omega⟩)
 have HGA := Lib.hid (show w.heap.size ≤ ga from hga)
 have HR := Lib.hid (show w.heap.size ≤ r by rw [hr]; exact hb2.size)
 clear htr hb2 hga hz2 hcm2 hit hk0 hsz0 hr H1
 go_wp2_with fail
 go_loopw [] (fun wr => ∃ done Za, GoAll K s0 w S g ls m0 m1 E Z r ga wr done Za) (fun wr => wr.rangeLeft m0 r)
 case atStart => exact ⟨_, _, HGO.out⟩
 case round =>
  clear HGO hrun hc0
  obtain ⟨done, Za, hgo⟩ := hrel
  rcases next_is hgo.iter 0 with ⟨hd, hnx⟩ | ⟨key, vv, w2, hmem, hnd, hkh, hnx, hit1, hk1, hsz1, hlt1, hen⟩
  · have hperm : (done.map (topL K s0 ls)).Perm (topT K s0 ls) := by
     refine List.Perm.map _ ?_
     refine (List.perm_ext_iff_of_nodup hgo.iter.nodup.1 (ids_nodup ls)).2 fun id => ?_
     rw [← HIDS.out, ← ids_ents]
     exact ⟨fun e => hgo.iter.nodup.2.2 id e, fun e => by
       obtain ⟨p, hp, rfl⟩ := List.mem_map.1 e
       exact hd p hp⟩
    have HFIN := Lib.hid (show AllP K s0 S w g ls m0 m1 E Z (.returned (.pointer (some ⟨ga, 0, none⟩))) wr from ⟨ga, _, Za, rfl, hperm, hgo.tree, fun k hk => (hgo.zone k hk).1, Nat.le_trans HLOW.out HGA.out, hgo.cm.zoneS (fun k _ e => e.1), hgo.kept⟩)
    clear hperm hgo hd
    go_wp2
    go_ret
    exact HFIN.out
  · obtain ⟨e, he, hee⟩ := List.mem_map.1 hmem
    obtain ⟨id, q⟩ := e
    obtain ⟨rfl, rfl⟩ : key = id ∧ vv = .pointer (some ⟨q, 0, none⟩) := by
     unfold entP at hee
     injection hee with e1 e2
     exact ⟨e1.symm, e2.symm⟩
    have hm0r : m0 ≠ r := hgo.iter.ne
    have hnr : ∀ k, (∃ e ∈ E, Z e.2 k) → k ≠ r := fun k ⟨e, he, hz⟩ => by have a1 := (HZB.out e he k hz).1; have a2 := HR.out; omega
    have htr2 := hgo.tree.kept hk1 (fun k _ hz e => (hgo.zone k hz).2.1 e)
    have hcm2 := hgo.cm.kept hk1 (fun k _ hz e => by have a1 := hz.2; have a2 := HR.out; have e' : k = r := e; omega)
    have hkw2 : Kept (fun k => ∃ e ∈ E, Z e.2 k) w w2 := hgo.kept.step hk1 (fun k e => .inr (by rw [show k = r from e]; exact HR.out))
    obtain ⟨L, hL⟩ : ∃ L, L = bcells key := ⟨_, rfl⟩
    have hLl : L.length = 32 := by rw [hL, bcells_length, hkh.1]
    have SZK := Lib.hid (show (Tryz.prog.info? 27).map (·.size) = some L.toArray.size by rw [List.size_toArray, hLl]; kernel_rfl)
    have SZKL := Lib.hid (show (Tryz.prog.info? 27).map (·.size) = some L.length by rw [hLl]; kernel_rfl)
    have ONE := Lib.hid (show L.toArray.all (·.oneCell') = true by rw [hL]; exact all_oneCell_toArray (bcells_one key))
    have ZZK := Lib.hid (show zk.size = L.toArray.size by rw [HZK.out, List.size_toArray, hLl])
    unfold arr at hnx hen
    rw [← hL] at hnx hen
    have EL := Lib.hid hL
    have HNW := Lib.hid (show ∀ C, Has ((w2.alloc (.cells zk 27)).setRow w2.heap.size C) w2.heap.size 27 C ∧ Kept (fun _ => False) w2 ((w2.alloc (.cells zk 27)).setRow w2.heap.size C) from fun C => by
     rw [World.setRow_alloc_new]
     exact ⟨Has.new w2 _ _, (Kept.refl _ _).alloc _⟩)
    have HIT1 := Lib.hid hit1
    have HLT1 := Lib.hid hlt1
    have HTR2 := Lib.hid htr2
    have HCM2 := Lib.hid hcm2
    have HKW2 := Lib.hid hkw2
    have HKH := Lib.hid hkh
    have HE := Lib.hid he
    have HND := Lib.hid hnd
    have HNR := Lib.hid hnr
    have HZA := Lib.hid (show ∀ k, Za k → w.heap.size ≤ k ∧ k ≠ r ∧ k < w2.heap.size from fun k hz => ⟨(hgo.zone k hz).1, (hgo.zone k hz).2.1, Nat.lt_of_lt_of_le (hgo.zone k hz).2.2 hk1.size⟩)
    have HRL := Lib.hid (show r < w2.heap.size ∧ m0 < w.heap.size ∧ m0 ≠ r from ⟨Nat.lt_of_lt_of_le hgo.lt hk1.size, hgo.cm.inS.2.1.2, hm0r⟩)
    have HDN := Lib.hid (show (done ++ [key]).Nodup ∧ ∀ x ∈ done ++ [key], x ∈ idsOf ls from ⟨hit1.nodup.1, fun x hx => by
     have := hit1.nodup.2.2 x hx
     rwa [ids_ents, HIDS.out] at this⟩)
    clear hit1 hlt1 htr2 hcm2 hkw2 hkh he hnd hgo hL hLl hk1 hsz1 hmem hee hm0r hnr
    go_upto_region 5 with (refine wpList_store_row rfl 27 (.tmp 4) (.tmp 15) rfl w2.heap.size L.toArray rfl rfl 27 zk (heap_alloc_new w2 _) SZK.out ZZK.out ONE.out ?_)
    obtain ⟨h9, hk9⟩ := HNW.out L.toArray
    have hit5 := HIT1.out.kept hk9 (fun h => h) (fun h => h)
    have hlf5 := HIT1.out.left_kept hk9 (fun h => h) (fun h => h)
    have htr5 := HTR2.out.kept hk9 (fun _ _ _ h => h)
    have hcm5 := HCM2.out.kept hk9 (fun _ _ _ h => h)
    have hkw5 := HKW2.out.trans (hk9.mono (fun _ _ h => h.elim))
    have hs5 := hk9.size
    clear hk9 HNW HIT1 HTR2 HCM2 HKW2
    generalize (w2.alloc (.cells zk 27)).setRow w2.heap.size L.toArray = W5 at h9 hit5 hlf5 htr5 hcm5 hkw5 hs5 ⊢
    obtain ⟨G5, hG5⟩ : ∃ y, y = w2.heap.size := ⟨_, rfl⟩
    rw [← hG5] at h9 ⊢
    have HG5 := Lib.hid (show ¬ Za G5 ∧ ¬ Z q G5 from ⟨fun hz => by have := (HZA.out _ hz).2.2; omega, fun hz => by have a1 := (HZB.out _ HE.out _ hz).1; have a2 := HRL.out.1; have a3 := HR.out; omega⟩)
    have HZ5 := Lib.hid (show ∀ k, Za k → k < W5.heap.size from fun k hz => by have := (HZA.out _ hz).2.2; omega)
    have HR5 := Lib.hid (show r < W5.heap.size by have := HRL.out.1; omega)
    have HZR := Lib.hid (show ∀ k, Za k → w.heap.size ≤ k ∧ k ≠ r from fun k hz => ⟨(HZA.out k hz).1, (HZA.out k hz).2.1⟩)
    have HROW := Lib.hid (show ∀ v, Kept (fun k => Z q k ∨ Za k) W5 v → v.rangeAt G5 0 L from fun v hv => (h9.kept hv (fun e => by rcases e with e | e; exact HG5.out.2 e; exact HG5.out.1 e)).row0)
    have HIT5 := Lib.hid hit5
    have HLF5 := Lib.hid hlf5
    have HTR5 := Lib.hid htr5
    have HCM5 := Lib.hid hcm5
    have HKW5 := Lib.hid hkw5
    clear hit5 hlf5 htr5 hcm5 hkw5 hs5 h9 hG5 HZA hnx hen
    have hS0 : Kept (fun k => Z q k ∨ Za k) W5 W5.drew := (Kept.refl _ _).drew
    refine wp_region_noPanic ?_
    refine wp_region_held_drew (S := (fun v => Kept (fun k => Z q k ∨ Za k) W5 v)) (by kernel_rfl) hS0 (fun hH0 => ?_)
    apply tk 0 (v := _) rfl (Or.inl ⟨by kernel_rfl, ?hv⟩) hH0 ?_
    case hv => intro w' hS; go_simp; try exact rfl
    simp only [Act.put, qa]
    refine tk 1 (v := (.agg L.toArray)) rfl (yieldsIf_load_mid (by kernel_rfl) 27 (.tmp 4) rfl G5 0 rfl L _ (fun w' h => (HROW.out _ h)) Tryz.underlying27 rfl SZKL.out) hH0 ?_
    simp only [Act.put, qa]
    apply tk 2 (v := _) rfl (Or.inl ⟨by kernel_rfl, ?hv⟩) hH0 ?_
    case hv => intro w' hS; go_simp; try exact rfl
    simp only [Act.put, qa]
    refine wpAnyH_ready (rs := [3]) (by kernel_rfl) (by simp) ?_
    refine AllReadyH.cons rfl (fun KK hKK => ?_) AllReadyH.nil
    go_simp
    have hrt := tr_root ((HCM5.out.trees _ HE.out).kept (S := Z q) (Z := fun _ => False) ((Kept.refl (fun _ => False) W5).drew) (fun _ _ _ e => e)) (HTV.out W5.drew HKW5.out.drew) (HLO.out _ HE.out)
    obtain ⟨P, hP⟩ : ∃ P, P = partNd K s0 256 (lowT K s0 ls key) := ⟨_, rfl⟩
    rw [← hP] at hrt
    have HPP := Lib.hid hP
    clear hP
    refine hrt.mono ?_
    rintro _ xr ⟨rfl, hra, hrk⟩
    have hs3 : Kept (fun k => Z q k ∨ Za k) W5 xr := Kept.trans hH0 (hrk.mono (fun _ _ e => .inl e))
    have hcr := (HCM5.out.kept (T := fun _ => False) ((Kept.refl (fun _ => False) W5).drew) (fun _ _ _ e => e)).root HE.out hra hrk
    have hta := (HTR5.out.kept (Z := fun _ => False) ((Kept.refl (fun _ => False) W5).drew) (fun _ _ _ e => e)).kept hrk (fun k _ hz e => by have a1 := (HZB.out _ HE.out _ e).1; have a2 := (HZR.out k hz).1; omega)
    have hka : Kept (fun k => Z q k) W5 xr := ((Kept.refl _ W5).drew).trans hrk
    clear hrt hra hrk
    refine Shut.out hKK _ _ hs3 (fun hH1 => ?_)
    clear hKK KK
    try simp only [Act.put, qa]
    refine wpAnyH_ready (rs := [4]) (by kernel_rfl) (by simp) ?_
    refine AllReadyH.cons rfl (fun KK hKK => ?_) AllReadyH.nil
    go_simp
    have hPh : IsHash P.h := by rw [HPP.out]; exact low_hash HS0.out key
    have hPs : P.s < 18446744073709551616 := by rw [HPP.out, low_part HS0.out HFN.out.keys]; have a1 := of_le ls key; have a2 := HFN.out.fit; omega
    refine (coHigh_is xr P hPh hPs).mono ?_
    rintro _ xh ⟨sv, rfl, hby, hbh⟩
    have hs4 : Kept (fun k => Z q k ∨ Za k) W5 xh := Kept.trans hH1 (Kept.of_below hbh)
    replace hcr := hcr.quiet hbh
    replace hta := hta.quiet hbh
    replace hka := hka.trans (Kept.of_below hbh)
    clear hbh
    refine Shut.out hKK _ _ hs4 (fun hH2 => ?_)
    clear hKK KK
    try simp only [Act.put, qa]
    refine wpAnyH_ready (rs := [5]) (by kernel_rfl) (by simp) ?_
    refine AllReadyH.cons rfl (fun KK hKK => ?_) AllReadyH.nil
    go_simp
    have htl : topL K s0 ls key = ⟨key, P.h, P.s⟩ := by unfold topL; rw [← HPP.out]
    obtain ⟨tp1, tp2⟩ := top_put HS0.out HFN.out HDN.out.1 HDN.out.2
    have hpt := put_tight HS0.out hta ⟨key, P.h, P.s⟩ HKH.out hby hPs (by show P.h.length ≤ 1000000; rw [hPh.1]; decide)
    rw [htl] at tp1 tp2
    rw [tp1, tp2] at hpt
    unfold arr at hpt
    rw [show bcells (⟨key, P.h, P.s⟩ : Lf).k = L from EL.out.symm] at hpt
    refine hpt.mono ?_
    rintro _ xp ⟨rfl, htp, hkp⟩
    have hs5 : Kept (fun k => Z q k ∨ Za k) W5 xp := Kept.trans hH2 (hkp.mono (fun _ _ e => .inr e))
    have hcp := hcr.kept hkp (fun k _ e1 e2 => by have a1 := (HZR.out k e2).1; have a2 := e1.2; omega)
    refine Shut.out hKK _ _ hs5 (fun hH3 => ?_)
    clear hKK KK
    try simp only [Act.put, qa]
    refine wpAnyH_done (by kernel_rfl) ?_ _
    refine NoPanic.normal ?_
    have hkz : Kept (fun k => Z q k ∨ Za k) W5 xp := hs5
    have hndr : ∀ k, (Z q k ∨ Za k) → k ≠ r ∧ k ≠ m0 := fun k hz => by
     have a3 := HRL.out
     rcases hz with hz | hz
     · exact ⟨HNR.out k ⟨_, HE.out, hz⟩, (HCM5.out.zone _ HE.out k hz).2.2.2.1⟩
     · have a1 := HZR.out k hz; exact ⟨a1.2, by omega⟩
    have HRES := Lib.hid (show GoAll K s0 w S g ls m0 m1 E Z r ga xp (done ++ [key]) (fun k => (Za k ∨ xh.heap.size ≤ k) ∧ k < xp.heap.size) ∧ xp.rangeLeft m0 r < wr.rangeLeft m0 r by
     have a1 := hkz.size
     have a2 := hs4.size
     have a3 := HR5.out
     have a4 := HRL.out
     have a5 := HR.out
     refine ⟨⟨HIT5.out.kept hkz (fun e => (hndr m0 e).2 rfl) (fun e => (hndr r e).1 rfl), htp, fun k hz => ?_, hcp, HKW5.out.step hkz (fun k e => ?_), by omega⟩, ?_⟩
     · rcases hz.1 with h1 | h1
       · exact ⟨(HZR.out k h1).1, (HZR.out k h1).2, hz.2⟩
       · exact ⟨by omega, by omega, hz.2⟩
     · rcases e with e | e
       · exact .inl ⟨_, HE.out, e⟩
       · exact .inr (HZR.out k e).1
     · rw [HIT5.out.left_kept hkz (fun e => (hndr m0 e).2 rfl) (fun e => (hndr r e).1 rfl), HLF5.out]
       exact HLT1.out)
    clear hs3 hs4 hs5 hS0 hkz hndr htp hkp hcp hcr hta hka hby hPh hPs
    go_wp2_with fail
    go_roundw
    case rel => exact ⟨_, _, HRES.out.1⟩
    case measure => exact HRES.out.2
end Go.Proofs.YtknfbccbdiidjaaGreatDoor
/- The walk of commit's Anchor. -/
namespace Go.Proofs.YtknfbccbdiidjaaGreatDoor
set_option linter.unusedVariables false
set_option linter.unusedSimpArgs false
open Go.ChangeShapes Go.WideShapes Go.ChangeAt Go.RowKit Go.Maps

variable {K s0 : List Wd} {S : Nat → Prop} {w w' : World} {g m0 m1 : Nat} {ls : List LeafT} {E : List (List Nat × Nat)} {Z : Nat → Nat → Prop}
theorem top_keyed (hf : Fine K s0 ls) : Keyed ((topT K s0 ls).map (·.k)) := by
 have e : (topT K s0 ls).map (·.k) = idsOf ls := by
  unfold topT
  rw [List.map_map]
  have : (Lf.k ∘ topL K s0 ls) = id := rfl
  rw [this, List.map_id]
 rw [e]
 exact ⟨fun k hk => by
  obtain ⟨l, hl, e2⟩ := (ids_mem ls k).1 hk
  rw [← e2]
  exact (hf.ok l hl).id, ids_nodup ls⟩
theorem top_perm (hf : Fine K s0 ls) {T : List Lf} (hp : T.Perm (topT K s0 ls)) (hk : Keyed (T.map (·.k))) : partNd K s0 256 T = partNd K s0 256 (topT K s0 ls) := part_perm K s0 256 T _ hk (coh_top _) hp
theorem top_fit (hs0 : s0.length = 8) (hf : Fine K s0 ls) : (partNd K s0 256 (topT K s0 ls)).s < 18446744073709551616 := by
 rw [part_sum K s0 256 _ (top_keyed hf) (coh_top _)]
 unfold topT
 rw [top_sum hs0 hf]
 have a1 := ids_sum ls _ (ids_nodup ls)
 have a2 := hf.fit
 omega
theorem top_hash (hs0 : s0.length = 8) : IsHash (partNd K s0 256 (topT K s0 ls)).h := part_hash K s0 hs0 256 _
theorem boxes_an (w : World) (Z : Array Value) : ∃ W1, W1 = (w.alloc (.cells Z 27)) ∧
   Has W1 (w.heap.size) 27 Z ∧ Below w.heap.size w W1 := by
 refine ⟨_, rfl, ?_, ?_⟩
 · have := Has.new w 27 Z
   exact this
 · exact (Below.refl _ _).alloc (Nat.le_refl _) _
set_option maxRecDepth 100000 in
set_option maxHeartbeats 8000000 in
theorem coAnch_at (h : CmAt K s0 S w g ls m0 m1 E Z) (hT : Tabs K s0 w) (hS : ∀ k, S k → 2 + 1 ≤ k) :
   Calls Tryz.prog 12 #[.pointer (some ⟨g, 0, none⟩)] w fun e w' => e = .returned (arr (anchorOf K s0 ls)) ∧ CmAt K s0 S w' g ls m0 m1 E Z ∧ Kept (fun k => ∃ e ∈ E, Z e.2 k) w w' := by
 obtain ⟨zk, hzk, hzks, hzkn⟩ := zero_hashT
 obtain ⟨D, hD⟩ : ∃ D, D = anchorOf K s0 ls := ⟨_, rfl⟩
 have hDh : IsHash D := by
   rw [hD]
   unfold anchorOf
   by_cases e : ls = []
   · rw [if_pos e]; exact ⟨rfl, fun k hk => by rw [List.eq_of_mem_replicate hk]; decide⟩
   · rw [if_neg e]; exact anchorK_hash K s0 hT.len _
 unfold arr
 rw [← hD]
 obtain ⟨LD, hLD⟩ : ∃ L, L = bcells D := ⟨_, rfl⟩
 rw [← hLD]
 have SZD := Lib.hid (show (Tryz.prog.info? 27).map (·.size) = some LD.toArray.size by rw [List.size_toArray, hLD, bcells_length, hDh.1]; kernel_rfl)
 have ZZD := Lib.hid (show zk.size = LD.toArray.size by rw [hzks, List.size_toArray, hLD, bcells_length, hDh.1])
 have ONED := Lib.hid (show LD.toArray.all (·.oneCell') = true by rw [hLD]; exact all_oneCell_toArray (bcells_one D))
 obtain ⟨nl, hnl⟩ : ∃ n, n = ls.length := ⟨_, rfl⟩
 have HLEN := Lib.hid (show ∀ v ty, Below w.heap.size w v → (Builtin.len_ #[99] ty #[.map (some m1)]).run Tryz.prog v = .ok (goInt nl) v from fun v ty hv => by
   have := len_mapL (h.quiet hv).map1 ty
   rwa [List.length_map, ← hnl] at this)
 have HNL := Lib.hid hnl
 have HD := Lib.hid hD
 have ELD := Lib.hid hLD
 have H := Lib.hid h
 have HS := Lib.hid hS
 have HT := Lib.hid hT
 obtain ⟨W1, hW1, h1, hb1⟩ := boxes_an w zk
 have EW := Lib.hid hW1
 have H1 := Lib.hid h1
 have HB1 := Lib.hid hb1
 clear h hT hS hD hDh hLD hnl hW1 h1 hb1 hzks
 go_enter Tryz.func12, Tryz.ntmps12
 go_upto_region 1 with (fail)
 rw [← EW.out]
 obtain ⟨B, hB⟩ : ∃ y, y = w.heap.size := ⟨_, rfl⟩
 rw [← hB] at H1 ⊢
 have EB := Lib.hid hB
 clear hB EW
 have hc1 := (H.out.quiet HB1.out).cells.2.1
 have hlen : ∀ ty, (Builtin.len_ #[99] ty #[.map (some m1)]).run Tryz.prog W1 = .ok (goInt nl) W1 := fun ty => HLEN.out W1 ty HB1.out
 by_cases hn0 : nl = 0
 · have HZ := Lib.hid (show LD = bcells (List.replicate 32 0) by
     have e0 : ls = [] := List.eq_nil_of_length_eq_zero (by rw [← HNL.out]; exact hn0)
     rw [ELD.out, HD.out]
     unfold anchorOf
     rw [if_pos e0])
   have HBH := Lib.hid (show ∀ v, (Instr.build 27 #[]).run Tryz.prog v = .ok (.agg LD.toArray) v from fun v => by rw [HZ.out]; kernel_rfl)
   subst hn0
   go_wp2_with (first
     | (refine wpList_build_run rfl 27 #[] rfl #[] (by kernel_rfl) (.agg LD.toArray) (HBH.out _) ?_)
     | (refine wpList_store_row rfl 27 (.tmp 2) (.tmp 13) rfl B LD.toArray rfl rfl 27 zk H1.out SZD.out ZZD.out ONED.out ?_))
   have hk9 := kept_setRow (g := B) W1 LD.toArray
   have hb9 := HB1.out.trans (hk9.below HB1.out.size (fun j e => by rw [show j = B from e, EB.out]; exact Nat.le_refl _))
   have HRES9 := Lib.hid (show Has (W1.setRow B LD.toArray) B 27 LD.toArray from H1.out.setRow)
   have HFIN := Lib.hid (And.intro (H.out.quiet hb9) (show Kept (fun k => ∃ e ∈ E, Z e.2 k) w (W1.setRow B LD.toArray) from Kept.of_below hb9))
   clear hk9 hb9
   refine bodyPost_ret (results_cell_row rfl _ _ B 27 LD.toArray (0, 0) _ rfl HRES9.out Tryz.underlying27 rfl SZD.out) rfl ?_
   exact ⟨rfl, HFIN.out⟩
 · have hn1 : ¬ (nl : Int) = 0 := by omega
   have HNN := Lib.hid (show ¬ ls = [] from fun e => hn0 (by rw [HNL.out, e]; rfl))
   clear hn0
   have hal := coAll_at ((H.out.zoneS (S' := fun k => S k ∧ k < w.heap.size) (fun k h1 h2 => ⟨h2, h1⟩)).quiet HB1.out) (HT.out.below HB1.out HT.out.low) (fun k e => HS.out k e.1)
   have HAL := Lib.hid hal
   clear hal
   go_wp2_with fail
   refine HAL.out.mono ?_
   rintro _ W3 ⟨ga, T, Za, rfl, hperm, htr, hza, hlo, hcm, hkp⟩
   have hBz : ¬ (∃ e ∈ E, Z e.2 B) := fun ⟨e, he, hz⟩ => by have a1 := (H.out.zone e he B hz).1; have a2 := EB.out; omega
   have hb3 := H1.out.kept hkp hBz
   have ht3 : Tabs K s0 W3 := (HT.out.below HB1.out HT.out.low).kept hkp (fun k ⟨e, he, hz⟩ => HS.out k (H.out.zone e he k hz).2.1)
   have hrt := tr_root htr ht3 hlo
   rw [top_perm H.out.fine hperm htr.keyed] at hrt
   obtain ⟨P, hP⟩ : ∃ P, P = partNd K s0 256 (topT K s0 ls) := ⟨_, rfl⟩
   rw [← hP] at hrt
   have HPH := Lib.hid (show IsHash P.h by rw [hP]; exact top_hash ht3.len)
   have HPS := Lib.hid (show P.s < 18446744073709551616 by rw [hP]; exact top_fit ht3.len H.out.fine)
   have HDP := Lib.hid (show anchorK K s0 P = D by rw [HD.out, hP]; unfold anchorOf; rw [if_neg HNN.out])
   have HRT := Lib.hid hrt
   have HKP := Lib.hid hkp
   have HCM := Lib.hid hcm
   have HB3 := Lib.hid hb3
   have HT3 := Lib.hid ht3
   have HZA := Lib.hid (show ∀ k, Za k → W1.heap.size ≤ k ∧ k ≠ B ∧ 2 + 1 ≤ k from fun k hz => by have a1 := hza k hz; have a2 := H1.out.lt; have a3 := (HT.out.below HB1.out HT.out.low).low; exact ⟨a1, by omega, by omega⟩)
   clear hperm htr hza hlo hcm hkp hBz hb3 ht3 hrt hP HAL hlen hc1
   go_wp2_with fail
   refine HRT.out.mono ?_
   rintro _ W4 ⟨rfl, -, hk4⟩
   have hb4 := HB3.out.kept hk4 (fun e => (HZA.out B e).2.1 rfl)
   have HB4 := Lib.hid hb4
   have HCM4 := Lib.hid (HCM.out.kept hk4 (fun k _ e1 e2 => by have a1 := (HZA.out k e2).1; have a2 := e1.2; have a3 := HB1.out.size; omega))
   have HT4 := Lib.hid (HT3.out.kept hk4 (fun k e => (HZA.out k e).2.2))
   have HK4 := Lib.hid (show Kept (fun k => (∃ e ∈ E, Z e.2 k) ∨ w.heap.size ≤ k) w W4 from ((Kept.of_below HB1.out).trans (HKP.out.mono (fun _ _ e => .inl e))).step hk4 (fun k e => .inr (Nat.le_trans HB1.out.size (HZA.out k e).1)))
   clear hb4 hk4 HB3 HCM HT3 HRT HKP
   have han := coAnchor_is K s0 W4 HT4.out P HPH.out HPS.out
   rw [HDP.out] at han
   unfold arr at han
   rw [← ELD.out] at han
   have HAN := Lib.hid han
   clear han
   go_wp2_with fail
   refine HAN.out.mono ?_
   rintro _ W5 ⟨rfl, hb5⟩
   have HB5 := Lib.hid (HB4.out.below hb5 HB4.out.lt)
   have HCM5 := Lib.hid (HCM4.out.quiet hb5)
   have HK5 := Lib.hid (HK4.out.trans (Kept.of_below hb5))
   clear hb5 HAN HCM4 HK4 HB4
   go_wp2_with (refine wpList_store_row rfl 27 (.tmp 2) (.tmp 17) rfl B LD.toArray rfl rfl 27 zk HB5.out SZD.out ZZD.out ONED.out ?_)
   have hk9 := kept_setRow (g := B) W5 LD.toArray
   have HRES9 := Lib.hid (show Has (W5.setRow B LD.toArray) B 27 LD.toArray from HB5.out.setRow)
   have HFIN := Lib.hid (show CmAt K s0 S (W5.setRow B LD.toArray) g ls m0 m1 E Z ∧ Kept (fun k => ∃ e ∈ E, Z e.2 k) w (W5.setRow B LD.toArray) from by
     refine ⟨(HCM5.out.kept hk9 (fun k _ e1 e2 => by have a1 := e1.2; have a2 : k = B := e2; have a3 := EB.out; omega)).zoneS (fun k _ e => e.1), ?_⟩
     · exact (HK5.out.step hk9 (fun k e => .inr (by rw [show k = B from e, EB.out]; exact Nat.le_refl _))).mono (fun k hk e => by rcases e with e | e; exact e; omega))
   clear hk9
   refine bodyPost_ret (results_cell_row rfl _ _ B 27 LD.toArray (0, 0) _ rfl HRES9.out Tryz.underlying27 rfl SZD.out) rfl ?_
   exact ⟨rfl, HFIN.out⟩
end Go.Proofs.YtknfbccbdiidjaaGreatDoor
