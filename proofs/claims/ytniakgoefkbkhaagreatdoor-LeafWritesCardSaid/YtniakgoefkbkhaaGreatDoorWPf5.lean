/- append onto a row of the call's own: besides where the new row lies: what the old row held it holds. -/
import Derived.Test.YtniakgoefkbkhaaGreatDoorWs
import Derived.Deep.AppendLies
import Derived.Test.YtniakgoefkbkhaaGreatDoorWPf3
namespace Go.Proofs.YtniakgoefkbkhaaGreatDoor
set_option linter.unusedVariables false
set_option linter.unusedSimpArgs false

section
variable {P : Program} (w : World)
/-- THE LAW: as run_append_lies, and the cells of the old row are as they were. -/
theorem run_append_stays (t ty : TypeId) (base : Nat) (e : TypeId) (i : TypeInfo) (z : Value) (size bytes : Nat) (ht : P.underlying t = some (.slice e)) (hi : P.info? e = some i) (hz : i.zero = some z)
    (hsize : i.size = size) (hby : i.bytes = bytes) (hzs : z.cells.size = size) (hsz : 0 < size)
    (v : Value) (n : Nat) (xs : List Value) (hown : w.ownsRow base e size v n xs)
    (ad : Addr) (m c : Nat) (news : List Value) (hl : news.length = m * size) (hnews : ∀ j u, news[j]? = some u → w.cell? (ad.add j) = some u) (h1 : ∀ u ∈ news, u.oneCell' = true)
    (hm : 0 < m) (h63 : n + m ≤ maxLen) (hbytes : (n + m) * bytes ≤ 140737488355328) (hbase : base ≤ w.heap.size) (H : Nat) (hH : w.heap.size = H) :
    ∃ g cap w', (Builtin.append_ #[t, t] ty #[v, .slice (some ad) m c]).run P w = .ok (.slice (some ⟨g, 0, none⟩) (n + m) cap) w' ∧
      w'.ownsRow base e size (.slice (some ⟨g, 0, none⟩) (n + m) cap) (n + m) (xs ++ news) ∧ w.grownBy w' v.ownBlock ∧ (v.ownBlock = some g ∨ g = H) ∧ g < w'.heap.size ∧
      (∀ b, v.ownBlock = some b → ∀ (j : Nat) u, xs[j]? = some u → w'.cell? ⟨b, j, none⟩ = some u) := by
  subst hsize
  subst hby
  have hsmall : n + m ≤ 9223372036854775807 := by simp only [maxLen] at h63; omega
  have hlen : (xs ++ news).length = (n + m) * i.size := by rw [List.length_append, hown.1, hl, Nat.add_mul]
  have grown : ∀ (old : Nat), old < n + m → ∀ (row : Option Nat),
      (w.drew.alloc (.cells (xs.toArray ++ news.toArray ++ Builtin.zeroCells z.cells (grownCap w (n + m) old e - (n + m))) e)).ownsRow base e i.size
        (.slice (some ⟨w.heap.size, 0, none⟩) (n + m) (grownCap w (n + m) old e)) (n + m) (xs ++ news) ∧
      w.grownBy (w.drew.alloc (.cells (xs.toArray ++ news.toArray ++ Builtin.zeroCells z.cells (grownCap w (n + m) old e - (n + m))) e)) row := by
    intro old ho row
    have hge := grownCap_ge w (n + m) old e
    have hcm : grownCap w (n + m) old e ≤ maxLen := grownCap_le_maxLen w (n + m) old e h63
    refine ⟨⟨hlen, .inr ⟨w.heap.size, _, _, rfl, hbase, heap_alloc_new w.drew _, hge, hcm, ?_, ?_⟩⟩, ⟨rfl, rfl, rfl, by simp, fun k hk _ => by first | exact heap_alloc_old w.drew _ k hk | exact heap_alloc_old w.drew _ hk⟩⟩
    · simp only [Array.size_append, List.size_toArray, size_zeroCells, hzs, hown.1, hl, ← Nat.add_mul]
      congr 1
      omega
    · simp only [Array.toList_append, List.append_assoc]
      rw [← List.append_assoc, ← hlen]
      exact List.take_left
  rcases hown.2 with ⟨rfl, rfl⟩ | ⟨g, cap, cur, rfl, hbg, hg, hnc, hcm, hcs, htake⟩
  · have hx : xs = [] := List.eq_nil_of_length_eq_zero (by simpa using hown.1)
    subst hx
    have hr := run_append_nil (P := P) w t ty e i z ht hi hz ad m c news hl hnews (by omega) (by omega) (by have hb := hbytes; simp only [Nat.zero_add] at hb; omega)
    have hgr := grown 0 (by omega) (Value.ownBlock (.slice none 0 0))
    simp only [Nat.zero_add, List.nil_append, Array.empty_append] at hgr ⊢
    exact ⟨_, _, _, hr, hgr.1, hgr.2, .inr hH, by simp, fun b hb => by simp [Value.ownBlock] at hb⟩
  · by_cases hroom : n + m ≤ cap
    · have hfit : n * i.size + news.length ≤ cur.size := by rw [hl, hcs, ← Nat.add_mul]; exact Nat.mul_le_mul_right _ hroom
      have hr := run_append_room (P := P) w t ty e i ht hi g n cap cur hg ad m c news hl hnews h1 hroom hfit
      have hown' : (w.setRow g (cur.toList.take (n * i.size) ++ news ++ cur.toList.drop (n * i.size + news.length)).toArray).ownsRow base e i.size (.slice (some ⟨g, 0, none⟩) (n + m) cap) (n + m) (xs ++ news) := by
        refine ⟨hlen, .inr ⟨g, cap, _, rfl, hbg, setRow_heap w g cur _ e _ hg, hroom, hcm, ?_, ?_⟩⟩
        · simp only [List.size_toArray, List.length_append, List.length_take, List.length_drop, Array.length_toList]
          omega
        · rw [htake, ← hlen]
          exact List.take_left
      have hglt : g < w.heap.size := by
        rcases Nat.lt_or_ge g w.heap.size with h | h
        · exact h
        · rw [Array.getElem?_eq_none h] at hg; cases hg
      refine ⟨g, cap, _, hr, hown', ⟨rfl, rfl, rfl, by simp, fun k _ hk => setRow_other w g k _ (fun e => hk (by simp [Value.ownBlock, e]))⟩, .inl rfl, by simpa using hglt, fun b hb j u hu => ?_⟩
      obtain rfl : g = b := by simpa [Value.ownBlock] using hb
      have := hown'.cells (g := g) rfl j u (by rw [List.getElem?_append_left (List.getElem?_eq_some_iff.1 hu).1]; exact hu)
      have hadd : (⟨g, 0, none⟩ : Addr).add j = ⟨g, j, none⟩ := by unfold Addr.add; split <;> simp_all
      rwa [hadd] at this
    · have holds : ∀ j u, xs[j]? = some u → w.cell? ((⟨g, 0, none⟩ : Addr).add j) = some u := hown.cells (g := g) rfl
      have hr := run_append_grow (P := P) w t ty e i z ht hi hz ⟨g, 0, none⟩ n cap xs hown.1 holds ad m c news hl hnews (by omega) (by omega) (growslice_fits (by omega) hbytes)
      have hgr := grown cap (by omega) none
      have hgr' := grown cap (by omega) (Value.ownBlock (.slice (some ⟨g, 0, none⟩) n cap))
      refine ⟨_, _, _, hr, hgr'.1, hgr'.2, .inr hH, by simp, fun b hb j u hu => ?_⟩
      obtain rfl : g = b := by simpa [Value.ownBlock] using hb
      have hadd : (⟨g, 0, none⟩ : Addr).add j = ⟨g, j, none⟩ := by unfold Addr.add; split <;> simp_all
      have := holds j u hu
      rw [hadd] at this
      exact hgr.2.cell this (by simp)
/-- at a step of a region that draws. -/
theorem step_append_stays {w : World} {ops : Array Oper} {o : Oper} {a : Act} {K : Act → World → Prop} {Q : Exit → Act → World → Prop} {E : Prop} (hgd : o.guard = none) (s x : Operand) (t : TypeId)
    (ho : o.op = .call { callee := .builtin .append, args := #[s, x], argTypes := #[t, t] })
    (base : Nat) (e : TypeId) (i : TypeInfo) (z : Value) (size bytes : Nat) (ht : P.underlying t = some (.slice e)) (hi : P.info? e = some i) (hz : i.zero = some z)
    (hsize : i.size = size) (hby : i.bytes = bytes) (hzs : z.cells.size = size) (hsz : 0 < size)
    (v : Value) (n : Nat) (xs : List Value) (hs : a.eval s = v) (hown : w.ownsRow base e size v n xs)
    (ad : Addr) (m c : Nat) (news : List Value) (hx : a.eval x = .slice (some ad) m c) (hl : news.length = m * size) (hnews : ∀ j u, news[j]? = some u → w.cell? (ad.add j) = some u) (h1 : ∀ u ∈ news, u.oneCell' = true)
    (hm : 0 < m) (h63 : n + m ≤ maxLen) (hbytes : (n + m) * bytes ≤ 140737488355328) (hbase : base ≤ w.heap.size) (H : Nat) (hH : w.heap.size = H)
    (h : ∀ g cap w', w'.ownsRow base e size (.slice (some ⟨g, 0, none⟩) (n + m) cap) (n + m) (xs ++ news) → w.grownBy w' v.ownBlock → (v.ownBlock = some g ∨ g = H) → g < w'.heap.size →
      (∀ b, v.ownBlock = some b → ∀ (j : Nat) u, xs[j]? = some u → w'.cell? ⟨b, j, none⟩ = some u) → K (a.put o.dst (.slice (some ⟨g, 0, none⟩) (n + m) cap)) w') :
    if Region.wanted o (yielded ops a.tmps) = true then Oper.wp P o a w K Q else E := by
  have hw : Region.wanted o (yielded ops a.tmps) = true := by simp [Region.wanted, hgd]
  rw [if_pos hw]
  obtain ⟨g, cap, w', hr, h2, h3, h4, h5, h6⟩ := run_append_stays (P := P) w t o.type base e i z size bytes ht hi hz hsize hby hzs hsz v n xs hown ad m c news hl hnews h1 hm h63 hbytes hbase H hH
  unfold Oper.wp execOp
  simp only [ho, resolve, invoke, builtin, Sem.run_bind, Sem.run_pure, Result.andThen_ok, List.map_toArray, List.map_cons, List.map_nil, hs, hx, hr]
  exact h g cap w' h2 h3 h4 h5 h6
end
end Go.Proofs.YtniakgoefkbkhaaGreatDoor
/- The walk of Check: whether a leaf stands at a key of the tree with a root. -/
namespace Go.Proofs.YtniakgoefkbkhaaGreatDoor
set_option linter.unusedVariables false
set_option linter.unusedSimpArgs false
open Go.ChangeShapes Go.WideShapes Go.ChangeAt Go.RowKit Go.Maps

theorem pfAt_errs {K s0 : List Wd} {bare : Nat → Bool} {key : List Nat} {nodes : List Nd} {n0 : Nd} : ∀ (h : Nat) {e : Nat}, pfAt K s0 bare key nodes n0 h = .error e → e = 10 ∨ e = 20 ∨ e = 21 := by
 intro h
 induction h with
 | zero => intro e he; cases he
 | succ h ih =>
  intro e he
  cases e0 : pfAt K s0 bare key nodes n0 h with
  | error e' => rw [pfAt_err e0 1] at he; cases he; exact ih e0
  | ok p =>
   obtain ⟨m, v⟩ := p
   rw [pfAt_succ h e0] at he
   unfold pfStep pfBr at he
   split at he
   · split at he
     · cases he
     · cases he; exact .inl rfl
   · split at he
     · cases he; exact .inr (.inl rfl)
     · split at he
       · cases he; exact .inr (.inr rfl)
       · split at he
         · cases he
         · cases he; exact .inl rfl
theorem pf_errs {K s0 : List Wd} {bare : Nat → Bool} {key : List Nat} {nodes : List Nd} {n0 : Nd} {e : Nat} (he : pfRoot K s0 bare key nodes n0 = .error e) : e = 10 ∨ e = 20 ∨ e = 21 ∨ e = 24 := by
 unfold pfRoot at he
 cases e0 : pfAt K s0 bare key nodes n0 256 with
 | error e' => rw [e0] at he; cases he; rcases pfAt_errs 256 e0 with h | h | h <;> simp [h]
 | ok p =>
  rw [e0] at he
  change (if p.2 < nodes.length then (Except.error 24 : Except Nat Nd) else .ok p.1) = .error e at he
  split at he
  · cases he; simp
  · cases he
def chkE (R : Except Nat Nd) (r : Nd) : Nat := match R with
 | .error e => e
 | .ok n => if ndSame n r = true then 0 else 30
theorem chk_ok (n r : Nd) : chkE (.ok n) r = if ndSame n r = true then 0 else 30 := rfl
set_option maxRecDepth 100000 in
set_option maxHeartbeats 8000000 in
theorem check_is (K s0 : List Wd) (w : World) (hT : Tabs K s0 w) (bb : List Nat) (hbb : IsHash bb) (a : Option Addr) (n c : Nat) (xs : List Nd) (hxs : NodesAt w a n xs) (hn : n ≤ 1000000) (r : Nd) (hr : IsHash r.h)
  (key : List Nat) (hkey : IsHash key) (av : Option Addr) (bs : List Nat) (cv s : Nat) (hB : Bytes w w.heap.size (.slice av bs.length cv) bs) (hl : bs.length ≤ 1000000) (hs : s < 18446744073709551616) (R : Except Nat Nd)
  (hR : R = pfRoot K s0 (bareB bb) key xs (leafNd K s0 bs s)) :
  Calls Tryz.prog 65 #[.agg (pcells bb a n c).toArray, .agg (ndV r).toArray, arr key, leafV (.slice av bs.length cv) s] w fun e w' => e = .returned (.int .i64 (chkE R r : Nat)) ∧ Below w.heap.size w w' := by
 obtain ⟨Z, hz, hZs, hZn, hZ⟩ := zero_node
 have hroot : ∀ W, Below w.heap.size w W → Calls Tryz.prog 87 #[.agg (pcells bb a n c).toArray, arr key, leafV (.slice av bs.length cv) s] W fun e w' => e = .returned (.tuple #[.agg (ndV (pfN R)).toArray, .int .i64 (pfE R : Nat)]) ∧ Below W.heap.size W w' := fun W hW =>
  pfRoot_is K s0 W (hT.below hW hT.low) bb hbb a n c xs (hxs.below hW) hn key hkey av bs cv s (hB.alive hW hW.size) hl hs R hR
 have hrh : IsHash (pfN R).h := by rw [hR]; exact pf_hash hT.len (leaf_hash K s0 hT.len bs s)
 have herr : ∀ e, R = .error e → ¬ e = 0 := fun e he => by rw [he] at hR; rcases pf_errs hR.symm with h | h | h | h <;> omega
 obtain ⟨LP, hLP⟩ : ∃ L, L = pcells bb a n c := ⟨_, rfl⟩
 obtain ⟨CK, hCK⟩ : ∃ L, L = bcells key := ⟨_, rfl⟩
 obtain ⟨nb, hnb⟩ : ∃ x, x = bs.length := ⟨_, rfl⟩
 have lp : LP.length = 33 := by rw [hLP]; exact pcells_len hbb a n c
 have lk : CK.length = 32 := by rw [hCK, bcells_length, hkey.1]
 unfold arr leafV at hroot ⊢
 rw [← hLP, ← hCK, ← hnb] at hroot ⊢
 have HROOT := Lib.hid hroot
 have HRH := Lib.hid hrh
 have HR := Lib.hid hr
 have HERR := Lib.hid herr
 have SZP := Lib.hid (show (Tryz.prog.info? 107).map (·.size) = some LP.toArray.size by rw [List.size_toArray, lp]; kernel_rfl)
 have SZK := Lib.hid (show (Tryz.prog.info? 25).map (·.size) = some CK.toArray.size by rw [List.size_toArray, lk]; kernel_rfl)
 have SZN := Lib.hid (show ∀ x : Nd, IsHash x.h → (Tryz.prog.info? 39).map (·.size) = some (ndV x).toArray.size from fun x hx => by rw [List.size_toArray, ndV_len hx]; kernel_rfl)
 have HZN := Lib.hid (show ∀ x : Nd, IsHash x.h → Z.size = (ndV x).toArray.size from fun x hx => by rw [hZs, List.size_toArray, ndV_len hx])
 have SZF := Lib.hid (show (Tryz.prog.info? 75).map (·.size) = some (#[Value.slice av nb cv, .int .u64 (s : Int)] : Array Value).size by kernel_rfl)
 clear hroot hrh hr hLP hCK hnb hT hxs hB hl hs hR hZs lp lk hkey hbb herr hZ
 go_enter Tryz.func65, Tryz.ntmps65
 go_upto_region 1 with (fail)
 have h4 : Has ((((w.alloc (.cells LP.toArray 107)).alloc (.cells (ndV r).toArray 39)).alloc (.cells CK.toArray 25)).alloc (.cells #[.slice av nb cv, .int .u64 (s : Int)] 75)) w.heap.size 107 LP.toArray := (((Has.new w _ _).alloc _).alloc _).alloc _
 have h5 : Has ((((w.alloc (.cells LP.toArray 107)).alloc (.cells (ndV r).toArray 39)).alloc (.cells CK.toArray 25)).alloc (.cells #[.slice av nb cv, .int .u64 (s : Int)] 75)) (w.heap.size + 1) 39 (ndV r).toArray := by
  have := Has.new (w.alloc (.cells LP.toArray 107)) 39 (ndV r).toArray
  exact ((by simpa using this : Has _ (w.heap.size + 1) _ _).alloc _).alloc _
 have h6 : Has ((((w.alloc (.cells LP.toArray 107)).alloc (.cells (ndV r).toArray 39)).alloc (.cells CK.toArray 25)).alloc (.cells #[.slice av nb cv, .int .u64 (s : Int)] 75)) (w.heap.size + 1 + 1) 25 CK.toArray := by
  have := Has.new ((w.alloc (.cells LP.toArray 107)).alloc (.cells (ndV r).toArray 39)) 25 CK.toArray
  exact (by simpa using this : Has _ (w.heap.size + 1 + 1) _ _).alloc _
 have h7 : Has ((((w.alloc (.cells LP.toArray 107)).alloc (.cells (ndV r).toArray 39)).alloc (.cells CK.toArray 25)).alloc (.cells #[.slice av nb cv, .int .u64 (s : Int)] 75)) (w.heap.size + 1 + 1 + 1) 75 #[.slice av nb cv, .int .u64 (s : Int)] := by
  have := Has.new (((w.alloc (.cells LP.toArray 107)).alloc (.cells (ndV r).toArray 39)).alloc (.cells CK.toArray 25)) 75 #[.slice av nb cv, .int .u64 (s : Int)]
  simpa using this
 have hb1 : Below w.heap.size w ((((w.alloc (.cells LP.toArray 107)).alloc (.cells (ndV r).toArray 39)).alloc (.cells CK.toArray 25)).alloc (.cells #[.slice av nb cv, .int .u64 (s : Int)] 75)) :=
  ((((Below.refl _ _).alloc (Nat.le_refl _) _).alloc (by simp) _).alloc (by simp; omega) _).alloc (by simp; omega) _
 generalize (((w.alloc (.cells LP.toArray 107)).alloc (.cells (ndV r).toArray 39)).alloc (.cells CK.toArray 25)).alloc (.cells #[.slice av nb cv, .int .u64 (s : Int)] 75) = W1 at h4 h5 h6 h7 hb1 ⊢
 have H4 := Lib.hid h4
 have H5 := Lib.hid h5
 have H6 := Lib.hid h6
 have H7 := Lib.hid h7
 have HB1 := Lib.hid hb1
 clear h4 h5 h6 h7 hb1
 go_wp2_with (first
  | (refine wpList_load_row rfl 107 (.tmp 4) rfl w.heap.size rfl 107 LP.toArray (0, 0) _ H4.out Tryz.underlying107 rfl SZP.out ?_)
  | (refine wpList_load_row rfl 25 (.tmp 6) rfl (w.heap.size + 1 + 1) rfl 25 CK.toArray (0, 0) _ H6.out Tryz.underlying25 rfl SZK.out ?_)
  | (refine wpList_load_row rfl 75 (.tmp 7) rfl (w.heap.size + 1 + 1 + 1) rfl 75 #[.slice av nb cv, .int .u64 (s : Int)] (0, 0) _ H7.out Tryz.underlying75 rfl SZF.out ?_))
 refine (HROOT.out _ HB1.out).mono ?_
 rintro _ w2 ⟨rfl, hb2⟩
 have hnw : Has ((w2.alloc (.cells Z 39)).setRow w2.heap.size (ndV (pfN R)).toArray) w2.heap.size 39 (ndV (pfN R)).toArray ∧ Has ((w2.alloc (.cells Z 39)).setRow w2.heap.size (ndV (pfN R)).toArray) (w.heap.size + 1) 39 (ndV r).toArray ∧ Below w.heap.size w ((w2.alloc (.cells Z 39)).setRow w2.heap.size (ndV (pfN R)).toArray) := by
  rw [World.setRow_alloc_new]
  exact ⟨Has.new _ _ _, (H5.out.below hb2 H5.out.lt).alloc _, (HB1.out.trans (hb2.mono HB1.out.size)).alloc (by have := HB1.out.size; have := hb2.size; omega) _⟩
 have HNW := Lib.hid hnw
 clear hb2 hnw H4 H5 H6 H7 HROOT
 go_upto_region 2 with (refine wpList_store_row rfl 39 (.tmp 9) (.tmp 16) rfl w2.heap.size (ndV (pfN R)).toArray rfl rfl 39 Z (heap_alloc_new w2 _) (SZN.out _ HRH.out) (HZN.out _ HRH.out) (ndV_one _) ?_)
 generalize (w2.alloc (.cells Z 39)).setRow w2.heap.size (ndV (pfN R)).toArray = W3 at HNW ⊢
 cases R with
 | error e =>
  have he : ¬ e = 0 := HERR.out e rfl
  have hne : ((e : Int) != 0) = true := by rw [bne_iff_ne]; omega
  unfold pfE
  go_wp2
  go_ret
  exact ⟨rfl, HNW.out.2.2⟩
 | ok m =>
  have hcmp := nd_any m r HRH.out HR.out
  unfold pfE
  have hz0 : (((0 : Nat) : Int) != 0) = false := rfl
  obtain ⟨sm, hsm⟩ : ∃ b, b = ndSame m r := ⟨_, rfl⟩
  rw [← hsm] at hcmp
  have ESM := Lib.hid hsm
  have HHN := Lib.hid (show Has W3 w2.heap.size 39 (ndV m).toArray from HNW.out.1)
  have SZM := Lib.hid (show (Tryz.prog.info? 39).map (·.size) = some (ndV m).toArray.size from SZN.out m HRH.out)
  clear hsm
  cases sm with
  | true =>
   go_wp2_with (first
    | (refine wpList_load_row rfl 39 (.tmp 9) rfl w2.heap.size rfl 39 (ndV m).toArray (0, 0) _ HHN.out Tryz.underlying39 rfl SZM.out ?_)
    | (refine wpList_load_row rfl 39 (.tmp 5) rfl (w.heap.size + 1) rfl 39 (ndV r).toArray (0, 0) _ HNW.out.2.1 Tryz.underlying39 rfl (SZN.out _ HR.out) ?_))
   go_ret
   exact ⟨ret_int (by rw [chk_ok, ← ESM.out, if_pos rfl]; rfl), HNW.out.2.2⟩
  | false =>
   go_wp2_with (first
    | (refine wpList_load_row rfl 39 (.tmp 9) rfl w2.heap.size rfl 39 (ndV m).toArray (0, 0) _ HHN.out Tryz.underlying39 rfl SZM.out ?_)
    | (refine wpList_load_row rfl 39 (.tmp 5) rfl (w.heap.size + 1) rfl 39 (ndV r).toArray (0, 0) _ HNW.out.2.1 Tryz.underlying39 rfl (SZN.out _ HR.out) ?_))
   go_ret
   exact ⟨ret_int (by rw [chk_ok, ← ESM.out, if_neg (by decide)]; rfl), HNW.out.2.2⟩
end Go.Proofs.YtniakgoefkbkhaaGreatDoor

/- Parts of Make: bits that are set, nodes that are gathered. -/
namespace Go.Proofs.YtniakgoefkbkhaaGreatDoor
set_option linter.unusedVariables false
set_option linter.unusedSimpArgs false
open Go.ChangeShapes Go.WideShapes Go.ChangeAt Go.RowKit Go.Maps

theorem bareB_test (bb : List Nat) (h : Nat) : bareB bb h = (bb.getD (h / 8) 0).testBit (h % 8) := by
 unfold bareB
 rw [Nat.testBit_eq_decide_div_mod_eq]
theorem bare_set {bb : List Nat} (hb : IsHash bb) (k : Nat) (hk : k < 256) :
   IsHash (bb.set (k / 8) (bb.getD (k / 8) 0 ||| 2 ^ (k % 8))) ∧ ∀ h, h < 256 → bareB (bb.set (k / 8) (bb.getD (k / 8) 0 ||| 2 ^ (k % 8))) h = (bareB bb h || decide (h = k)) := by
 have hy : bb.getD (k / 8) 0 ||| 2 ^ (k % 8) < 256 := by
   have h1 := hb.byte (k / 8) (by omega)
   have h2 : 2 ^ (k % 8) < 2 ^ 8 := Nat.pow_lt_pow_right (by decide) (Nat.mod_lt _ (by decide))
   exact Nat.or_lt_two_pow (n := 8) h1 h2
 refine ⟨⟨by rw [List.length_set, hb.1], fun x hx => ?_⟩, fun h hh => ?_⟩
 · rcases List.mem_or_eq_of_mem_set hx with e | e
   · exact hb.2 x e
   · rw [e]; exact hy
 · rw [bareB_test, bareB_test]
   by_cases e : h / 8 = k / 8
   · rw [e, List.getD_eq_getElem?_getD, List.getElem?_set_self (by rw [hb.1]; omega), Option.getD_some, Nat.testBit_or, Nat.testBit_two_pow]
     congr 1
     rw [decide_eq_decide]
     omega
   · rw [List.getD_eq_getElem?_getD, List.getElem?_set_ne (by omega), ← List.getD_eq_getElem?_getD, decide_eq_false (show ¬ h = k from fun q => e (by rw [q])), Bool.or_false]
theorem bareB_zero (h : Nat) (hh : h < 256) : bareB (List.replicate 32 0) h = false := by
 rw [bareB_test, List.getD_eq_getElem?_getD, List.getElem?_replicate, if_pos (by omega), Option.getD_some, Nat.zero_testBit]
theorem flatN_get : ∀ (xs : List Nd), (∀ x ∈ xs, IsHash x.h) → ∀ (i j : Nat) x, xs[i]? = some x → j < 33 → (xs.flatMap ndV)[i * 33 + j]? = (ndV x)[j]?
 | [], _, i, j, x, hi, _ => by cases hi
 | y :: ys, hh, 0, j, x, hi, hj => by
  cases hi
  rw [List.flatMap_cons, Nat.zero_mul, Nat.zero_add, List.getElem?_append_left (by rw [ndV_len (hh _ (List.mem_cons_self ..))]; exact hj)]
 | y :: ys, hh, i + 1, j, x, hi, hj => by
  have hl := ndV_len (hh y (List.mem_cons_self ..))
  rw [List.flatMap_cons, List.getElem?_append_right (by rw [hl]; omega), hl, show (i + 1) * 33 + j - 33 = i * 33 + j by omega]
  exact flatN_get ys (fun z hz => hh z (List.mem_cons_of_mem _ hz)) i j x hi hj
theorem own_nodes {w : World} {base : Nat} {a : Option Addr} {n c : Nat} {xs : List Nd} (h : w.ownsRow base 39 33 (.slice a n c) n (xs.flatMap ndV)) (hl : xs.length = n) (hh : ∀ x ∈ xs, IsHash x.h) (hs : ∀ x ∈ xs, x.s < 18446744073709551616) :
   NodesAt w a n xs ∧ (0 < n → ∀ A, a = some A → base ≤ A.block) := by
 refine ⟨⟨hl, hh, hs, fun hn => ?_⟩, fun hn A hA => ?_⟩
 · obtain ⟨b, cap, cur, e, hB, hhas, h1, h2, h3, h4⟩ := own_open h hn
   injection e with e1 e2 e3
   refine ⟨b, 0, e1, hhas.lt, fun i x hx j u hu => ?_⟩
   have hj := (List.getElem?_eq_some_iff.1 hu).1
   rw [ndV_len (hh x (List.mem_of_getElem? hx))] at hj
   have hi := (List.getElem?_eq_some_iff.1 hx).1
   have hlt : i * 33 + j < n * 33 := by
    have : (i + 1) * 33 ≤ n * 33 := Nat.mul_le_mul_right 33 (by omega)
    omega
   rw [Nat.zero_add]
   exact hhas.cell_is (by rw [h4 _ hlt, flatN_get xs hh i j x hx hj]; exact hu)
 · obtain ⟨b, cap, cur, e, hB, hhas, h1, h2, h3, h4⟩ := own_open h hn
   injection e with e1 e2 e3
   rw [hA] at e1
   injection e1 with e1
   rw [e1]; exact hB
theorem zero_proof : ∃ Z : Array Value, (∀ w, (zeroValue 107).run Tryz.prog w = .ok (.agg Z) w) ∧ Z.size = 33 ∧ ¬ Z = #[] ∧ Z = (pcells (List.replicate 32 0) none 0 0).toArray := by
 have hs : (pcells (List.replicate 32 0) none 0 0).toArray.size = 33 := by kernel_rfl
 exact ⟨_, fun w => by kernel_rfl, hs, fun e => (by rw [e] at hs; cases hs), rfl⟩
theorem or_bit (x j : Nat) (hx : x < 256) (hj : j < 8) : bits BinOp.or .u8 (x : Int) ((2 ^ j : Nat) : Int) = ((x ||| 2 ^ j : Nat) : Int) := by
 have h2 : 2 ^ j < 2 ^ 8 := Nat.pow_lt_pow_right (by decide) hj
 have hy : x ||| 2 ^ j < 256 := Nat.or_lt_two_pow (n := 8) hx h2
 unfold bits
 have e : (BitVec.ofInt IntKind.u8.bits (x : Int) ||| BitVec.ofInt IntKind.u8.bits ((2 ^ j : Nat) : Int)).toNat = x ||| 2 ^ j := by
  show (BitVec.ofInt 8 (x : Int) ||| BitVec.ofInt 8 ((2 ^ j : Nat) : Int)).toNat = x ||| 2 ^ j
  rw [BitVec.ofInt_natCast, BitVec.ofInt_natCast, BitVec.toNat_or, BitVec.toNat_ofNat, BitVec.toNat_ofNat, Nat.mod_eq_of_lt hx, Nat.mod_eq_of_lt h2]
 simp only [e]
 have hw : ∀ b : Int, 0 ≤ b → b < 256 → IntKind.u8.wrap b = b := fun b h0 h1 => by
  simp [IntKind.wrap, IntKind.bits, IntKind.signed]; omega
 exact hw _ (by omega) (by omega)
theorem pcells_set {bb : List Nat} (hb : IsHash bb) (a : Option Addr) (n c i y : Nat) (hi : i < 32) : ((pcells bb a n c).toArray.setIfInBounds i (.int .u8 (y : Int))) = (pcells (bb.set i y) a n c).toArray := by
 rw [List.setIfInBounds_toArray]
 congr 1
 unfold pcells bcells
 rw [List.set_append_left _ _ (by rw [List.length_map, hb.1]; exact hi), List.map_set]
theorem pcells_put {bb : List Nat} (hb : IsHash bb) (a a' : Option Addr) (n c n' c' : Nat) : ((pcells bb a n c).toArray.setIfInBounds 32 (.slice a' n' c')) = (pcells bb a' n' c').toArray := by
 rw [List.setIfInBounds_toArray]
 congr 1
 unfold pcells
 rw [List.set_append_right _ _ (by rw [bcells_length, hb.1]; exact Nat.le_refl _), bcells_length, hb.1]
 rfl
end Go.Proofs.YtniakgoefkbkhaaGreatDoor

/- What the head of the proofs' laws asks, in plain lists. -/
namespace Go.Proofs.YtniakgoefkbkhaaGreatDoor
set_option linter.unusedVariables false
set_option linter.unusedSimpArgs false
open Go.ChangeShapes Go.WideShapes Go.ChangeAt Go.RowKit Go.Maps

end Go.Proofs.YtniakgoefkbkhaaGreatDoor

/- A proof as the reference has it. -/
namespace Go.Proofs.YtniakgoefkbkhaaGreatDoor
set_option linter.unusedVariables false
set_option linter.unusedSimpArgs false
open Go.ChangeShapes Go.WideShapes Go.ChangeAt Go.RowKit Go.Maps

end Go.Proofs.YtniakgoefkbkhaaGreatDoor
