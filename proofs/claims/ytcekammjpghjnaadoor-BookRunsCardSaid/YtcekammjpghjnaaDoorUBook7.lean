/- The walks of Fund where it refuses, and of set. -/
import Derived.Test.YtcekammjpghjnaaDoorWs
import Derived.Test.YtcekammjpghjnaaDoorUBook6
namespace Go.Proofs.YtcekammjpghjnaaDoor
set_option linter.unusedVariables false
set_option linter.unusedSimpArgs false
open Go.ChangeShapes Go.WideShapes Go.ChangeAt Go.RowKit Go.Maps

set_option maxRecDepth 100000 in
set_option maxHeartbeats 2000000 in
theorem fund_arg (w : World) (g : Nat) (at_ : Int) (id : List Nat) (n : Nat) (h : ¬ isSide at_ ∨ n = 0) :
   Calls Tryd.prog 8 #[.pointer (some ⟨g, 0, none⟩), .int .i64 at_, arr id, .int .u64 (n : Int)] w fun e w' => e = .returned (.int .i64 1) ∧ Below w.heap.size w w' := by
 have hbel := (Below.refl w.heap.size w).alloc (Nat.le_refl _) (.cells (bcells id).toArray 39)
 have HBEL := Lib.hid hbel
 unfold arr
 obtain ⟨L, hIA⟩ : ∃ A, A = bcells id := ⟨_, rfl⟩
 rw [← hIA] at HBEL ⊢
 clear hbel hIA
 by_cases hs : isSide at_
 · have hn : n = 0 := h.resolve_left (fun e => e hs)
   have HS := Lib.hid (fun w => side_yes w at_ hs)
   subst hn
   clear hs h
   go_enter Tryd.func8, Tryd.ntmps8
   go_upto_region 1 with (fail)
   generalize w.alloc (.cells L.toArray 39) = W at HBEL ⊢
   go_wp2_with fail
   refine (HS.out W).mono ?_
   rintro _ W8 ⟨rfl, e8⟩
   have e9 := e8.symm
   subst e9
   go_wp2
   go_ret
   exact ⟨rfl, HBEL.out⟩
 · have HS := Lib.hid (fun w => side_no w at_ hs)
   clear hs h
   go_enter Tryd.func8, Tryd.ntmps8
   go_upto_region 1 with (fail)
   generalize w.alloc (.cells L.toArray 39) = W at HBEL ⊢
   go_wp2_with fail
   refine (HS.out W).mono ?_
   rintro _ W8 ⟨rfl, e8⟩
   have e9 := e8.symm
   subst e9
   go_wp2
   go_ret
   exact ⟨rfl, HBEL.out⟩

set_option maxRecDepth 100000 in
set_option maxHeartbeats 2000000 in
theorem fund_over (w : World) (g m0 m1 : Nat) (v : Value) (b : Bk) (at_ : Int) (id : List Nat) (n : Nat) (h : BookAt w g m0 m1 v b) (hb : b.ok) (hid : IsHash id) (ha : isSide at_) (hn : 0 < n) (hn2 : n < 18446744073709551616) (hs : 18446744073709551616 ≤ (amounts b id).sum + n) :
   Calls Tryd.prog 8 #[.pointer (some ⟨g, 0, none⟩), .int .i64 at_, arr id, .int .u64 (n : Int)] w fun e w' => e = .returned (.int .i64 10) ∧ Below w.heap.size w w' := by
 have szk : (Tryd.prog.info? 39).map (·.size) = some (bcells id).toArray.size := by rw [List.size_toArray, bcells_length, hid.1]; kernel_rfl
 have hbox := Has.new w 39 (bcells id).toArray
 have HBOX := Lib.hid hbox
 have hk := (Kept.refl (fun _ => False) w).alloc (.cells (bcells id).toArray 39)
 have HK := Lib.hid hk
 have hat := h.kept hk (fun _ _ h => h)
 have hall := all_is _ 0 g m0 m1 b id hat.is hb.n0 hb.n1 hb.off hid hb.len
 have HS := Lib.hid (fun w => side_yes w at_ ha)
 obtain ⟨T, hTT⟩ : ∃ T, T = (amounts b id).sum := ⟨_, rfl⟩
 rw [← hTT] at hs
 unfold arr at hall ⊢
 have SZK := Lib.hid szk
 obtain ⟨L, hIA⟩ : ∃ A, A = bcells id := ⟨_, rfl⟩
 rw [← hIA] at HBOX SZK HK hall ⊢
 unfold totalV at hall
 rw [← hTT] at hall
 clear hb hk hid szk hbox hIA hat h hTT ha
 by_cases hf : T < 18446744073709551616
 · rw [if_pos hf] at hall
   have HADD := Lib.hid (fun w => add_over w T n hs (by omega))
   have HALL := Lib.hid hall
   clear hall
   go_enter Tryd.func8, Tryd.ntmps8
   go_upto_region 1 with (fail)
   generalize w.alloc (.cells L.toArray 39) = W at HBOX SZK HK HALL ⊢
   go_upto_region 3 with (refine (HS.out W).mono ?_; rintro _ W8 ⟨rfl, e8⟩; have e9 := e8.symm; subst e9)
   go_wp2_with (refine wpList_load_row rfl 39 (.tmp 6) rfl w.heap.size rfl 39 L.toArray (0, 0) _ HBOX.out Tryd.underlying39 rfl SZK.out ?_)
   refine HALL.out.mono ?_
   rintro _ W2 ⟨rfl, hb2⟩
   have HB2 := Lib.hid hb2
   clear hb2
   go_wp2_with fail
   refine (HADD.out W2).mono ?_
   rintro _ W9 ⟨rfl, e9⟩
   have e10 := e9.symm
   subst e10
   go_wp2
   go_ret
   exact ⟨rfl, (HK.out.below (Nat.le_refl _) (fun _ h => h.elim)).trans (HB2.out.mono HK.out.size)⟩
 · rw [if_neg hf] at hall
   have HALL := Lib.hid hall
   clear hall
   go_enter Tryd.func8, Tryd.ntmps8
   go_upto_region 1 with (fail)
   generalize w.alloc (.cells L.toArray 39) = W at HBOX SZK HK HALL ⊢
   go_upto_region 3 with (refine (HS.out W).mono ?_; rintro _ W8 ⟨rfl, e8⟩; have e9 := e8.symm; subst e9)
   go_wp2_with (refine wpList_load_row rfl 39 (.tmp 6) rfl w.heap.size rfl 39 L.toArray (0, 0) _ HBOX.out Tryd.underlying39 rfl SZK.out ?_)
   refine HALL.out.mono ?_
   rintro _ W2 ⟨rfl, hb2⟩
   have HB2 := Lib.hid hb2
   clear hb2
   go_wp2
   go_ret
   exact ⟨rfl, (HK.out.below (Nat.le_refl _) (fun _ h => h.elim)).trans (HB2.out.mono HK.out.size)⟩

theorem step_delete {P : Program} {ops : Array Oper} {o : Oper} {a : Act} {w w' : World} {K : Act → World → Prop} {Q : Exit → Act → World → Prop} {E : Prop} (hgd : o.guard = none) (s x : Operand) (t k : TypeId)
  (hop : o.op = .call { callee := .builtin .delete, args := #[s, x], argTypes := #[t, k] }) (mv kv : Value) (hs : a.eval s = mv) (hx : a.eval x = kv)
  (hrun : (Builtin.delete_ #[t, k] o.type #[mv, kv]).run P w = .ok (.tuple #[]) w') (hK : K (a.put o.dst (.tuple #[])) w') :
  if Region.wanted o (yielded ops a.tmps) = true then Oper.wp P o a w K Q else E := by
 have hw : Region.wanted o (yielded ops a.tmps) = true := by simp [Region.wanted, hgd]
 rw [if_pos hw]
 unfold Oper.wp
 simp [execOp, hop, resolve, invoke, builtin, hs, hx, hrun, Result.andThen]
 exact hK

def setL (l : List Ent) (id : List Nat) (n : Nat) : List Ent := if n = 0 then delL l id else putL l id (.int .u64 (n : Int))

set_option maxRecDepth 100000 in
set_option maxHeartbeats 2000000 in
theorem set_is (w : World) (g m0 m1 : Nat) (v : Value) (b : Bk) (at_ : Int) (id : List Nat) (n : Nat) (h : BookAt w g m0 m1 v b) (hid : IsHash id) (ha : isSide at_) :
   Calls Tryd.prog 36 #[.pointer (some ⟨g, 0, none⟩), .int .i64 at_, arr id, .int .u64 (n : Int)] w fun e w' => e = .returned (.tuple #[]) ∧ BookAt w' g m0 m1 v (b.put at_ (setL (b.side at_) id n)) ∧ Kept (bset g m0 m1 v) w w' := by
 have szk : (Tryd.prog.info? 39).map (·.size) = some (bcells id).length := by rw [bcells_length, hid.1]; kernel_rfl
 have hbox := Has.new w 39 (bcells id).toArray
 have hk := (Kept.refl (fun _ => False) w).alloc (.cells (bcells id).toArray 39)
 have hat := h.kept hk (fun _ _ h => h)
 obtain ⟨m, c, hm, hmm⟩ := hat.sided at_ ha
 obtain ⟨hf1, hf2⟩ := hat.far at_ m hmm
 have ha0 : (0 : Int) ≤ at_ := by rcases ha with rfl | rfl <;> decide
 have ha1 : at_ < 2 := by rcases ha with rfl | rfl <;> decide
 have hu30 := hash_under
 have hbm : w.heap.size ≠ m := fun e => by
   obtain ⟨es, ck, hmb, _⟩ := hm
   unfold Has at hbox
   rw [e, hmb] at hbox
   cases hbox
 have hd := delete_is (T := 68) Tryd.underlying68 hm.drew hid 39 0
 have hp := update_is (T := 68) Tryd.underlying68 hm.drew hid (.int .u64 (n : Int))
 unfold arr at hd hp ⊢
 obtain ⟨w1, q1, hm1, hk1⟩ := hd
 obtain ⟨w2, q2, hm2, hk2⟩ := hp
 obtain ⟨L, hIA⟩ : ∃ A, A = bcells id := ⟨_, rfl⟩
 rw [← hIA] at szk hk hbox hat hm hk1 hk2 c q1 q2 ⊢
 have fin : ∀ w2 l, MapIs w2 m l → Kept (· = m) (w.alloc (.cells L.toArray 39)).drew w2 → BookAt w2 g m0 m1 v (b.put at_ l) ∧ Kept (bset g m0 m1 v) w w2 := fun w2 l hm2 hk2 => by
   refine ⟨(hat.kept ((Kept.refl (fun _ => False) _).drew) (fun _ _ h => h)).put at_ ha m hmm _ hm2 hk2 hf1 hf2, (hk.mono (fun _ _ h => h.elim)).step hk2.undrew (fun k hk => .inl ?_)⟩
   subst hk
   rw [hmm]
   split
   · exact .inr (.inl rfl)
   · exact .inr (.inr (.inl rfl))
 have F1 := Lib.hid (fin w1 _ hm1 hk1)
 have F2 := Lib.hid (fin w2 _ hm2 hk2)
 have r0 := hbox.drew.range
 have r1 := (hbox.drew.kept hk1 hbm).range
 have r2 := (hbox.drew.kept hk2 hbm).range
 have c1 := cell_held hk1 (show (w.alloc (.cells L.toArray 39)).drew.cell? _ = _ from c) hf2
 have c2 := cell_held hk2 (show (w.alloc (.cells L.toArray 39)).drew.cell? _ = _ from c) hf2
 clear hm1 hk1 hm2 hk2 hbm fin hf1 hf2 hmm hm hat hk hbox h hid hIA ha
 generalize hW : w.alloc (.cells L.toArray 39) = W at c q1 q2 r0
 have HW := Lib.hid hW
 clear hW
 by_cases hn : n = 0
 · have hset : setL (b.side at_) id n = delL (b.side at_) id := if_pos hn
   rw [hset]
   subst hn
   clear hset q2 r2 c2 F2
   go_enter Tryd.func36, Tryd.ntmps36
   go_upto_region 1 with (fail)
   rw [HW.out]
   go_upto_region 2 with (fail)
   go_region_held3 (fun w' => w'.cell? ⟨g, at_.toNat, none⟩ = some (.map (some m)) ∧ w'.rangeAt w.heap.size 0 L) (first | exact ⟨c, r0⟩ | exact ⟨c1, r1⟩) (first | (refine step_delete rfl (.tmp 15) (.tmp 16) 68 39 rfl (.map (some m)) (.agg L.toArray) rfl rfl q1 ?_))
   go_wp2
   refine bodyPost_ret (results_none rfl _ _ _) rfl ?_
   exact ⟨rfl, F1.out⟩
 · have hset : setL (b.side at_) id n = putL (b.side at_) id (.int .u64 (n : Int)) := if_neg hn
   rw [hset]
   have hn0 : 0 < n := by omega
   clear hset q1 r1 c1 F1 hn
   go_enter Tryd.func36, Tryd.ntmps36
   go_upto_region 1 with (fail)
   rw [HW.out]
   go_upto_region 3 with (fail)
   go_region_held3 (fun w' => w'.cell? ⟨g, at_.toNat, none⟩ = some (.map (some m)) ∧ w'.rangeAt w.heap.size 0 L) (first | exact ⟨c, r0⟩ | exact ⟨c2, r2⟩) (fail)
   go_wp2
   go_end0
   exact ⟨rfl, F2.out⟩
end Go.Proofs.YtcekammjpghjnaaDoor

