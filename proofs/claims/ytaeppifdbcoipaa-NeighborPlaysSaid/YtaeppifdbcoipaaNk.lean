/-
  Neighbours: clones; Copy, Worst.
-/
import Derived.Test.YtaeppifdbcoipaaNh
namespace Go.Proofs.Ytaeppifdbcoipaa
open Go E
set_option linter.unusedVariables false
set_option linter.unusedSimpArgs false
set_option maxRecDepth 100000

theorem mclone_calls (b : Nat) (es : Array MapEntry) (clock : Nat) (w : World) (hb : w.heap[b]? = some (.map es clock)) :
    Calls Try.prog 120 #[.map (some b)] w fun e w' => e = .returned (.map (some w.heap.size)) ∧ w' = w.alloc (.map es clock) := by
  have hq := fun w => run_eql_map_nil_sl (P := Try.prog) w 171 _ _ (some b) Try.underlying171
  go_enter Try.func120, Try.ntmps120
  go_wp2
  rw [run_callFunc_extern Try.func156 (by kernel_rfl) (by kernel_rfl) (by kernel_rfl) (e := Extern.MapsClone.clone) (by kernel_rfl), run_maps_clone_sl w 171 hb]
  simp only [Result.andThen]
  rw [Oper.upon_value]
  go_wp2
  rw [run_typeAssert_map_sl _ 171 20 _ _ _ Try.underlying171]
  simp only [Result.andThen]
  rw [Oper.upon_value]
  go_wp2
  go_ret
  exact ⟨rfl, rfl⟩

theorem mclone_spec {id : Nat} {es : Ents} {c : Nat} {h : AHeap} (hm : h id = some (.map es c)) : CallsA Try.prog 120 [.map id] h (fun r H => ∃ id', r = .map id' ∧ h id' = none ∧ H = upd h id' (.map es c)) := by
  refine ⟨⟨_, Try.func120, by decide, by decide⟩, fun W0 w cargs hrel hargs => ?_⟩
  simp only [VRs, VR] at hargs
  obtain ⟨v, l, e1, rfl, rfl⟩ := hargs
  have hc : cargs = #[.map (some id)] := by rw [← Array.toArray_toList (xs := cargs), e1]
  subst hc
  obtain ⟨_, obj, k2, k3⟩ := hrel.live id _ hm
  have k3' := k3
  simp only [OR] at k3
  obtain ⟨q, rfl, _, _⟩ := k3
  refine (mclone_calls id q.toArray c w k2).mono fun e w' ⟨he, hw⟩ => ?_
  obtain ⟨r1, f1⟩ := alloc_rel hrel k3'
  subst hw
  exact ⟨W0, _, .map w.heap.size, _, he, by simp only [VR], r1, f1, w.heap.size, rfl, fresh_ok hrel, rfl⟩

/-- A slice of none is nil, or is not. -/
theorem CallsA.empty {P : Program} {f : FuncId} {ex : Bool} {h : AHeap} {R : AV → AHeap → Prop} (h1 : CallsA P f [.nils] h R) (h2 : CallsA P f [.rz] h R) : CallsA P f [.ro [] 0 ex] h R := by
  refine ⟨h1.1, fun W0 w cargs hrel hargs => ?_⟩
  simp only [VRs] at hargs
  obtain ⟨v, l, e1, hv, rfl⟩ := hargs
  simp only [VR] at hv
  rcases hv with ⟨p, cap, l, rfl, _⟩ | ⟨_, _, rfl⟩
  · exact h2.2 W0 w cargs hrel (by simp only [VRs, VR]; exact ⟨_, _, e1, ⟨p, cap, rfl⟩, rfl⟩)
  · exact h1.2 W0 w cargs hrel (by simp only [VRs, VR]; exact ⟨_, _, e1, rfl, rfl⟩)

theorem clone_pure (l : List Int) (hn : l.length ≤ 100000) (h : AHeap) : PureA Try.prog 119 [.ro (cat i1 l) l.length false] h (.ro (cat i1 l) l.length false) := by
  cases l with
  | nil =>
    refine CallsA.empty ?_ ?_
    · (refine CallsA.enterR (ac := c119) (rs := r119) Try.func119 rfl (by decide) c119_ok r119_ok ?_; intro Q hQ; simp only [go_sem, Int.reduceEq, Int.reduceAdd, Int.reduceSub, Int.reduceMul, Nat.reduceLT, Int.reduceLT, Int.reduceLE, Int.reduceToNat, Nat.reduceAdd, Nat.reduceSub, Nat.reduceMul, Nat.reduceLeDiff, reduceCtorEq, c119, Try.ntmps119])
      refine hQ _ _ _ _ h [.ro [] 0 false] (.inr rfl) rfl (FzH.refl _) (.cons .nils .nil) ⟨rfl, rfl⟩
    · (refine CallsA.enterR (ac := c119) (rs := r119) Try.func119 rfl (by decide) c119_ok r119_ok ?_; intro Q hQ; simp only [go_sem, Int.reduceEq, Int.reduceAdd, Int.reduceSub, Int.reduceMul, Nat.reduceLT, Int.reduceLT, Int.reduceLE, Int.reduceToNat, Nat.reduceAdd, Nat.reduceSub, Nat.reduceMul, Nat.reduceLeDiff, reduceCtorEq, c119, Try.ntmps119])
      refine (Grow.lit (h0 := h) (esz := 1) (cs := []) (n := 0) rfl rfl).append (ys := []) (m := 0) rfl rfl rfl rfl (by omega) fun v' h' g => ?_
      simp only [go_sem, Int.reduceEq, Int.reduceAdd, Int.reduceSub, Int.reduceMul, Nat.reduceLT, Int.reduceLT, Int.reduceLE, Int.reduceToNat, Nat.reduceAdd, Nat.reduceSub, Nat.reduceMul, Nat.reduceLeDiff, reduceCtorEq]
      refine hQ _ _ _ _ h [.ro [] 0 false] (.inr rfl) rfl g.fzH (.cons g.fz .nil) ⟨rfl, rfl⟩
  | cons b bs => exact Grow.pure (clone_own b bs false h (by simpa using Nat.le_of_succ_le hn))

theorem ncopy_spec {t id : Nat} {most : Int} {kept : List Int} {f : Tb} {H : AHeap} (tb : TbIn t id most kept f H) (hk : kept.length ≤ 100000) :
    CallsA Try.prog 66 [.ptr t 0] H (fun r H' => ∃ t' id', r = .ptr t' 0 ∧ H t' = none ∧ H id' = none ∧ TbIn t' id' most kept f H' ∧ Sub H H') := by
  obtain ⟨es, c, h1, h2⟩ := tb.map
  (refine CallsA.enterR (ac := c66) (rs := r66) Try.func66 rfl (by decide) c66_ok r66_ok ?_; intro Q hQ; simp only [go_sem, Int.reduceEq, Int.reduceAdd, Int.reduceSub, Int.reduceMul, Nat.reduceLT, Int.reduceLT, Int.reduceLE, Int.reduceToNat, Nat.reduceAdd, Nat.reduceSub, Nat.reduceMul, Nat.reduceLeDiff, reduceCtorEq, c66, Try.ntmps66, tb.blk])
  refine (clone_pure kept hk _).use ?_
  simp only [go_sem, Int.reduceEq, Int.reduceAdd, Int.reduceSub, Int.reduceMul, Nat.reduceLT, Int.reduceLT, Int.reduceLE, Int.reduceToNat, Nat.reduceAdd, Nat.reduceSub, Nat.reduceMul, Nat.reduceLeDiff, reduceCtorEq, tb.blk]
  refine (mclone_spec h1).use ?_
  rintro _ H1 ⟨id', rfl, hid', rfl⟩
  have hne : ∀ p, H p ≠ none → p ≠ id' := fun p hp => by rintro rfl; exact hp hid'
  have ht : upd H id' (.map es c) t = H t := upd_ne (hne t (by rw [tb.blk]; simp))
  simp only [go_sem, Int.reduceEq, Int.reduceAdd, Int.reduceSub, Int.reduceMul, Nat.reduceLT, Int.reduceLT, Int.reduceLE, Int.reduceToNat, Nat.reduceAdd, Nat.reduceSub, Nat.reduceMul, Nat.reduceLeDiff, reduceCtorEq, ht, tb.blk]
  intro t' ht'
  have hti : t' ≠ id' := by rintro rfl; rw [upd_same] at ht'; cases ht'
  have ht0 : H t' = none := by rw [upd_ne hti] at ht'; exact ht'
  refine hQ _ _ _ _ _ _ (.inr rfl) rfl (FzH.refl _) (FzL.refl _ _ _) ⟨t', id', rfl, ht0, hid', ⟨upd_same, ⟨es, c, by rw [upd_ne (Ne.symm hti)]; exact upd_same, h2⟩, tb.ok⟩, (Sub.upd (Sub.refl H) hid').trans (Sub.upd (Sub.refl _) ht')⟩

theorem nkeep_nil {t id : Nat} {most : Int} {kept : List Int} {f : Tb} {H : AHeap} (tb : TbIn t id most kept f H) :
    CallsA Try.prog 57 [.ptr t 0, .nils] H (fun r H' => r = .tup [] ∧ H' = upd H t (.cells [.nils, .int .i64 most, .map id] 3)) := by
  have cl : PureA Try.prog 119 [.nils] H .nils := by
    (refine PureA.enter (ac := c119) (rs := r119) Try.func119 rfl (by decide) c119_ok r119_ok ?_; intro Q hQ; simp only [go_sem, Int.reduceEq, Int.reduceAdd, Int.reduceSub, Int.reduceMul, Nat.reduceLT, Int.reduceLT, Int.reduceLE, Int.reduceToNat, Nat.reduceAdd, Nat.reduceSub, Nat.reduceMul, Nat.reduceLeDiff, reduceCtorEq, c119, Try.ntmps119])
    (refine hQ _ _ _ _ _ (by first | exact .inr rfl | exact .inl rfl) rfl (by first | exact FzH.refl _ | exact FzH.sub (by (repeat' (first | exact Sub.refl _ | assumption | (refine Sub.upd ?_ (by first | assumption | (simp only [*]; done) | exact Sub.isNone (by assumption) (by assumption) | exact Sub.isNone (by assumption) (by simp only [*]))))))) (FzL.refl _ _ _) ?_; try (simp only [go_sem, Int.reduceEq, Int.reduceAdd, Int.reduceSub, Int.reduceMul, Nat.reduceLT, Int.reduceLT, Int.reduceLE, Int.reduceToNat, Nat.reduceAdd, Nat.reduceSub, Nat.reduceMul, Nat.reduceLeDiff, reduceCtorEq]))
  have kk : CallsA Try.prog 114 [.ptr t 0, .nils] H (fun r H' => r = .tup [] ∧ H' = upd H t (.cells [.nils, .int .i64 most, .map id] 3)) := by
    (refine CallsA.enterR (ac := c114) (rs := r114) Try.func114 rfl (by decide) c114_ok r114_ok ?_; intro Q hQ; simp only [go_sem, Int.reduceEq, Int.reduceAdd, Int.reduceSub, Int.reduceMul, Nat.reduceLT, Int.reduceLT, Int.reduceLE, Int.reduceToNat, Nat.reduceAdd, Nat.reduceSub, Nat.reduceMul, Nat.reduceLeDiff, reduceCtorEq, c114, Try.ntmps114])
    refine cl.use ?_
    simp only [go_sem, Int.reduceEq, Int.reduceAdd, Int.reduceSub, Int.reduceMul, Nat.reduceLT, Int.reduceLT, Int.reduceLE, Int.reduceToNat, Nat.reduceAdd, Nat.reduceSub, Nat.reduceMul, Nat.reduceLeDiff, reduceCtorEq, tb.blk]
    refine hQ _ _ _ _ _ _ (.inl rfl) rfl (FzH.refl _) (FzL.refl _ _ _) ⟨rfl, rfl⟩
  (refine CallsA.enterR (ac := c57) (rs := r57) Try.func57 rfl (by decide) c57_ok r57_ok ?_; intro Q hQ; simp only [go_sem, Int.reduceEq, Int.reduceAdd, Int.reduceSub, Int.reduceMul, Nat.reduceLT, Int.reduceLT, Int.reduceLE, Int.reduceToNat, Nat.reduceAdd, Nat.reduceSub, Nat.reduceMul, Nat.reduceLeDiff, reduceCtorEq, c57, Try.ntmps57])
  refine kk.use ?_
  rintro r H' ⟨rfl, rfl⟩
  simp only [go_sem, Int.reduceEq, Int.reduceAdd, Int.reduceSub, Int.reduceMul, Nat.reduceLT, Int.reduceLT, Int.reduceLE, Int.reduceToNat, Nat.reduceAdd, Nat.reduceSub, Nat.reduceMul, Nat.reduceLeDiff, reduceCtorEq]
  refine hQ _ _ _ _ _ _ (.inl rfl) rfl (FzH.refl _) (FzL.refl _ _ _) ⟨rfl, rfl⟩

/-! ### The worst one of all but some -/

def worstN (f : Tb) (keep : List Int) : Option En := match (allN f).filter (fun x => !keep.contains x.node) with
  | [] => none
  | m :: l => some (maxL worseE m l)
def zE : En := ⟨0, 0, 0, 0, 0⟩

theorem nworst1_spec (keep : List Int) (ex : Bool) (hk : keep.length ≤ 1000000) (e : En) (H : AHeap) : PureA Try.prog 157 [.agg (encE e), .rp [.ro (cat i1 keep) keep.length ex]] H (.bool (keep.contains e.node)) := by
  (refine PureA.enter (ac := c157) (rs := r157) Try.func157 rfl (by decide) c157_ok r157_ok ?_; intro Q hQ; simp only [go_sem, Int.reduceEq, Int.reduceAdd, Int.reduceSub, Int.reduceMul, Nat.reduceLT, Int.reduceLT, Int.reduceLE, Int.reduceToNat, Nat.reduceAdd, Nat.reduceSub, Nat.reduceMul, Nat.reduceLeDiff, reduceCtorEq, c157, Try.ntmps157, encE])
  refine (cont_spec keep e.node _ _ hk).use ?_
  simp only [go_sem, Int.reduceEq, Int.reduceAdd, Int.reduceSub, Int.reduceMul, Nat.reduceLT, Int.reduceLT, Int.reduceLE, Int.reduceToNat, Nat.reduceAdd, Nat.reduceSub, Nat.reduceMul, Nat.reduceLeDiff, reduceCtorEq]
  (refine hQ _ _ _ _ _ (by first | exact .inr rfl | exact .inl rfl) rfl (by first | exact FzH.refl _ | exact FzH.sub (by (repeat' (first | exact Sub.refl _ | assumption | (refine Sub.upd ?_ (by first | assumption | (simp only [*]; done) | exact Sub.isNone (by assumption) (by assumption) | exact Sub.isNone (by assumption) (by simp only [*]))))))) (FzL.refl _ _ _) ?_; try (simp only [go_sem, Int.reduceEq, Int.reduceAdd, Int.reduceSub, Int.reduceMul, Nat.reduceLT, Int.reduceLT, Int.reduceLE, Int.reduceToNat, Nat.reduceAdd, Nat.reduceSub, Nat.reduceMul, Nat.reduceLeDiff, reduceCtorEq]))

theorem nworst_spec {t id : Nat} {most : Int} {kept : List Int} {f : Tb} {H : AHeap} (tb : TbIn t id most kept f H) (hn : f.length ≤ 12) (keep : List Int) (ex : Bool) (hk : keep.length ≤ 1000000) :
    PureA Try.prog 123 [.ptr t 0, .ro (cat i1 keep) keep.length ex] H (.tup [.agg (encE ((worstN f keep).getD zE)), .int .i64 (if (worstN f keep).isSome then 0 else 8)]) := by
  (refine PureA.enter (ac := c123) (rs := r123) Try.func123 rfl (by decide) c123_ok r123_ok ?_; intro Q hQ; simp only [go_sem, Int.reduceEq, Int.reduceAdd, Int.reduceSub, Int.reduceMul, Nat.reduceLT, Int.reduceLT, Int.reduceLE, Int.reduceToNat, Nat.reduceAdd, Nat.reduceSub, Nat.reduceMul, Nat.reduceLeDiff, reduceCtorEq, c123, Try.ntmps123])
  intro p hp
  have tb1 := tb.sub (Sub.upd (o := .cells [.int .i64 0, .int .i64 0, .int .i64 0, .int .i64 0, .int .i64 0] 5) (Sub.refl H) hp)
  refine (nall_spec tb1 hn).use ?_
  rintro r H1 ⟨gr1, hw1⟩
  simp only [go_sem, Int.reduceEq, Int.reduceAdd, Int.reduceSub, Int.reduceMul, Nat.reduceLT, Int.reduceLT, Int.reduceLE, Int.reduceToNat, Nat.reduceAdd, Nat.reduceSub, Nat.reduceMul, Nat.reduceLeDiff, reduceCtorEq]
  have hal : (allN f).length = f.length := allN_len f
  rw [← hal] at gr1
  refine (E__del (fun x => keep.contains x.node) (allN f) r _ H1 gr1 hw1 157 [.rp [.ro (cat i1 keep) keep.length ex]] (by omega) (fun x _ H' hs => nworst1_spec keep ex hk x H')).use ?_
  rintro v3 H3 ⟨gr3, hw3⟩
  have hlen := gr3.len
  have blk := gr3.keep (x := p) upd_same
  have hfin : ∀ c, FzH (upd H3 p c) H := fun c => by
    refine FzH.sub fun x o e => ?_
    have : x ≠ p := by rintro rfl; rw [hp] at e; cases e
    rw [upd_ne this]
    exact gr3.keep (by rw [upd_ne this]; exact e)
  have hLl : ((allN f).filter fun x => !keep.contains x.node).length ≤ (allN f).length := List.length_filter_le _ _
  unfold worstN at hQ
  generalize hL : ((allN f).filter fun x => !keep.contains x.node) = L at *
  cases L with
  | nil =>
    simp only [go_sem, Int.reduceEq, Int.reduceAdd, Int.reduceSub, Int.reduceMul, Nat.reduceLT, Int.reduceLT, Int.reduceLE, Int.reduceToNat, Nat.reduceAdd, Nat.reduceSub, Nat.reduceMul, Nat.reduceLeDiff, reduceCtorEq, hlen, List.length_nil, blk]
    refine hQ _ _ _ _ _ (.inr rfl) (by first | rfl | (simp only [go_sem, Int.reduceEq, Int.reduceAdd, Int.reduceSub, Int.reduceMul, Nat.reduceLT, Int.reduceLT, Int.reduceLE, Int.reduceToNat, Nat.reduceAdd, Nat.reduceSub, Nat.reduceMul, Nat.reduceLeDiff, reduceCtorEq, r123]; rfl) | simp only [go_sem, Int.reduceEq, Int.reduceAdd, Int.reduceSub, Int.reduceMul, Nat.reduceLT, Int.reduceLT, Int.reduceLE, Int.reduceToNat, Nat.reduceAdd, Nat.reduceSub, Nat.reduceMul, Nat.reduceLeDiff, reduceCtorEq, r123]) (hfin _) (FzL.refl _ _ _) ?_
    rfl
  | cons m l =>
    have hz : decide (((l.length + 1 : Nat) : Int) = 0) = false := decide_eq_false (by omega)
    have hmx := maxE_spec m l (m :: l) rfl v3 _ H3 gr3 (by omega)
    simp only at hQ
    simp only [go_sem, Int.reduceEq, Int.reduceAdd, Int.reduceSub, Int.reduceMul, Nat.reduceLT, Int.reduceLT, Int.reduceLE, Int.reduceToNat, Nat.reduceAdd, Nat.reduceSub, Nat.reduceMul, Nat.reduceLeDiff, reduceCtorEq, hlen, hz]
    refine hmx.use ?_
    simp only [go_sem, Int.reduceEq, Int.reduceAdd, Int.reduceSub, Int.reduceMul, Nat.reduceLT, Int.reduceLT, Int.reduceLE, Int.reduceToNat, Nat.reduceAdd, Nat.reduceSub, Nat.reduceMul, Nat.reduceLeDiff, reduceCtorEq, encE_len, encE_sca, blk]
    refine hQ _ _ _ _ _ (.inr rfl) (by first | rfl | (simp only [go_sem, Int.reduceEq, Int.reduceAdd, Int.reduceSub, Int.reduceMul, Nat.reduceLT, Int.reduceLT, Int.reduceLE, Int.reduceToNat, Nat.reduceAdd, Nat.reduceSub, Nat.reduceMul, Nat.reduceLeDiff, reduceCtorEq, r123, encE_len]; rfl) | simp only [go_sem, Int.reduceEq, Int.reduceAdd, Int.reduceSub, Int.reduceMul, Nat.reduceLT, Int.reduceLT, Int.reduceLE, Int.reduceToNat, Nat.reduceAdd, Nat.reduceSub, Nat.reduceMul, Nat.reduceLeDiff, reduceCtorEq, r123, encE_len]) (hfin _) (FzL.refl _ _ _) ?_
    rfl

end Go.Proofs.Ytaeppifdbcoipaa
