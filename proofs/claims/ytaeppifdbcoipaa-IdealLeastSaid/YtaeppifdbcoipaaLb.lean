/-
  HystRanks on abstract values.
-/
import Derived.Test.YtaeppifdbcoipaaLa
namespace Go.Proofs.Ytaeppifdbcoipaa
open Go E
set_option linter.unusedVariables false
set_option linter.unusedSimpArgs false
set_option maxRecDepth 100000

theorem to15_spec (l : List Cd) (ex : Bool) (h : AHeap) (hn : l.length ≤ 9223372036854775807) : PureA Try.prog 37 [.ro (cat encC l) l.length ex] h (.ro (cat encC (l.take 12)) (l.take 12).length false) := by
  refine Grow.pure (esz := 3) ?_
  (refine CallsA.enterR (ac := c37) (rs := r37) Try.func37 rfl (by decide) c37_ok r37_ok ?_; intro Q hQ; simp only [go_sem, Int.reduceEq, Int.reduceAdd, Int.reduceSub, Int.reduceMul, Nat.reduceLT, Int.reduceLT, Int.reduceLE, Int.reduceToNat, Nat.reduceAdd, Nat.reduceSub, Nat.reduceMul, Nat.reduceLeDiff, reduceCtorEq, c37, Try.ntmps37])
  refine loop_st d37_0 (fun x : Nat × AV => 12 - x.1) (fun x s => (s.set 3 x.2).set 4 (.int .i64 (x.1 : Int))) (fun x H => x.1 ≤ l.length ∧ x.1 ≤ 12 ∧ Grow h 3 x.2 (cat encC (l.take x.1)) x.1 H) (0, .nils) ?_ ⟨Nat.zero_le _, Nat.zero_le _, Grow.nil⟩ ?_
  · (simp only [go_sem, Int.reduceEq, Int.reduceAdd, Int.reduceSub, Int.reduceMul, Nat.reduceLT, Int.reduceLT, Int.reduceLE, Int.reduceToNat, Nat.reduceAdd, Nat.reduceSub, Nat.reduceMul, Nat.reduceLeDiff, reduceCtorEq, d37_0] <;> rfl)
  rintro N ⟨k, v⟩ H ⟨hk, hk2, g⟩ hN
  simp only at hk hk2 g
  simp only [go_sem, Int.reduceEq, Int.reduceAdd, Int.reduceSub, Int.reduceMul, Nat.reduceLT, Int.reduceLT, Int.reduceLE, Int.reduceToNat, Nat.reduceAdd, Nat.reduceSub, Nat.reduceMul, Nat.reduceLeDiff, reduceCtorEq, d37_0]
  by_cases hlt : k < l.length
  · by_cases h12 : k < 12
    · have h12' : (k : Int) < 12 := by omega
      have hadd := wadd1 (k := k) (by omega)
      have r0 := rd_cell (h := H) (off := 0) encC_len hlt (by omega)
      have r1 := rd_cell (h := H) (off := 1) encC_len hlt (by omega)
      have r2 := rd_cell (h := H) (off := 2) encC_len hlt (by omega)
      simp only [encC, List.drop_zero, List.getElem?_cons_succ, List.getElem?_cons_zero] at r0 r1 r2
      simp only [go_sem, Int.reduceEq, Int.reduceAdd, Int.reduceSub, Int.reduceMul, Nat.reduceLT, Int.reduceLT, Int.reduceLE, Int.reduceToNat, Nat.reduceAdd, Nat.reduceSub, Nat.reduceMul, Nat.reduceLeDiff, reduceCtorEq, hlt, h12', hadd, r0, r1, r2]
      refine g.add1 (x := encC l[k]) rfl rfl (by omega) fun v' H' g' => ?_
      simp only [go_sem, Int.reduceEq, Int.reduceAdd, Int.reduceSub, Int.reduceMul, Nat.reduceLT, Int.reduceLT, Int.reduceLE, Int.reduceToNat, Nat.reduceAdd, Nat.reduceSub, Nat.reduceMul, Nat.reduceLeDiff, reduceCtorEq, hadd]
      refine hN (k + 1, v') _ _ (by simp only; omega) ?_ ⟨hlt, h12, ?_⟩
      · simp only [go_sem, Int.reduceEq, Int.reduceAdd, Int.reduceSub, Int.reduceMul, Nat.reduceLT, Int.reduceLT, Int.reduceLE, Int.reduceToNat, Nat.reduceAdd, Nat.reduceSub, Nat.reduceMul, Nat.reduceLeDiff, reduceCtorEq, d37_0]
      · simp only
        rw [List.take_succ_eq_append_getElem hlt, cat_append]
        simpa [cat] using g'
    · have hk12 : k = 12 := by omega
      subst hk12
      (simp only [go_sem, Int.reduceEq, Int.reduceAdd, Int.reduceSub, Int.reduceMul, Nat.reduceLT, Int.reduceLT, Int.reduceLE, Int.reduceToNat, Nat.reduceAdd, Nat.reduceSub, Nat.reduceMul, Nat.reduceLeDiff, reduceCtorEq, hlt]; refine frz_id ?_; simp only [go_sem, Int.reduceEq, Int.reduceAdd, Int.reduceSub, Int.reduceMul, Nat.reduceLT, Int.reduceLT, Int.reduceLE, Int.reduceToNat, Nat.reduceAdd, Nat.reduceSub, Nat.reduceMul, Nat.reduceLeDiff, reduceCtorEq])
      refine hQ _ _ _ _ _ _ (.inr rfl) rfl (FzH.refl _) (FzL.refl _ _ _) ?_
      simp only [go_sem, Int.reduceEq, Int.reduceAdd, Int.reduceSub, Int.reduceMul, Nat.reduceLT, Int.reduceLT, Int.reduceLE, Int.reduceToNat, Nat.reduceAdd, Nat.reduceSub, Nat.reduceMul, Nat.reduceLeDiff, reduceCtorEq]
      have : (l.take 12).length = 12 := by rw [List.length_take]; omega
      rw [this]; exact g
  · have hkl : k = l.length := by omega
    subst hkl
    (simp only [go_sem, Int.reduceEq, Int.reduceAdd, Int.reduceSub, Int.reduceMul, Nat.reduceLT, Int.reduceLT, Int.reduceLE, Int.reduceToNat, Nat.reduceAdd, Nat.reduceSub, Nat.reduceMul, Nat.reduceLeDiff, reduceCtorEq, hlt]; refine frz_id ?_; simp only [go_sem, Int.reduceEq, Int.reduceAdd, Int.reduceSub, Int.reduceMul, Nat.reduceLT, Int.reduceLT, Int.reduceLE, Int.reduceToNat, Nat.reduceAdd, Nat.reduceSub, Nat.reduceMul, Nat.reduceLeDiff, reduceCtorEq])
    refine hQ _ _ _ _ _ _ (.inr rfl) rfl (FzH.refl _) (FzL.refl _ _ _) ?_
    simp only [go_sem, Int.reduceEq, Int.reduceAdd, Int.reduceSub, Int.reduceMul, Nat.reduceLT, Int.reduceLT, Int.reduceLE, Int.reduceToNat, Nat.reduceAdd, Nat.reduceSub, Nat.reduceMul, Nat.reduceLeDiff, reduceCtorEq]
    rw [List.take_length] at g
    rw [List.take_of_length_le hk2]; exact g

theorem rright_spec (l : List Cd) (ex : Bool) (h : AHeap) (hn : l.length ≤ 4611686018427387904) : PureA Try.prog 40 [.ro (cat encC l) l.length ex] h (.bool (rightL l)) := by
  (refine PureA.enter (ac := c40) (rs := r40) Try.func40 rfl (by decide) c40_ok r40_ok ?_; intro Q hQ; simp only [go_sem, Int.reduceEq, Int.reduceAdd, Int.reduceSub, Int.reduceMul, Nat.reduceLT, Int.reduceLT, Int.reduceLE, Int.reduceToNat, Nat.reduceAdd, Nat.reduceSub, Nat.reduceMul, Nat.reduceLeDiff, reduceCtorEq, c40, Try.ntmps40])
  refine loop_range d40_0 (l.length) (fun k s => s.set 3 (.int .i64 k)) (fun k h' => (rightL (l.take k) = true) ∧ h' = h) ?_ ⟨rfl, rfl⟩ ?_
  · (simp only [go_sem, Int.reduceEq, Int.reduceAdd, Int.reduceSub, Int.reduceMul, Nat.reduceLT, Int.reduceLT, Int.reduceLE, Int.reduceToNat, Nat.reduceAdd, Nat.reduceSub, Nat.reduceMul, Nat.reduceLeDiff, reduceCtorEq, d40_0] <;> rfl)
  rintro N k h' hk ⟨hall, rfl⟩ hN
  simp only [go_sem, Int.reduceEq, Int.reduceAdd, Int.reduceSub, Int.reduceMul, Nat.reduceLT, Int.reduceLT, Int.reduceLE, Int.reduceToNat, Nat.reduceAdd, Nat.reduceSub, Nat.reduceMul, Nat.reduceLeDiff, reduceCtorEq, d40_0]
  have hadd := wadd1 (k := k) (by omega)
  by_cases hlt : k < l.length
  · have htk := List.take_succ_eq_append_getElem hlt
    have ht := rightL_snoc (l.take k) l[k]
    rw [← htk, hall, Bool.true_and] at ht
    have bad : rightL (l.take (k + 1)) = false → rightL l = false := fun e => by
      have := rightL_pre (r := l.drop (k + 1)) e
      rwa [List.take_append_drop] at this
    simp only [go_sem, Int.reduceEq, Int.reduceAdd, Int.reduceSub, Int.reduceMul, Nat.reduceLT, Int.reduceLT, Int.reduceLE, Int.reduceToNat, Nat.reduceAdd, Nat.reduceSub, Nat.reduceMul, Nat.reduceLeDiff, reduceCtorEq, hlt, hadd, rd_all encC_len hlt]
    refine (one_spec l[k] _).use ?_
    cases g : oneB l[k]
    · have hb := bad (by rw [ht, g]; rfl)
      simp only [go_sem, Int.reduceEq, Int.reduceAdd, Int.reduceSub, Int.reduceMul, Nat.reduceLT, Int.reduceLT, Int.reduceLE, Int.reduceToNat, Nat.reduceAdd, Nat.reduceSub, Nat.reduceMul, Nat.reduceLeDiff, reduceCtorEq]
      (refine hQ _ _ _ _ _ (by first | exact .inr rfl | exact .inl rfl) rfl (by first | exact FzH.refl _ | exact FzH.sub (by (repeat' (first | exact Sub.refl _ | assumption | (refine Sub.upd ?_ (by first | assumption | (simp only [*]; done) | exact Sub.isNone (by assumption) (by assumption) | exact Sub.isNone (by assumption) (by simp only [*]))))))) (FzL.refl _ _ _) ?_; try (simp only [go_sem, Int.reduceEq, Int.reduceAdd, Int.reduceSub, Int.reduceMul, Nat.reduceLT, Int.reduceLT, Int.reduceLE, Int.reduceToNat, Nat.reduceAdd, Nat.reduceSub, Nat.reduceMul, Nat.reduceLeDiff, reduceCtorEq, hb]))
    simp only [go_sem, Int.reduceEq, Int.reduceAdd, Int.reduceSub, Int.reduceMul, Nat.reduceLT, Int.reduceLT, Int.reduceLE, Int.reduceToNat, Nat.reduceAdd, Nat.reduceSub, Nat.reduceMul, Nat.reduceLeDiff, reduceCtorEq]
    refine loop_range d40_1 k (fun j s => s.set 4 (.int .i64 j)) (fun j H => H = h' ∧ ((l.take k).take j).any (fun d => decide (d.n = l[k].n)) = false) ?_ ⟨rfl, rfl⟩ ?_
    · (simp only [go_sem, Int.reduceEq, Int.reduceAdd, Int.reduceSub, Int.reduceMul, Nat.reduceLT, Int.reduceLT, Int.reduceLE, Int.reduceToNat, Nat.reduceAdd, Nat.reduceSub, Nat.reduceMul, Nat.reduceLeDiff, reduceCtorEq, d40_1] <;> rfl)
    rintro N2 j H hj ⟨rfl, hany⟩ hN2
    simp only [go_sem, Int.reduceEq, Int.reduceAdd, Int.reduceSub, Int.reduceMul, Nat.reduceLT, Int.reduceLT, Int.reduceLE, Int.reduceToNat, Nat.reduceAdd, Nat.reduceSub, Nat.reduceMul, Nat.reduceLeDiff, reduceCtorEq, d40_1]
    by_cases hjk : j < k
    · have hjl : j < l.length := by omega
      have hjt : j < (l.take k).length := by rw [List.length_take]; omega
      have haddj := wadd1 (k := j) (by omega)
      have r0 := rd_cell (h := H) (off := 0) encC_len hlt (by omega)
      have r1 := rd_cell (h := H) (off := 0) encC_len hjl (by omega)
      simp only [encC, List.drop_zero, List.getElem?_cons_succ, List.getElem?_cons_zero] at r0 r1
      have hta := take_any hjt hany
      have hge : (l.take k)[j] = l[j] := List.getElem_take
      rw [hge] at hta
      simp only [go_sem, Int.reduceEq, Int.reduceAdd, Int.reduceSub, Int.reduceMul, Nat.reduceLT, Int.reduceLT, Int.reduceLE, Int.reduceToNat, Nat.reduceAdd, Nat.reduceSub, Nat.reduceMul, Nat.reduceLeDiff, reduceCtorEq, hjk, hjl, hlt, r0, r1]
      cases g2 : decide (l[j].n = l[k].n)
      · simp only [go_sem, Int.reduceEq, Int.reduceAdd, Int.reduceSub, Int.reduceMul, Nat.reduceLT, Int.reduceLT, Int.reduceLE, Int.reduceToNat, Nat.reduceAdd, Nat.reduceSub, Nat.reduceMul, Nat.reduceLeDiff, reduceCtorEq, haddj]
        refine hN2 _ _ hjk ?_ ⟨rfl, by rw [hta]; exact g2⟩
        simp only [go_sem, Int.reduceEq, Int.reduceAdd, Int.reduceSub, Int.reduceMul, Nat.reduceLT, Int.reduceLT, Int.reduceLE, Int.reduceToNat, Nat.reduceAdd, Nat.reduceSub, Nat.reduceMul, Nat.reduceLeDiff, reduceCtorEq, d40_1]
      · have : (l.take k).any (fun d => decide (d.n = l[k].n)) = true := List.any_eq_true.2 ⟨l[j], by rw [← hge]; exact List.getElem_mem _, g2⟩
        have hb := bad (by rw [ht, g, this]; rfl)
        simp only [go_sem, Int.reduceEq, Int.reduceAdd, Int.reduceSub, Int.reduceMul, Nat.reduceLT, Int.reduceLT, Int.reduceLE, Int.reduceToNat, Nat.reduceAdd, Nat.reduceSub, Nat.reduceMul, Nat.reduceLeDiff, reduceCtorEq]
        (refine hQ _ _ _ _ _ (by first | exact .inr rfl | exact .inl rfl) rfl (by first | exact FzH.refl _ | exact FzH.sub (by (repeat' (first | exact Sub.refl _ | assumption | (refine Sub.upd ?_ (by first | assumption | (simp only [*]; done) | exact Sub.isNone (by assumption) (by assumption) | exact Sub.isNone (by assumption) (by simp only [*]))))))) (FzL.refl _ _ _) ?_; try (simp only [go_sem, Int.reduceEq, Int.reduceAdd, Int.reduceSub, Int.reduceMul, Nat.reduceLT, Int.reduceLT, Int.reduceLE, Int.reduceToNat, Nat.reduceAdd, Nat.reduceSub, Nat.reduceMul, Nat.reduceLeDiff, reduceCtorEq, hb]))
    · have hjk2 : j = k := by omega
      subst hjk2
      simp only [go_sem, Int.reduceEq, Int.reduceAdd, Int.reduceSub, Int.reduceMul, Nat.reduceLT, Int.reduceLT, Int.reduceLE, Int.reduceToNat, Nat.reduceAdd, Nat.reduceSub, Nat.reduceMul, Nat.reduceLeDiff, reduceCtorEq, hjk]
      refine frz_id ?_
      simp only [go_sem, Int.reduceEq, Int.reduceAdd, Int.reduceSub, Int.reduceMul, Nat.reduceLT, Int.reduceLT, Int.reduceLE, Int.reduceToNat, Nat.reduceAdd, Nat.reduceSub, Nat.reduceMul, Nat.reduceLeDiff, reduceCtorEq, hadd]
      refine hN _ _ hlt ?_ ⟨?_, rfl⟩
      · simp only [go_sem, Int.reduceEq, Int.reduceAdd, Int.reduceSub, Int.reduceMul, Nat.reduceLT, Int.reduceLT, Int.reduceLE, Int.reduceToNat, Nat.reduceAdd, Nat.reduceSub, Nat.reduceMul, Nat.reduceLeDiff, reduceCtorEq, d40_0]
      · rw [List.take_of_length_le (by rw [List.length_take]; omega)] at hany
        rw [ht, g, hany]; rfl
  · (simp only [go_sem, Int.reduceEq, Int.reduceAdd, Int.reduceSub, Int.reduceMul, Nat.reduceLT, Int.reduceLT, Int.reduceLE, Int.reduceToNat, Nat.reduceAdd, Nat.reduceSub, Nat.reduceMul, Nat.reduceLeDiff, reduceCtorEq, hlt]; refine frz_id ?_; simp only [go_sem, Int.reduceEq, Int.reduceAdd, Int.reduceSub, Int.reduceMul, Nat.reduceLT, Int.reduceLT, Int.reduceLE, Int.reduceToNat, Nat.reduceAdd, Nat.reduceSub, Nat.reduceMul, Nat.reduceLeDiff, reduceCtorEq])
    refine hQ _ _ _ _ _ (by first | exact .inr rfl | exact .inl rfl) rfl (by first | exact FzH.refl _ | exact FzH.sub (by (repeat' (first | exact Sub.refl _ | assumption | (refine Sub.upd ?_ (by first | assumption | (simp only [*]; done) | exact Sub.isNone (by assumption) (by assumption) | exact Sub.isNone (by assumption) (by simp only [*]))))))) (FzL.refl _ _ _) ?_
    rw [List.take_of_length_le (by omega)] at hall
    rw [hall]; rfl

/-- The own rank, a parent more. -/
def rkStep (f : HF) (by_ : Int) (o : Option Int) (c : Cd) : Option Int := some (match o with
  | none => max (pathN f c) (min (c.r + by_) 65535)
  | some own => max own (min (c.r - c.r % by_ + by_) 65535))
def rkFold (f : HF) (by_ : Int) (l : List Cd) : Option Int := l.foldl (rkStep f by_) none
def rkN (f : HF) (by_ : Int) (l : List Cd) : Int := (rkFold f by_ l).getD 0
theorem rk_snoc (f : HF) (by_ : Int) (l : List Cd) (c : Cd) : rkFold f by_ (l ++ [c]) = rkStep f by_ (rkFold f by_ l) c := by simp [rkFold]
theorem rk_some {f : HF} {by_ : Int} {l : List Cd} (h : l ≠ []) : rkFold f by_ l = some (rkN f by_ l) := by
  rcases List.eq_nil_or_concat l with rfl | ⟨q, x, rfl⟩
  · exact absurd rfl h
  · rw [List.concat_eq_append, rkN, rk_snoc]; rfl
theorem rkN_one (f : HF) (by_ : Int) (c : Cd) : rkN f by_ [c] = max (pathN f c) (min (c.r + by_) 65535) := rfl
theorem rkN_snoc {f : HF} {by_ : Int} {l : List Cd} (h : l ≠ []) (c : Cd) : rkN f by_ (l ++ [c]) = max (rkN f by_ l) (min (c.r - c.r % by_ + by_) 65535) := by
  unfold rkN; rw [rk_snoc, rk_some h]; rfl

theorem hrank_spec (f : HF) (by_ : Int) (l : List Cd) (ex : Bool) (h : AHeap) (hn : l.length ≤ 4611686018427387904) :
    PureA Try.prog 39 [.agg f.av, .int .i64 by_, .ro (cat encC l) l.length ex] h
      (.tup [.int .i64 (if f.good && rightL l && isLeast by_ then (if l = [] then 65535 else rkN f by_ l) else 0), .int .i64 (if f.good && rightL l && isLeast by_ then 0 else 1)]) := by
  (refine PureA.enter (ac := c39) (rs := r39) Try.func39 rfl (by decide) c39_ok r39_ok ?_; intro Q hQ; simp only [go_sem, Int.reduceEq, Int.reduceAdd, Int.reduceSub, Int.reduceMul, Nat.reduceLT, Int.reduceLT, Int.reduceLE, Int.reduceToNat, Nat.reduceAdd, Nat.reduceSub, Nat.reduceMul, Nat.reduceLeDiff, reduceCtorEq, c39, Try.ntmps39, HF.av])
  refine (hcheckl_spec f l ex _ hn).use ?_
  cases g : f.good && rightL l
  · simp only [go_sem, Int.reduceEq, Int.reduceAdd, Int.reduceSub, Int.reduceMul, Nat.reduceLT, Int.reduceLT, Int.reduceLE, Int.reduceToNat, Nat.reduceAdd, Nat.reduceSub, Nat.reduceMul, Nat.reduceLeDiff, reduceCtorEq, show decide ((1 : Int) = 0) = false from rfl]
    (refine hQ _ _ _ _ _ (by first | exact .inr rfl | exact .inl rfl) rfl (by first | exact FzH.refl _ | exact FzH.sub (by (repeat' (first | exact Sub.refl _ | assumption | (refine Sub.upd ?_ (by first | assumption | (simp only [*]; done) | exact Sub.isNone (by assumption) (by assumption) | exact Sub.isNone (by assumption) (by simp only [*]))))))) (FzL.refl _ _ _) ?_; try (simp only [go_sem, Int.reduceEq, Int.reduceAdd, Int.reduceSub, Int.reduceMul, Nat.reduceLT, Int.reduceLT, Int.reduceLE, Int.reduceToNat, Nat.reduceAdd, Nat.reduceSub, Nat.reduceMul, Nat.reduceLeDiff, reduceCtorEq, g, Bool.false_and]))
  obtain ⟨g1, g2⟩ := Bool.and_eq_true_iff.1 g
  simp only [go_sem, Int.reduceEq, Int.reduceAdd, Int.reduceSub, Int.reduceMul, Nat.reduceLT, Int.reduceLT, Int.reduceLE, Int.reduceToNat, Nat.reduceAdd, Nat.reduceSub, Nat.reduceMul, Nat.reduceLeDiff, reduceCtorEq]
  refine (hleast_spec by_ _).use ?_
  cases g3 : isLeast by_
  · simp only [go_sem, Int.reduceEq, Int.reduceAdd, Int.reduceSub, Int.reduceMul, Nat.reduceLT, Int.reduceLT, Int.reduceLE, Int.reduceToNat, Nat.reduceAdd, Nat.reduceSub, Nat.reduceMul, Nat.reduceLeDiff, reduceCtorEq]
    (refine hQ _ _ _ _ _ (by first | exact .inr rfl | exact .inl rfl) rfl (by first | exact FzH.refl _ | exact FzH.sub (by (repeat' (first | exact Sub.refl _ | assumption | (refine Sub.upd ?_ (by first | assumption | (simp only [*]; done) | exact Sub.isNone (by assumption) (by assumption) | exact Sub.isNone (by assumption) (by simp only [*]))))))) (FzL.refl _ _ _) ?_; try (simp only [go_sem, Int.reduceEq, Int.reduceAdd, Int.reduceSub, Int.reduceMul, Nat.reduceLT, Int.reduceLT, Int.reduceLE, Int.reduceToNat, Nat.reduceAdd, Nat.reduceSub, Nat.reduceMul, Nat.reduceLeDiff, reduceCtorEq, g, g3, Bool.and_false]))
  have hb : 1 ≤ by_ ∧ by_ ≤ 65535 := by simpa [isLeast] using g3
  simp only [go_sem, Int.reduceEq, Int.reduceAdd, Int.reduceSub, Int.reduceMul, Nat.reduceLT, Int.reduceLT, Int.reduceLE, Int.reduceToNat, Nat.reduceAdd, Nat.reduceSub, Nat.reduceMul, Nat.reduceLeDiff, reduceCtorEq]
  refine loop_range d39_0 l.length (fun k s => (s.set 9 (.int .i64 (rkN f by_ (l.take k)))).set 27 (.int .i64 k)) (fun k H => H = h) ?_ rfl ?_
  · (simp only [go_sem, Int.reduceEq, Int.reduceAdd, Int.reduceSub, Int.reduceMul, Nat.reduceLT, Int.reduceLT, Int.reduceLE, Int.reduceToNat, Nat.reduceAdd, Nat.reduceSub, Nat.reduceMul, Nat.reduceLeDiff, reduceCtorEq, d39_0] <;> rfl)
  rintro N k H hk rfl hN
  simp only [go_sem, Int.reduceEq, Int.reduceAdd, Int.reduceSub, Int.reduceMul, Nat.reduceLT, Int.reduceLT, Int.reduceLE, Int.reduceToNat, Nat.reduceAdd, Nat.reduceSub, Nat.reduceMul, Nat.reduceLeDiff, reduceCtorEq, d39_0]
  have hadd := wadd1 (k := k) (by omega)
  by_cases hlt : k < l.length
  · have hone : oneB l[k] = true := List.all_eq_true.1 (rightL_one g2) _ (List.getElem_mem hlt)
    have hc := oneB_iff.1 hone
    have htk := List.take_succ_eq_append_getElem hlt
    have oa : ∀ m : Int, 0 ≤ m → m ≤ 65535 → okAdd m by_ = true := fun m h1 h2 => by simp [okAdd, inRank]; omega
    simp only [go_sem, Int.reduceEq, Int.reduceAdd, Int.reduceSub, Int.reduceMul, Nat.reduceLT, Int.reduceLT, Int.reduceLE, Int.reduceToNat, Nat.reduceAdd, Nat.reduceSub, Nat.reduceMul, Nat.reduceLeDiff, reduceCtorEq, hlt, hadd, rd_all encC_len hlt, encC_len, encC_sca]
    intro p hp
    simp only [go_sem, Int.reduceEq, Int.reduceAdd, Int.reduceSub, Int.reduceMul, Nat.reduceLT, Int.reduceLT, Int.reduceLE, Int.reduceToNat, Nat.reduceAdd, Nat.reduceSub, Nat.reduceMul, Nat.reduceLeDiff, reduceCtorEq, del_same, del_none hp, encC_len, rd_all encC_len hlt, encC]
    by_cases hk0 : k = 0
    · subst hk0
      simp only [go_sem, Int.reduceEq, Int.reduceAdd, Int.reduceSub, Int.reduceMul, Nat.reduceLT, Int.reduceLT, Int.reduceLE, Int.reduceToNat, Nat.reduceAdd, Nat.reduceSub, Nat.reduceMul, Nat.reduceLeDiff, reduceCtorEq]
      refine (path_spec f l[0] hone _).use ?_
      simp only [go_sem, Int.reduceEq, Int.reduceAdd, Int.reduceSub, Int.reduceMul, Nat.reduceLT, Int.reduceLT, Int.reduceLE, Int.reduceToNat, Nat.reduceAdd, Nat.reduceSub, Nat.reduceMul, Nat.reduceLeDiff, reduceCtorEq]
      refine (add_spec l[0].r by_ _ _ (by omega)).use ?_
      simp only [go_sem, Int.reduceEq, Int.reduceAdd, Int.reduceSub, Int.reduceMul, Nat.reduceLT, Int.reduceLT, Int.reduceLE, Int.reduceToNat, Nat.reduceAdd, Nat.reduceSub, Nat.reduceMul, Nat.reduceLeDiff, reduceCtorEq, oa l[0].r (by omega) (by omega), if_max, hadd]
      refine hN _ _ hlt ?_ rfl
      simp only [go_sem, Int.reduceEq, Int.reduceAdd, Int.reduceSub, Int.reduceMul, Nat.reduceLT, Int.reduceLT, Int.reduceLE, Int.reduceToNat, Nat.reduceAdd, Nat.reduceSub, Nat.reduceMul, Nat.reduceLeDiff, reduceCtorEq, d39_0, htk, List.take_zero, List.nil_append, rkN_one]
    · have hk0' : decide ((k : Int) = 0) = false := decide_eq_false (by omega)
      have hne : l.take k ≠ [] := fun e => by have := congrArg List.length e; rw [List.length_take, List.length_nil] at this; omega
      have hm := Int.emod_nonneg l[k].r (show by_ ≠ 0 by omega)
      have hm2 := Int.emod_lt_of_pos l[k].r (show 0 < by_ by omega)
      have hm3 : l[k].r % by_ ≤ l[k].r := by
        have := Int.emod_add_mul_ediv l[k].r by_
        have h5 := Int.ediv_nonneg (show 0 ≤ l[k].r by omega) (show 0 ≤ by_ by omega)
        have h6 := Int.mul_nonneg (show 0 ≤ by_ by omega) h5
        omega
      have hz : (by_ == 0) = false := by simp; omega
      have ht : l[k].r.tmod by_ = l[k].r % by_ := Int.tmod_eq_emod_of_nonneg (by omega)
      have hw1 : IntKind.i64.wrap (l[k].r - l[k].r % by_) = l[k].r - l[k].r % by_ := w64 (by omega) (by omega)
      simp only [go_sem, Int.reduceEq, Int.reduceAdd, Int.reduceSub, Int.reduceMul, Nat.reduceLT, Int.reduceLT, Int.reduceLE, Int.reduceToNat, Nat.reduceAdd, Nat.reduceSub, Nat.reduceMul, Nat.reduceLeDiff, reduceCtorEq, hk0', hz, ht, hw1]
      refine (add_spec (l[k].r - l[k].r % by_) by_ _ _ (by omega)).use ?_
      simp only [go_sem, Int.reduceEq, Int.reduceAdd, Int.reduceSub, Int.reduceMul, Nat.reduceLT, Int.reduceLT, Int.reduceLE, Int.reduceToNat, Nat.reduceAdd, Nat.reduceSub, Nat.reduceMul, Nat.reduceLeDiff, reduceCtorEq, oa (l[k].r - l[k].r % by_) (by omega) (by omega), if_max, hadd]
      refine hN _ _ hlt ?_ rfl
      simp only [go_sem, Int.reduceEq, Int.reduceAdd, Int.reduceSub, Int.reduceMul, Nat.reduceLT, Int.reduceLT, Int.reduceLE, Int.reduceToNat, Nat.reduceAdd, Nat.reduceSub, Nat.reduceMul, Nat.reduceLeDiff, reduceCtorEq, d39_0, htk, rkN_snoc hne]
  · have hkl : k = l.length := by omega
    subst hkl
    rw [List.take_length]
    by_cases he : l = []
    · subst he
      simp only [go_sem, Int.reduceEq, Int.reduceAdd, Int.reduceSub, Int.reduceMul, Nat.reduceLT, Int.reduceLT, Int.reduceLE, Int.reduceToNat, Nat.reduceAdd, Nat.reduceSub, Nat.reduceMul, Nat.reduceLeDiff, reduceCtorEq, List.length_nil]
      refine frz_id ?_
      simp only [go_sem, Int.reduceEq, Int.reduceAdd, Int.reduceSub, Int.reduceMul, Nat.reduceLT, Int.reduceLT, Int.reduceLE, Int.reduceToNat, Nat.reduceAdd, Nat.reduceSub, Nat.reduceMul, Nat.reduceLeDiff, reduceCtorEq, List.length_nil]
      (refine hQ _ _ _ _ _ (by first | exact .inr rfl | exact .inl rfl) rfl (by first | exact FzH.refl _ | exact FzH.sub (by (repeat' (first | exact Sub.refl _ | assumption | (refine Sub.upd ?_ (by first | assumption | (simp only [*]; done) | exact Sub.isNone (by assumption) (by assumption) | exact Sub.isNone (by assumption) (by simp only [*]))))))) (FzL.refl _ _ _) ?_; try (simp only [go_sem, Int.reduceEq, Int.reduceAdd, Int.reduceSub, Int.reduceMul, Nat.reduceLT, Int.reduceLT, Int.reduceLE, Int.reduceToNat, Nat.reduceAdd, Nat.reduceSub, Nat.reduceMul, Nat.reduceLeDiff, reduceCtorEq, g, g3]))
    · have hpos := List.length_pos_iff.2 he
      have hz : decide ((l.length : Int) = 0) = false := decide_eq_false (by omega)
      simp only [go_sem, Int.reduceEq, Int.reduceAdd, Int.reduceSub, Int.reduceMul, Nat.reduceLT, Int.reduceLT, Int.reduceLE, Int.reduceToNat, Nat.reduceAdd, Nat.reduceSub, Nat.reduceMul, Nat.reduceLeDiff, reduceCtorEq, hlt]
      refine frz_id ?_
      simp only [go_sem, Int.reduceEq, Int.reduceAdd, Int.reduceSub, Int.reduceMul, Nat.reduceLT, Int.reduceLT, Int.reduceLE, Int.reduceToNat, Nat.reduceAdd, Nat.reduceSub, Nat.reduceMul, Nat.reduceLeDiff, reduceCtorEq, hz]
      (refine hQ _ _ _ _ _ (by first | exact .inr rfl | exact .inl rfl) rfl (by first | exact FzH.refl _ | exact FzH.sub (by (repeat' (first | exact Sub.refl _ | assumption | (refine Sub.upd ?_ (by first | assumption | (simp only [*]; done) | exact Sub.isNone (by assumption) (by assumption) | exact Sub.isNone (by assumption) (by simp only [*]))))))) (FzL.refl _ _ _) ?_; try (simp only [go_sem, Int.reduceEq, Int.reduceAdd, Int.reduceSub, Int.reduceMul, Nat.reduceLT, Int.reduceLT, Int.reduceLE, Int.reduceToNat, Nat.reduceAdd, Nat.reduceSub, Nat.reduceMul, Nat.reduceLeDiff, reduceCtorEq, g, g3, he]))

theorem rrank16_spec (f : HF) (hf : f.good = true) (by_ : Int) (hb : isLeast by_ = true) (l : List Cd) (hr : rightL l = true) (ex : Bool) (h : AHeap) (hn : l.length ≤ 4611686018427387904) :
    PureA Try.prog 42 [.agg f.av, .int .i64 by_, .ro (cat encC l) l.length ex] h (.int .i64 (if l = [] then 65535 else rkN f by_ l)) := by
  have hb : 1 ≤ by_ ∧ by_ ≤ 65535 := by simpa [isLeast] using hb
  (refine PureA.enter (ac := c42) (rs := r42) Try.func42 rfl (by decide) c42_ok r42_ok ?_; intro Q hQ; simp only [go_sem, Int.reduceEq, Int.reduceAdd, Int.reduceSub, Int.reduceMul, Nat.reduceLT, Int.reduceLT, Int.reduceLE, Int.reduceToNat, Nat.reduceAdd, Nat.reduceSub, Nat.reduceMul, Nat.reduceLeDiff, reduceCtorEq, c42, Try.ntmps42, HF.av])
  by_cases he : l = []
  · subst he
    simp only [go_sem, Int.reduceEq, Int.reduceAdd, Int.reduceSub, Int.reduceMul, Nat.reduceLT, Int.reduceLT, Int.reduceLE, Int.reduceToNat, Nat.reduceAdd, Nat.reduceSub, Nat.reduceMul, Nat.reduceLeDiff, reduceCtorEq, List.length_nil]
    (refine hQ _ _ _ _ _ (by first | exact .inr rfl | exact .inl rfl) rfl (by first | exact FzH.refl _ | exact FzH.sub (by (repeat' (first | exact Sub.refl _ | assumption | (refine Sub.upd ?_ (by first | assumption | (simp only [*]; done) | exact Sub.isNone (by assumption) (by assumption) | exact Sub.isNone (by assumption) (by simp only [*]))))))) (FzL.refl _ _ _) ?_; try (simp only [go_sem, Int.reduceEq, Int.reduceAdd, Int.reduceSub, Int.reduceMul, Nat.reduceLT, Int.reduceLT, Int.reduceLE, Int.reduceToNat, Nat.reduceAdd, Nat.reduceSub, Nat.reduceMul, Nat.reduceLeDiff, reduceCtorEq]))
  have hpos := List.length_pos_iff.2 he
  have hpos' : (0 : Int) < (l.length : Int) := by omega
  have hz : decide ((l.length : Int) = 0) = false := decide_eq_false (by omega)
  have ha0 := rd_all (h := h) encC_len hpos
  simp only [Nat.zero_mul, List.drop_zero] at ha0
  have hone0 : oneB l[0] = true := List.all_eq_true.1 (rightL_one hr) _ (List.getElem_mem hpos)
  have hp0 := path_range hf hone0
  simp only [go_sem, Int.reduceEq, Int.reduceAdd, Int.reduceSub, Int.reduceMul, Nat.reduceLT, Int.reduceLT, Int.reduceLE, Int.reduceToNat, Nat.reduceAdd, Nat.reduceSub, Nat.reduceMul, Nat.reduceLeDiff, reduceCtorEq, hz, hpos', ha0]
  refine (rpath_spec f hf l[0] hone0 _).use ?_
  simp only [go_sem, Int.reduceEq, Int.reduceAdd, Int.reduceSub, Int.reduceMul, Nat.reduceLT, Int.reduceLT, Int.reduceLE, Int.reduceToNat, Nat.reduceAdd, Nat.reduceSub, Nat.reduceMul, Nat.reduceLeDiff, reduceCtorEq]
  refine loop_st d42_0 (fun x : Nat × Int => l.length - x.1) (fun x s => (s.set 7 (.int .i64 x.2)).set 8 (.int .i64 (x.1 : Int))) (fun x H => H = h ∧ x.1 ≤ l.length ∧ (0 ≤ x.2 ∧ x.2 ≤ 200000) ∧ (x.1 = 0 → x.2 = pathN f l[0]) ∧ (x.1 ≠ 0 → min x.2 65535 = rkN f by_ (l.take x.1))) (0, pathN f l[0]) ?_ ⟨rfl, Nat.zero_le _, by simp only; omega, fun _ => rfl, fun e => absurd rfl e⟩ ?_
  · (simp only [go_sem, Int.reduceEq, Int.reduceAdd, Int.reduceSub, Int.reduceMul, Nat.reduceLT, Int.reduceLT, Int.reduceLE, Int.reduceToNat, Nat.reduceAdd, Nat.reduceSub, Nat.reduceMul, Nat.reduceLeDiff, reduceCtorEq, d42_0] <;> rfl)
  rintro N ⟨k, o⟩ H ⟨rfl, hk, ho, hI0, hI⟩ hN
  simp only at hk ho hI0 hI
  simp only [go_sem, Int.reduceEq, Int.reduceAdd, Int.reduceSub, Int.reduceMul, Nat.reduceLT, Int.reduceLT, Int.reduceLE, Int.reduceToNat, Nat.reduceAdd, Nat.reduceSub, Nat.reduceMul, Nat.reduceLeDiff, reduceCtorEq, d42_0]
  have hadd := wadd1 (k := k) (by omega)
  by_cases hlt : k < l.length
  · have hone : oneB l[k] = true := List.all_eq_true.1 (rightL_one hr) _ (List.getElem_mem hlt)
    have hc := oneB_iff.1 hone
    have htk := List.take_succ_eq_append_getElem hlt
    have r1 := rd_cell (h := H) (off := 1) encC_len hlt (by omega)
    simp only [encC, List.getElem?_cons_succ, List.getElem?_cons_zero] at r1
    have w1 : IntKind.i64.wrap (l[k].r + by_) = l[k].r + by_ := w64 (by omega) (by omega)
    by_cases hk0 : k = 0
    · subst hk0
      have ho0 := hI0 rfl
      simp only [Nat.zero_mul, List.drop_zero] at r1
      have fin : min (max o (l[0].r + by_)) 65535 = rkN f by_ (l.take 1) := by
        rw [htk, List.take_zero, List.nil_append, rkN_one]; omega
      simp only [go_sem, Int.reduceEq, Int.reduceAdd, Int.reduceSub, Int.reduceMul, Nat.reduceLT, Int.reduceLT, Int.reduceLE, Int.reduceToNat, Nat.reduceAdd, Nat.reduceSub, Nat.reduceMul, Nat.reduceLeDiff, reduceCtorEq, hpos', hlt, r1, w1]
      by_cases hgt : o < l[0].r + by_
      · simp only [go_sem, Int.reduceEq, Int.reduceAdd, Int.reduceSub, Int.reduceMul, Nat.reduceLT, Int.reduceLT, Int.reduceLE, Int.reduceToNat, Nat.reduceAdd, Nat.reduceSub, Nat.reduceMul, Nat.reduceLeDiff, reduceCtorEq, hgt, hadd]
        refine hN (1, l[0].r + by_) _ _ (by simp only; omega) ?_ ⟨rfl, hlt, by simp only; omega, fun e => (by cases e), fun _ => by simp only; rw [← fin]; omega⟩
        simp only [go_sem, Int.reduceEq, Int.reduceAdd, Int.reduceSub, Int.reduceMul, Nat.reduceLT, Int.reduceLT, Int.reduceLE, Int.reduceToNat, Nat.reduceAdd, Nat.reduceSub, Nat.reduceMul, Nat.reduceLeDiff, reduceCtorEq, d42_0]
      · simp only [go_sem, Int.reduceEq, Int.reduceAdd, Int.reduceSub, Int.reduceMul, Nat.reduceLT, Int.reduceLT, Int.reduceLE, Int.reduceToNat, Nat.reduceAdd, Nat.reduceSub, Nat.reduceMul, Nat.reduceLeDiff, reduceCtorEq, hgt, hadd]
        refine hN (1, o) _ _ (by simp only; omega) ?_ ⟨rfl, hlt, by simp only; omega, fun e => (by cases e), fun _ => by simp only; rw [← fin]; omega⟩
        simp only [go_sem, Int.reduceEq, Int.reduceAdd, Int.reduceSub, Int.reduceMul, Nat.reduceLT, Int.reduceLT, Int.reduceLE, Int.reduceToNat, Nat.reduceAdd, Nat.reduceSub, Nat.reduceMul, Nat.reduceLeDiff, reduceCtorEq, d42_0]
    · have hk0' : decide ((0 : Int) < (k : Int)) = true := decide_eq_true (by omega)
      have hne : l.take k ≠ [] := fun e => by have := congrArg List.length e; rw [List.length_take, List.length_nil] at this; omega
      have hm := Int.emod_nonneg l[k].r (show by_ ≠ 0 by omega)
      have hm1 := Int.emod_add_mul_ediv l[k].r by_
      have h5 := Int.ediv_nonneg (show 0 ≤ l[k].r by omega) (show 0 ≤ by_ by omega)
      have h7 := Int.ediv_le_self by_ (show 0 ≤ l[k].r by omega)
      have h6 := Int.mul_nonneg (show 0 ≤ by_ by omega) h5
      have hcm : l[k].r / by_ * by_ = by_ * (l[k].r / by_) := Int.mul_comm _ _
      have hzz : (by_ == 0) = false := by simp; omega
      have hq : IntKind.i64.wrap (l[k].r.tdiv by_) = l[k].r / by_ := by rw [Int.tdiv_eq_ediv_of_nonneg (by omega)]; exact w64 (by omega) (by omega)
      have w2 : IntKind.i64.wrap (l[k].r / by_ * by_) = l[k].r - l[k].r % by_ := by rw [w64 (by omega) (by omega)]; omega
      have w3 : IntKind.i64.wrap (l[k].r - l[k].r % by_ + by_) = l[k].r - l[k].r % by_ + by_ := w64 (by omega) (by omega)
      have hI' := hI hk0
      have fin : min (max o (l[k].r - l[k].r % by_ + by_)) 65535 = rkN f by_ (l.take (k + 1)) := by
        rw [htk, rkN_snoc hne, ← hI']; omega
      simp only [go_sem, Int.reduceEq, Int.reduceAdd, Int.reduceSub, Int.reduceMul, Nat.reduceLT, Int.reduceLT, Int.reduceLE, Int.reduceToNat, Nat.reduceAdd, Nat.reduceSub, Nat.reduceMul, Nat.reduceLeDiff, reduceCtorEq, hlt, r1, w1, hk0', hzz, hq, w2, w3]
      by_cases hgt : o < l[k].r - l[k].r % by_ + by_
      · simp only [go_sem, Int.reduceEq, Int.reduceAdd, Int.reduceSub, Int.reduceMul, Nat.reduceLT, Int.reduceLT, Int.reduceLE, Int.reduceToNat, Nat.reduceAdd, Nat.reduceSub, Nat.reduceMul, Nat.reduceLeDiff, reduceCtorEq, hgt, hadd]
        refine hN (k + 1, l[k].r - l[k].r % by_ + by_) _ _ (by simp only; omega) ?_ ⟨rfl, hlt, by simp only; omega, fun e => (by cases e), fun _ => by simp only; rw [← fin]; omega⟩
        simp only [go_sem, Int.reduceEq, Int.reduceAdd, Int.reduceSub, Int.reduceMul, Nat.reduceLT, Int.reduceLT, Int.reduceLE, Int.reduceToNat, Nat.reduceAdd, Nat.reduceSub, Nat.reduceMul, Nat.reduceLeDiff, reduceCtorEq, d42_0]
      · simp only [go_sem, Int.reduceEq, Int.reduceAdd, Int.reduceSub, Int.reduceMul, Nat.reduceLT, Int.reduceLT, Int.reduceLE, Int.reduceToNat, Nat.reduceAdd, Nat.reduceSub, Nat.reduceMul, Nat.reduceLeDiff, reduceCtorEq, hgt, hadd]
        refine hN (k + 1, o) _ _ (by simp only; omega) ?_ ⟨rfl, hlt, by simp only; omega, fun e => (by cases e), fun _ => by simp only; rw [← fin]; omega⟩
        simp only [go_sem, Int.reduceEq, Int.reduceAdd, Int.reduceSub, Int.reduceMul, Nat.reduceLT, Int.reduceLT, Int.reduceLE, Int.reduceToNat, Nat.reduceAdd, Nat.reduceSub, Nat.reduceMul, Nat.reduceLeDiff, reduceCtorEq, d42_0]
  · have hkl : k = l.length := by omega
    subst hkl
    have hI' := hI (by omega)
    rw [List.take_length] at hI'
    simp only [go_sem, Int.reduceEq, Int.reduceAdd, Int.reduceSub, Int.reduceMul, Nat.reduceLT, Int.reduceLT, Int.reduceLE, Int.reduceToNat, Nat.reduceAdd, Nat.reduceSub, Nat.reduceMul, Nat.reduceLeDiff, reduceCtorEq, hlt]
    refine frz_id ?_
    by_cases hgt : 65535 < o
    · have e : rkN f by_ l = 65535 := by omega
      simp only [go_sem, Int.reduceEq, Int.reduceAdd, Int.reduceSub, Int.reduceMul, Nat.reduceLT, Int.reduceLT, Int.reduceLE, Int.reduceToNat, Nat.reduceAdd, Nat.reduceSub, Nat.reduceMul, Nat.reduceLeDiff, reduceCtorEq, hgt]
      (refine hQ _ _ _ _ _ (by first | exact .inr rfl | exact .inl rfl) rfl (by first | exact FzH.refl _ | exact FzH.sub (by (repeat' (first | exact Sub.refl _ | assumption | (refine Sub.upd ?_ (by first | assumption | (simp only [*]; done) | exact Sub.isNone (by assumption) (by assumption) | exact Sub.isNone (by assumption) (by simp only [*]))))))) (FzL.refl _ _ _) ?_; try (simp only [go_sem, Int.reduceEq, Int.reduceAdd, Int.reduceSub, Int.reduceMul, Nat.reduceLT, Int.reduceLT, Int.reduceLE, Int.reduceToNat, Nat.reduceAdd, Nat.reduceSub, Nat.reduceMul, Nat.reduceLeDiff, reduceCtorEq, he, e]))
    · have e : rkN f by_ l = o := by omega
      simp only [go_sem, Int.reduceEq, Int.reduceAdd, Int.reduceSub, Int.reduceMul, Nat.reduceLT, Int.reduceLT, Int.reduceLE, Int.reduceToNat, Nat.reduceAdd, Nat.reduceSub, Nat.reduceMul, Nat.reduceLeDiff, reduceCtorEq, hgt]
      (refine hQ _ _ _ _ _ (by first | exact .inr rfl | exact .inl rfl) rfl (by first | exact FzH.refl _ | exact FzH.sub (by (repeat' (first | exact Sub.refl _ | assumption | (refine Sub.upd ?_ (by first | assumption | (simp only [*]; done) | exact Sub.isNone (by assumption) (by assumption) | exact Sub.isNone (by assumption) (by simp only [*]))))))) (FzL.refl _ _ _) ?_; try (simp only [go_sem, Int.reduceEq, Int.reduceAdd, Int.reduceSub, Int.reduceMul, Nat.reduceLT, Int.reduceLT, Int.reduceLE, Int.reduceToNat, Nat.reduceAdd, Nat.reduceSub, Nat.reduceMul, Nat.reduceLeDiff, reduceCtorEq, he, e]))

theorem take12 (l : List Cd) : l.take (l.take 12).length = l.take 12 := by
  rw [List.length_take]
  rcases Nat.le_total 12 l.length with h | h
  · rw [Nat.min_eq_left h]
  · rw [Nat.min_eq_right h, List.take_of_length_le (Nat.le_refl _), List.take_of_length_le h]

theorem hranks_spec (f : HF) (by_ : Int) (l : List Cd) (h : AHeap) (hn : l.length ≤ 9223372036854775807) : PureA Try.prog 8 [.agg f.av, .int .i64 by_, .ro (cat encC l) l.length false] h (.bool true) := by
  have h12 : (l.take 12).length ≤ 12 := by rw [List.length_take]; omega
  have hle : (l.take 12).length ≤ l.length := by rw [List.length_take]; omega
  (refine PureA.enter (ac := c8) (rs := r8) Try.func8 rfl (by decide) c8_ok r8_ok ?_; intro Q hQ; simp only [go_sem, Int.reduceEq, Int.reduceAdd, Int.reduceSub, Int.reduceMul, Nat.reduceLT, Int.reduceLT, Int.reduceLE, Int.reduceToNat, Nat.reduceAdd, Nat.reduceSub, Nat.reduceMul, Nat.reduceLeDiff, reduceCtorEq, c8, Try.ntmps8, HF.av])
  refine (to15_spec l false _ hn).use ?_
  simp only [go_sem, Int.reduceEq, Int.reduceAdd, Int.reduceSub, Int.reduceMul, Nat.reduceLT, Int.reduceLT, Int.reduceLE, Int.reduceToNat, Nat.reduceAdd, Nat.reduceSub, Nat.reduceMul, Nat.reduceLeDiff, reduceCtorEq, sl_hi encC_len hle, take12]
  refine (hto_spec f _).use ?_
  simp only [go_sem, Int.reduceEq, Int.reduceAdd, Int.reduceSub, Int.reduceMul, Nat.reduceLT, Int.reduceLT, Int.reduceLE, Int.reduceToNat, Nat.reduceAdd, Nat.reduceSub, Nat.reduceMul, Nat.reduceLeDiff, reduceCtorEq]
  refine (hrank_spec f by_ (l.take 12) _ _ (by omega)).use ?_
  simp only [go_sem, Int.reduceEq, Int.reduceAdd, Int.reduceSub, Int.reduceMul, Nat.reduceLT, Int.reduceLT, Int.reduceLE, Int.reduceToNat, Nat.reduceAdd, Nat.reduceSub, Nat.reduceMul, Nat.reduceLeDiff, reduceCtorEq]
  refine (hgood_spec f _).use ?_
  cases g : f.good
  · simp only [go_sem, Int.reduceEq, Int.reduceAdd, Int.reduceSub, Int.reduceMul, Nat.reduceLT, Int.reduceLT, Int.reduceLE, Int.reduceToNat, Nat.reduceAdd, Nat.reduceSub, Nat.reduceMul, Nat.reduceLeDiff, reduceCtorEq, Bool.false_and]
    refine (known16_spec _).use ?_
    simp only [go_sem, Int.reduceEq, Int.reduceAdd, Int.reduceSub, Int.reduceMul, Nat.reduceLT, Int.reduceLT, Int.reduceLE, Int.reduceToNat, Nat.reduceAdd, Nat.reduceSub, Nat.reduceMul, Nat.reduceLeDiff, reduceCtorEq]
    (refine hQ _ _ _ _ _ (by first | exact .inr rfl | exact .inl rfl) rfl (by first | exact FzH.refl _ | exact FzH.sub (by (repeat' (first | exact Sub.refl _ | assumption | (refine Sub.upd ?_ (by first | assumption | (simp only [*]; done) | exact Sub.isNone (by assumption) (by assumption) | exact Sub.isNone (by assumption) (by simp only [*]))))))) (FzL.refl _ _ _) ?_; try (simp only [go_sem, Int.reduceEq, Int.reduceAdd, Int.reduceSub, Int.reduceMul, Nat.reduceLT, Int.reduceLT, Int.reduceLE, Int.reduceToNat, Nat.reduceAdd, Nat.reduceSub, Nat.reduceMul, Nat.reduceLeDiff, reduceCtorEq]))
  simp only [go_sem, Int.reduceEq, Int.reduceAdd, Int.reduceSub, Int.reduceMul, Nat.reduceLT, Int.reduceLT, Int.reduceLE, Int.reduceToNat, Nat.reduceAdd, Nat.reduceSub, Nat.reduceMul, Nat.reduceLeDiff, reduceCtorEq, Bool.true_and]
  refine (rright_spec (l.take 12) _ _ (by omega)).use ?_
  cases g2 : rightL (l.take 12)
  · simp only [go_sem, Int.reduceEq, Int.reduceAdd, Int.reduceSub, Int.reduceMul, Nat.reduceLT, Int.reduceLT, Int.reduceLE, Int.reduceToNat, Nat.reduceAdd, Nat.reduceSub, Nat.reduceMul, Nat.reduceLeDiff, reduceCtorEq, Bool.false_and]
    refine (known16_spec _).use ?_
    simp only [go_sem, Int.reduceEq, Int.reduceAdd, Int.reduceSub, Int.reduceMul, Nat.reduceLT, Int.reduceLT, Int.reduceLE, Int.reduceToNat, Nat.reduceAdd, Nat.reduceSub, Nat.reduceMul, Nat.reduceLeDiff, reduceCtorEq]
    (refine hQ _ _ _ _ _ (by first | exact .inr rfl | exact .inl rfl) rfl (by first | exact FzH.refl _ | exact FzH.sub (by (repeat' (first | exact Sub.refl _ | assumption | (refine Sub.upd ?_ (by first | assumption | (simp only [*]; done) | exact Sub.isNone (by assumption) (by assumption) | exact Sub.isNone (by assumption) (by simp only [*]))))))) (FzL.refl _ _ _) ?_; try (simp only [go_sem, Int.reduceEq, Int.reduceAdd, Int.reduceSub, Int.reduceMul, Nat.reduceLT, Int.reduceLT, Int.reduceLE, Int.reduceToNat, Nat.reduceAdd, Nat.reduceSub, Nat.reduceMul, Nat.reduceLeDiff, reduceCtorEq]))
  simp only [go_sem, Int.reduceEq, Int.reduceAdd, Int.reduceSub, Int.reduceMul, Nat.reduceLT, Int.reduceLT, Int.reduceLE, Int.reduceToNat, Nat.reduceAdd, Nat.reduceSub, Nat.reduceMul, Nat.reduceLeDiff, reduceCtorEq, Bool.true_and]
  refine (rleast_spec by_ _).use ?_
  cases g3 : isLeast by_
  · simp only [go_sem, Int.reduceEq, Int.reduceAdd, Int.reduceSub, Int.reduceMul, Nat.reduceLT, Int.reduceLT, Int.reduceLE, Int.reduceToNat, Nat.reduceAdd, Nat.reduceSub, Nat.reduceMul, Nat.reduceLeDiff, reduceCtorEq]
    refine (known16_spec _).use ?_
    simp only [go_sem, Int.reduceEq, Int.reduceAdd, Int.reduceSub, Int.reduceMul, Nat.reduceLT, Int.reduceLT, Int.reduceLE, Int.reduceToNat, Nat.reduceAdd, Nat.reduceSub, Nat.reduceMul, Nat.reduceLeDiff, reduceCtorEq]
    (refine hQ _ _ _ _ _ (by first | exact .inr rfl | exact .inl rfl) rfl (by first | exact FzH.refl _ | exact FzH.sub (by (repeat' (first | exact Sub.refl _ | assumption | (refine Sub.upd ?_ (by first | assumption | (simp only [*]; done) | exact Sub.isNone (by assumption) (by assumption) | exact Sub.isNone (by assumption) (by simp only [*]))))))) (FzL.refl _ _ _) ?_; try (simp only [go_sem, Int.reduceEq, Int.reduceAdd, Int.reduceSub, Int.reduceMul, Nat.reduceLT, Int.reduceLT, Int.reduceLE, Int.reduceToNat, Nat.reduceAdd, Nat.reduceSub, Nat.reduceMul, Nat.reduceLeDiff, reduceCtorEq]))
  simp only [go_sem, Int.reduceEq, Int.reduceAdd, Int.reduceSub, Int.reduceMul, Nat.reduceLT, Int.reduceLT, Int.reduceLE, Int.reduceToNat, Nat.reduceAdd, Nat.reduceSub, Nat.reduceMul, Nat.reduceLeDiff, reduceCtorEq]
  refine (known16_spec _).use ?_
  simp only [go_sem, Int.reduceEq, Int.reduceAdd, Int.reduceSub, Int.reduceMul, Nat.reduceLT, Int.reduceLT, Int.reduceLE, Int.reduceToNat, Nat.reduceAdd, Nat.reduceSub, Nat.reduceMul, Nat.reduceLeDiff, reduceCtorEq]
  refine (rrank16_spec f g by_ g3 (l.take 12) g2 _ _ (by omega)).use ?_
  simp only [go_sem, Int.reduceEq, Int.reduceAdd, Int.reduceSub, Int.reduceMul, Nat.reduceLT, Int.reduceLT, Int.reduceLE, Int.reduceToNat, Nat.reduceAdd, Nat.reduceSub, Nat.reduceMul, Nat.reduceLeDiff, reduceCtorEq]
  (refine hQ _ _ _ _ _ (by first | exact .inr rfl | exact .inl rfl) rfl (by first | exact FzH.refl _ | exact FzH.sub (by (repeat' (first | exact Sub.refl _ | assumption | (refine Sub.upd ?_ (by first | assumption | (simp only [*]; done) | exact Sub.isNone (by assumption) (by assumption) | exact Sub.isNone (by assumption) (by simp only [*]))))))) (FzL.refl _ _ _) ?_; try (simp only [go_sem, Int.reduceEq, Int.reduceAdd, Int.reduceSub, Int.reduceMul, Nat.reduceLT, Int.reduceLT, Int.reduceLE, Int.reduceToNat, Nat.reduceAdd, Nat.reduceSub, Nat.reduceMul, Nat.reduceLeDiff, reduceCtorEq]))

theorem cds_sh {els : List (List AV)} (h : ∀ el ∈ els, el.length = Try.prog.cellsOf 67 ∧ ShFs (ShC Try.prog 4) Try.prog.cellsOf ((match Try.prog.underlying 67 with | some (.struct fs) => fs | _ => #[]).toList) el) :
    ∃ l : List Cd, els.flatten = cat encC l ∧ els.length = l.length ∧ ∀ c ∈ l, (-9223372036854775808 ≤ c.n ∧ c.n ≤ 9223372036854775807) ∧ (-9223372036854775808 ≤ c.r ∧ c.r ≤ 9223372036854775807) ∧ (-9223372036854775808 ≤ c.k ∧ c.k ≤ 9223372036854775807) := by
  refine sh_list (enc := encC) (R := fun c => (-9223372036854775808 ≤ c.n ∧ c.n ≤ 9223372036854775807) ∧ (-9223372036854775808 ≤ c.r ∧ c.r ≤ 9223372036854775807) ∧ (-9223372036854775808 ≤ c.k ∧ c.k ≤ 9223372036854775807)) fun el hel => ?_
  obtain ⟨_, h2⟩ := h el hel
  simp only [Try.underlying67, Try.underlying3, ShC, ShFs] at h2
  obtain ⟨_, _, rfl, _, ⟨n, rfl, h1⟩, _, _, rfl, _, ⟨r, rfl, h2⟩, _, _, rfl, _, ⟨k, rfl, h3⟩, rfl⟩ := h2
  exact ⟨⟨n, r, k⟩, rfl, wf_i64 h1, wf_i64 h2, wf_i64 h3⟩

theorem hranks_law (xs : List AV) (h : ArgsSh Try.prog 6 Try.f8.params.toList xs) : PureA Try.prog 8 xs emp (.bool true) := by
  rw [Try.params8] at h
  simp only [ArgsSh, ArgSh, Try.underlying26, Try.underlying77, Try.underlying3] at h
  obtain ⟨x, _, rfl, hx, y, _, rfl, hy, z, _, rfl, hz, rfl⟩ := h
  rw [ShC] at hz
  simp only [Try.underlying77] at hz
  simp only [Try.underlying26, Try.underlying3, ShC, ShFs] at hx hy
  obtain ⟨_, rfl, _, _, rfl, _, ⟨a, rfl, _⟩, _, _, rfl, _, ⟨b, rfl, _⟩, _, _, rfl, _, ⟨c, rfl, _⟩, _, _, rfl, _, ⟨d, rfl, _⟩, rfl⟩ := hx
  obtain ⟨m, hm, _⟩ := hy
  cases hm
  obtain ⟨els, e, hl, hels⟩ := hz
  cases e
  obtain ⟨l, e1, e2, e3⟩ := cds_sh (els := els) fun el hel => ⟨(hels el hel).1, by
    have := (hels el hel).2
    rw [ShC] at this
    simp only [Try.underlying67] at this ⊢
    exact this⟩
  rw [e1, e2]
  exact hranks_spec ⟨a, b, c, d⟩ m l emp (by have := maxLen_le; omega)

end Go.Proofs.Ytaeppifdbcoipaa
