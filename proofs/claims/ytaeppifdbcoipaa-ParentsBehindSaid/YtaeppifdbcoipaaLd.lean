/-
  HystBehind on abstract values.
-/
import Derived.Test.YtaeppifdbcoipaaLc
namespace Go.Proofs.Ytaeppifdbcoipaa
open Go E
set_option linter.unusedVariables false
set_option linter.unusedSimpArgs false
set_option linter.unusedSectionVars false
set_option maxRecDepth 100000

def allStep (f : HF) (by_ own : Int) (first : Cd) (q : List Cd) (o : Off) : List Cd := if o.c.n ≠ first.n ∧ isBehind o.c.r own by_ = true ∧ (q.length : Int) < f.pa then q ++ [o.c] else q
def ownR (f : HF) (by_ : Int) (c : Cd) : Int := max (pathN f c) (min (c.r + by_) 65535)
def allF (f : HF) (by_ : Int) (first : Cd) (l : List Off) : List Cd := l.foldl (allStep f by_ (ownR f by_ first) first) [first]
theorem allF_snoc (f : HF) (by_ : Int) (first : Cd) (l : List Off) (o : Off) : allF f by_ first (l ++ [o]) = allStep f by_ (ownR f by_ first) first (allF f by_ first l) o := by simp [allF]
theorem allF_len (f : HF) (by_ : Int) (first : Cd) (l : List Off) : (allF f by_ first l).length ≤ l.length + 1 := by
  induction l using snoc_ind with
  | h0 => simp [allF]
  | h1 l o ih =>
    rw [allF_snoc]; unfold allStep
    split <;> simp <;> omega

def allL (f : HF) (by_ now : Int) (l : List Cd) : List Cd := allF f by_ (bestN f now l).c (isort shC (waysL f l))
def resL (f : HF) (by_ now : Int) (l : List Cd) : List Cd := if f.good && rightL l && isLeast by_ then (if waysL f l = [] then [] else allL f by_ now l) else []

theorem hall_spec (f : HF) (by_ now : Int) (l : List Cd) (ex : Bool) (h : AHeap) (hn : l.length ≤ 12) :
    PureA Try.prog 56 [.agg f.av, .int .i64 by_, .int .i64 now, .ro (cat encC l) l.length ex] h
      (.tup [.ro (cat encC (resL f by_ now l)) (resL f by_ now l).length false, .int .i64 (if f.good && rightL l && isLeast by_ then (if waysL f l = [] then 8 else 0) else 1)]) := by
  refine Grow.pure2 (esz := 3) ?_
  (refine CallsA.enterR (ac := c56) (rs := r56) Try.func56 rfl (by decide) c56_ok r56_ok ?_; intro Q hQ; simp only [go_sem, w64, Int.cast_ofNat_Int, Int.reduceEq, Int.reduceAdd, Int.reduceSub, Int.reduceMul, Int.natCast_zero, Int.natCast_inj, Int.ofNat_lt, Int.ofNat_le, Int.natCast_nonneg, Int.toNat_natCast, Nat.mul_one, Nat.reduceLT, Int.reduceLT, Int.reduceLE, Int.reduceToNat, Nat.reduceAdd, Nat.reduceSub, Nat.reduceMul, Nat.reduceLeDiff, decide_true, decide_false, Bool.not_true, Bool.not_false, Bool.false_eq_true, if_true, if_false, true_and, and_true, and_self, reduceCtorEq, Bool.and_true, Bool.true_and, Bool.and_self, upd_upd, c56, Try.ntmps56, HF.av])
  refine (hcheckl_spec f l ex _ (by omega)).use ?_
  have bad : (f.good && rightL l && isLeast by_) = false → ∃ v, AV.tup [.nils, .int .i64 1] = .tup [v, .int .i64 (if f.good && rightL l && isLeast by_ then (if waysL f l = [] then 8 else 0) else 1)] ∧ Grow h 3 v (cat encC (resL f by_ now l)) (resL f by_ now l).length h := fun e => by
    refine ⟨.nils, by rw [e]; rfl, ?_⟩
    have : resL f by_ now l = [] := by unfold resL; rw [e]; rfl
    rw [this]; exact Grow.nil
  cases g : f.good && rightL l
  · simp only [go_sem, w64, Int.cast_ofNat_Int, Int.reduceEq, Int.reduceAdd, Int.reduceSub, Int.reduceMul, Int.natCast_zero, Int.natCast_inj, Int.ofNat_lt, Int.ofNat_le, Int.natCast_nonneg, Int.toNat_natCast, Nat.mul_one, Nat.reduceLT, Int.reduceLT, Int.reduceLE, Int.reduceToNat, Nat.reduceAdd, Nat.reduceSub, Nat.reduceMul, Nat.reduceLeDiff, decide_true, decide_false, Bool.not_true, Bool.not_false, Bool.false_eq_true, if_true, if_false, true_and, and_true, and_self, reduceCtorEq, Bool.and_true, Bool.true_and, Bool.and_self, upd_upd, show decide ((1 : Int) = 0) = false from rfl]
    refine hQ _ _ _ _ _ _ (.inr rfl) rfl (FzH.refl _) (FzL.refl _ _ _) (bad (by rw [g]; rfl))
  obtain ⟨g1, g2⟩ := Bool.and_eq_true_iff.1 g
  simp only [go_sem, w64, Int.cast_ofNat_Int, Int.reduceEq, Int.reduceAdd, Int.reduceSub, Int.reduceMul, Int.natCast_zero, Int.natCast_inj, Int.ofNat_lt, Int.ofNat_le, Int.natCast_nonneg, Int.toNat_natCast, Nat.mul_one, Nat.reduceLT, Int.reduceLT, Int.reduceLE, Int.reduceToNat, Nat.reduceAdd, Nat.reduceSub, Nat.reduceMul, Nat.reduceLeDiff, decide_true, decide_false, Bool.not_true, Bool.not_false, Bool.false_eq_true, if_true, if_false, true_and, and_true, and_self, reduceCtorEq, Bool.and_true, Bool.true_and, Bool.and_self, upd_upd]
  refine (hleast_spec by_ _).use ?_
  cases g3 : isLeast by_
  · simp only [go_sem, w64, Int.cast_ofNat_Int, Int.reduceEq, Int.reduceAdd, Int.reduceSub, Int.reduceMul, Int.natCast_zero, Int.natCast_inj, Int.ofNat_lt, Int.ofNat_le, Int.natCast_nonneg, Int.toNat_natCast, Nat.mul_one, Nat.reduceLT, Int.reduceLT, Int.reduceLE, Int.reduceToNat, Nat.reduceAdd, Nat.reduceSub, Nat.reduceMul, Nat.reduceLeDiff, decide_true, decide_false, Bool.not_true, Bool.not_false, Bool.false_eq_true, if_true, if_false, true_and, and_true, and_self, reduceCtorEq, Bool.and_true, Bool.true_and, Bool.and_self, upd_upd]
    refine hQ _ _ _ _ _ _ (.inr rfl) rfl (FzH.refl _) (FzL.refl _ _ _) (bad (by rw [g, g3]; rfl))
  have hb : 1 ≤ by_ ∧ by_ ≤ 65535 := by simpa [isLeast] using g3
  simp only [go_sem, w64, Int.cast_ofNat_Int, Int.reduceEq, Int.reduceAdd, Int.reduceSub, Int.reduceMul, Int.natCast_zero, Int.natCast_inj, Int.ofNat_lt, Int.ofNat_le, Int.natCast_nonneg, Int.toNat_natCast, Nat.mul_one, Nat.reduceLT, Int.reduceLT, Int.reduceLE, Int.reduceToNat, Nat.reduceAdd, Nat.reduceSub, Nat.reduceMul, Nat.reduceLeDiff, decide_true, decide_false, Bool.not_true, Bool.not_false, Bool.false_eq_true, if_true, if_false, true_and, and_true, and_self, reduceCtorEq, Bool.and_true, Bool.true_and, Bool.and_self, upd_upd]
  refine (ways_spec f l ex _ (rightL_one g2) hn).use ?_
  have hl := isort_len (c := shC) (waysL f l)
  by_cases he : waysL f l = []
  · simp only [go_sem, w64, Int.cast_ofNat_Int, Int.reduceEq, Int.reduceAdd, Int.reduceSub, Int.reduceMul, Int.natCast_zero, Int.natCast_inj, Int.ofNat_lt, Int.ofNat_le, Int.natCast_nonneg, Int.toNat_natCast, Nat.mul_one, Nat.reduceLT, Int.reduceLT, Int.reduceLE, Int.reduceToNat, Nat.reduceAdd, Nat.reduceSub, Nat.reduceMul, Nat.reduceLeDiff, decide_true, decide_false, Bool.not_true, Bool.not_false, Bool.false_eq_true, if_true, if_false, true_and, and_true, and_self, reduceCtorEq, Bool.and_true, Bool.true_and, Bool.and_self, upd_upd, he, List.length_nil, isort_nil]
    refine hQ _ _ _ _ _ _ (.inr rfl) rfl (FzH.refl _) (FzL.refl _ _ _) ⟨.nils, by rw [g, g3, if_pos he]; rfl, ?_⟩
    have : resL f by_ now l = [] := by unfold resL; rw [g, g3, if_pos he]; rfl
    rw [this]; exact Grow.nil
  have hres : resL f by_ now l = allL f by_ now l := by unfold resL; rw [g, g3, if_neg he]; rfl
  rw [hres, g, g3, if_neg he] at hQ
  have hpos := List.length_pos_iff.2 he
  have hz : decide (((waysL f l).length : Int) = 0) = false := decide_eq_false (by omega)
  have hwl := waysL_len f l
  have hs := sw_ne g1 g2 he
  have hc := choose_lt (f := f) (now := now) hs
  have hbm := bestN_mem (now := now) g1 g2 he
  obtain ⟨hb1, hb2, hb3⟩ := mem_ways (mem_isort.1 hbm)
  have hbo := List.all_eq_true.1 (rightL_one g2) _ hb1
  have hbn : (isort shC (waysL f l))[chooseN f now (isort shC (waysL f l))] = bestN f now l := by unfold bestN; rw [offAt_get hc]
  simp only [go_sem, w64, Int.cast_ofNat_Int, Int.reduceEq, Int.reduceAdd, Int.reduceSub, Int.reduceMul, Int.natCast_zero, Int.natCast_inj, Int.ofNat_lt, Int.ofNat_le, Int.natCast_nonneg, Int.toNat_natCast, Nat.mul_one, Nat.reduceLT, Int.reduceLT, Int.reduceLE, Int.reduceToNat, Nat.reduceAdd, Nat.reduceSub, Nat.reduceMul, Nat.reduceLeDiff, decide_true, decide_false, Bool.not_true, Bool.not_false, Bool.false_eq_true, if_true, if_false, true_and, and_true, and_self, reduceCtorEq, Bool.and_true, Bool.true_and, Bool.and_self, upd_upd, hz]
  rw [← hl]
  refine (hchoose_spec f g1 now (isort shC (waysL f l)) false _ (sways_range g1 g2) (by omega)).use ?_
  have ra := rd_all (h := h) encO_len hc
  rw [hbn] at ra
  simp only [go_sem, w64, Int.cast_ofNat_Int, Int.reduceEq, Int.reduceAdd, Int.reduceSub, Int.reduceMul, Int.natCast_zero, Int.natCast_inj, Int.ofNat_lt, Int.ofNat_le, Int.natCast_nonneg, Int.toNat_natCast, Nat.mul_one, Nat.reduceLT, Int.reduceLT, Int.reduceLE, Int.reduceToNat, Nat.reduceAdd, Nat.reduceSub, Nat.reduceMul, Nat.reduceLeDiff, decide_true, decide_false, Bool.not_true, Bool.not_false, Bool.false_eq_true, if_true, if_false, true_and, and_true, and_self, reduceCtorEq, Bool.and_true, Bool.true_and, Bool.and_self, upd_upd, hc, ra, encO_len, encO_sca]
  intro p hp
  simp only [go_sem, w64, Int.cast_ofNat_Int, Int.reduceEq, Int.reduceAdd, Int.reduceSub, Int.reduceMul, Int.natCast_zero, Int.natCast_inj, Int.ofNat_lt, Int.ofNat_le, Int.natCast_nonneg, Int.toNat_natCast, Nat.mul_one, Nat.reduceLT, Int.reduceLT, Int.reduceLE, Int.reduceToNat, Nat.reduceAdd, Nat.reduceSub, Nat.reduceMul, Nat.reduceLeDiff, decide_true, decide_false, Bool.not_true, Bool.not_false, Bool.false_eq_true, if_true, if_false, true_and, and_true, and_self, reduceCtorEq, Bool.and_true, Bool.true_and, Bool.and_self, upd_upd, del_same, del_none hp, encO]
  refine (hrank_spec f by_ [(bestN f now l).c] _ _ (by simp)).use ?_
  have hr1 : rightL [(bestN f now l).c] = true := by simp [rightL, hbo]
  have hown : rkN f by_ [(bestN f now l).c] = ownR f by_ (bestN f now l).c := rfl
  simp only [go_sem, w64, Int.cast_ofNat_Int, Int.reduceEq, Int.reduceAdd, Int.reduceSub, Int.reduceMul, Int.natCast_zero, Int.natCast_inj, Int.ofNat_lt, Int.ofNat_le, Int.natCast_nonneg, Int.toNat_natCast, Nat.mul_one, Nat.reduceLT, Int.reduceLT, Int.reduceLE, Int.reduceToNat, Nat.reduceAdd, Nat.reduceSub, Nat.reduceMul, Nat.reduceLeDiff, decide_true, decide_false, Bool.not_true, Bool.not_false, Bool.false_eq_true, if_true, if_false, true_and, and_true, and_self, reduceCtorEq, Bool.and_true, Bool.true_and, Bool.and_self, upd_upd, g1, hr1, g3, hown, show ([(bestN f now l).c] = []) = False from by simp]
  generalize hS : isort shC (waysL f l) = S at *
  generalize hB : (bestN f now l).c = B at *
  have hL : allL f by_ now l = allF f by_ B S := by unfold allL; rw [hS, hB]
  rw [hL] at hQ
  refine loop_st d56_0 (fun x : Nat × AV => S.length - x.1) (fun x s => (s.set 15 x.2).set 60 (.int .i64 (x.1 : Int))) (fun x H => x.1 ≤ S.length ∧ Grow h 3 x.2 (cat encC (allF f by_ B (S.take x.1))) (allF f by_ B (S.take x.1)).length H) (0, .ro (encC B) 1 true) ?_ ⟨Nat.zero_le _, Grow.lit rfl rfl⟩ ?_
  · (simp only [go_sem, w64, Int.cast_ofNat_Int, Int.reduceEq, Int.reduceAdd, Int.reduceSub, Int.reduceMul, Int.natCast_zero, Int.natCast_inj, Int.ofNat_lt, Int.ofNat_le, Int.natCast_nonneg, Int.toNat_natCast, Nat.mul_one, Nat.reduceLT, Int.reduceLT, Int.reduceLE, Int.reduceToNat, Nat.reduceAdd, Nat.reduceSub, Nat.reduceMul, Nat.reduceLeDiff, decide_true, decide_false, Bool.not_true, Bool.not_false, Bool.false_eq_true, if_true, if_false, true_and, and_true, and_self, reduceCtorEq, Bool.and_true, Bool.true_and, Bool.and_self, upd_upd, d56_0] <;> rfl)
  rintro N ⟨k, v⟩ H ⟨hk, gr⟩ hN
  simp only at hk gr
  simp only [go_sem, w64, Int.cast_ofNat_Int, Int.reduceEq, Int.reduceAdd, Int.reduceSub, Int.reduceMul, Int.natCast_zero, Int.natCast_inj, Int.ofNat_lt, Int.ofNat_le, Int.natCast_nonneg, Int.toNat_natCast, Nat.mul_one, Nat.reduceLT, Int.reduceLT, Int.reduceLE, Int.reduceToNat, Nat.reduceAdd, Nat.reduceSub, Nat.reduceMul, Nat.reduceLeDiff, decide_true, decide_false, Bool.not_true, Bool.not_false, Bool.false_eq_true, if_true, if_false, true_and, and_true, and_self, reduceCtorEq, Bool.and_true, Bool.true_and, Bool.and_self, upd_upd, d56_0]
  have hadd := wadd1 (k := k) (by omega)
  by_cases hlt : k < S.length
  · have hsn := allF_snoc f by_ B (S.take k) S[k]
    rw [← List.take_succ_eq_append_getElem hlt] at hsn
    have hal := allF_len f by_ B (S.take k)
    rw [List.length_take] at hal
    have rk := rd_all (h := H) encO_len hlt
    simp only [go_sem, w64, Int.cast_ofNat_Int, Int.reduceEq, Int.reduceAdd, Int.reduceSub, Int.reduceMul, Int.natCast_zero, Int.natCast_inj, Int.ofNat_lt, Int.ofNat_le, Int.natCast_nonneg, Int.toNat_natCast, Nat.mul_one, Nat.reduceLT, Int.reduceLT, Int.reduceLE, Int.reduceToNat, Nat.reduceAdd, Nat.reduceSub, Nat.reduceMul, Nat.reduceLeDiff, decide_true, decide_false, Bool.not_true, Bool.not_false, Bool.false_eq_true, if_true, if_false, true_and, and_true, and_self, reduceCtorEq, Bool.and_true, Bool.true_and, Bool.and_self, upd_upd, hlt, hadd, rk, encO_len, encO_sca]
    intro q hq
    simp only [go_sem, w64, Int.cast_ofNat_Int, Int.reduceEq, Int.reduceAdd, Int.reduceSub, Int.reduceMul, Int.natCast_zero, Int.natCast_inj, Int.ofNat_lt, Int.ofNat_le, Int.natCast_nonneg, Int.toNat_natCast, Nat.mul_one, Nat.reduceLT, Int.reduceLT, Int.reduceLE, Int.reduceToNat, Nat.reduceAdd, Nat.reduceSub, Nat.reduceMul, Nat.reduceLeDiff, decide_true, decide_false, Bool.not_true, Bool.not_false, Bool.false_eq_true, if_true, if_false, true_and, and_true, and_self, reduceCtorEq, Bool.and_true, Bool.true_and, Bool.and_self, upd_upd, del_same, del_none hq, rk, encO]
    refine (behind_spec S[k].c.r (ownR f by_ B) by_ _).use ?_
    have hlen := gr.len
    have stay : ¬ (S[k].c.n ≠ B.n ∧ isBehind S[k].c.r (ownR f by_ B) by_ = true ∧ ((allF f by_ B (S.take k)).length : Int) < f.pa) → allF f by_ B (S.take (k + 1)) = allF f by_ B (S.take k) := fun e => by rw [hsn]; unfold allStep; rw [if_neg e]
    cases e1 : decide (S[k].c.n = B.n)
    · cases e2 : isBehind S[k].c.r (ownR f by_ B) by_
      · have hst := stay (fun e => by rw [e2] at e; cases e.2.1)
        simp only [go_sem, w64, Int.cast_ofNat_Int, Int.reduceEq, Int.reduceAdd, Int.reduceSub, Int.reduceMul, Int.natCast_zero, Int.natCast_inj, Int.ofNat_lt, Int.ofNat_le, Int.natCast_nonneg, Int.toNat_natCast, Nat.mul_one, Nat.reduceLT, Int.reduceLT, Int.reduceLE, Int.reduceToNat, Nat.reduceAdd, Nat.reduceSub, Nat.reduceMul, Nat.reduceLeDiff, decide_true, decide_false, Bool.not_true, Bool.not_false, Bool.false_eq_true, if_true, if_false, true_and, and_true, and_self, reduceCtorEq, Bool.and_true, Bool.true_and, Bool.and_self, upd_upd, e1, encC, hadd]
        refine hN (k + 1, v) _ _ (by simp only; omega) ?_ ⟨hlt, by simp only; rw [hst]; exact gr⟩
        simp only [go_sem, w64, Int.cast_ofNat_Int, Int.reduceEq, Int.reduceAdd, Int.reduceSub, Int.reduceMul, Int.natCast_zero, Int.natCast_inj, Int.ofNat_lt, Int.ofNat_le, Int.natCast_nonneg, Int.toNat_natCast, Nat.mul_one, Nat.reduceLT, Int.reduceLT, Int.reduceLE, Int.reduceToNat, Nat.reduceAdd, Nat.reduceSub, Nat.reduceMul, Nat.reduceLeDiff, decide_true, decide_false, Bool.not_true, Bool.not_false, Bool.false_eq_true, if_true, if_false, true_and, and_true, and_self, reduceCtorEq, Bool.and_true, Bool.true_and, Bool.and_self, upd_upd, d56_0]
      · cases e3 : decide (((allF f by_ B (S.take k)).length : Int) < f.pa)
        · have hst := stay (fun e => of_decide_eq_false e3 e.2.2)
          simp only [go_sem, w64, Int.cast_ofNat_Int, Int.reduceEq, Int.reduceAdd, Int.reduceSub, Int.reduceMul, Int.natCast_zero, Int.natCast_inj, Int.ofNat_lt, Int.ofNat_le, Int.natCast_nonneg, Int.toNat_natCast, Nat.mul_one, Nat.reduceLT, Int.reduceLT, Int.reduceLE, Int.reduceToNat, Nat.reduceAdd, Nat.reduceSub, Nat.reduceMul, Nat.reduceLeDiff, decide_true, decide_false, Bool.not_true, Bool.not_false, Bool.false_eq_true, if_true, if_false, true_and, and_true, and_self, reduceCtorEq, Bool.and_true, Bool.true_and, Bool.and_self, upd_upd, e1, encC, hlen, e3, hadd]
          refine hN (k + 1, v) _ _ (by simp only; omega) ?_ ⟨hlt, by simp only; rw [hst]; exact gr⟩
          simp only [go_sem, w64, Int.cast_ofNat_Int, Int.reduceEq, Int.reduceAdd, Int.reduceSub, Int.reduceMul, Int.natCast_zero, Int.natCast_inj, Int.ofNat_lt, Int.ofNat_le, Int.natCast_nonneg, Int.toNat_natCast, Nat.mul_one, Nat.reduceLT, Int.reduceLT, Int.reduceLE, Int.reduceToNat, Nat.reduceAdd, Nat.reduceSub, Nat.reduceMul, Nat.reduceLeDiff, decide_true, decide_false, Bool.not_true, Bool.not_false, Bool.false_eq_true, if_true, if_false, true_and, and_true, and_self, reduceCtorEq, Bool.and_true, Bool.true_and, Bool.and_self, upd_upd, d56_0]
        · have hst : allF f by_ B (S.take (k + 1)) = allF f by_ B (S.take k) ++ [S[k].c] := by rw [hsn]; unfold allStep; rw [if_pos ⟨of_decide_eq_false e1, e2, of_decide_eq_true e3⟩]
          simp only [go_sem, w64, Int.cast_ofNat_Int, Int.reduceEq, Int.reduceAdd, Int.reduceSub, Int.reduceMul, Int.natCast_zero, Int.natCast_inj, Int.ofNat_lt, Int.ofNat_le, Int.natCast_nonneg, Int.toNat_natCast, Nat.mul_one, Nat.reduceLT, Int.reduceLT, Int.reduceLE, Int.reduceToNat, Nat.reduceAdd, Nat.reduceSub, Nat.reduceMul, Nat.reduceLeDiff, decide_true, decide_false, Bool.not_true, Bool.not_false, Bool.false_eq_true, if_true, if_false, true_and, and_true, and_self, reduceCtorEq, Bool.and_true, Bool.true_and, Bool.and_self, upd_upd, e1, encC, hlen, e3]
          refine gr.add1 (x := encC S[k].c) rfl rfl (by omega) fun v' H' g' => ?_
          simp only [go_sem, w64, Int.cast_ofNat_Int, Int.reduceEq, Int.reduceAdd, Int.reduceSub, Int.reduceMul, Int.natCast_zero, Int.natCast_inj, Int.ofNat_lt, Int.ofNat_le, Int.natCast_nonneg, Int.toNat_natCast, Nat.mul_one, Nat.reduceLT, Int.reduceLT, Int.reduceLE, Int.reduceToNat, Nat.reduceAdd, Nat.reduceSub, Nat.reduceMul, Nat.reduceLeDiff, decide_true, decide_false, Bool.not_true, Bool.not_false, Bool.false_eq_true, if_true, if_false, true_and, and_true, and_self, reduceCtorEq, Bool.and_true, Bool.true_and, Bool.and_self, upd_upd, hadd]
          refine hN (k + 1, v') _ _ (by simp only; omega) ?_ ⟨hlt, ?_⟩
          · simp only [go_sem, w64, Int.cast_ofNat_Int, Int.reduceEq, Int.reduceAdd, Int.reduceSub, Int.reduceMul, Int.natCast_zero, Int.natCast_inj, Int.ofNat_lt, Int.ofNat_le, Int.natCast_nonneg, Int.toNat_natCast, Nat.mul_one, Nat.reduceLT, Int.reduceLT, Int.reduceLE, Int.reduceToNat, Nat.reduceAdd, Nat.reduceSub, Nat.reduceMul, Nat.reduceLeDiff, decide_true, decide_false, Bool.not_true, Bool.not_false, Bool.false_eq_true, if_true, if_false, true_and, and_true, and_self, reduceCtorEq, Bool.and_true, Bool.true_and, Bool.and_self, upd_upd, d56_0]
          · simp only
            rw [hst, cat_append, List.length_append]
            exact g'
    · have hst := stay (fun e => e.1 (of_decide_eq_true e1))
      simp only [go_sem, w64, Int.cast_ofNat_Int, Int.reduceEq, Int.reduceAdd, Int.reduceSub, Int.reduceMul, Int.natCast_zero, Int.natCast_inj, Int.ofNat_lt, Int.ofNat_le, Int.natCast_nonneg, Int.toNat_natCast, Nat.mul_one, Nat.reduceLT, Int.reduceLT, Int.reduceLE, Int.reduceToNat, Nat.reduceAdd, Nat.reduceSub, Nat.reduceMul, Nat.reduceLeDiff, decide_true, decide_false, Bool.not_true, Bool.not_false, Bool.false_eq_true, if_true, if_false, true_and, and_true, and_self, reduceCtorEq, Bool.and_true, Bool.true_and, Bool.and_self, upd_upd, e1, encC, hadd]
      refine hN (k + 1, v) _ _ (by simp only; omega) ?_ ⟨hlt, by simp only; rw [hst]; exact gr⟩
      simp only [go_sem, w64, Int.cast_ofNat_Int, Int.reduceEq, Int.reduceAdd, Int.reduceSub, Int.reduceMul, Int.natCast_zero, Int.natCast_inj, Int.ofNat_lt, Int.ofNat_le, Int.natCast_nonneg, Int.toNat_natCast, Nat.mul_one, Nat.reduceLT, Int.reduceLT, Int.reduceLE, Int.reduceToNat, Nat.reduceAdd, Nat.reduceSub, Nat.reduceMul, Nat.reduceLeDiff, decide_true, decide_false, Bool.not_true, Bool.not_false, Bool.false_eq_true, if_true, if_false, true_and, and_true, and_self, reduceCtorEq, Bool.and_true, Bool.true_and, Bool.and_self, upd_upd, d56_0]
  · have hkl : k = S.length := by omega
    subst hkl
    rw [List.take_length] at gr
    simp only [go_sem, w64, Int.cast_ofNat_Int, Int.reduceEq, Int.reduceAdd, Int.reduceSub, Int.reduceMul, Int.natCast_zero, Int.natCast_inj, Int.ofNat_lt, Int.ofNat_le, Int.natCast_nonneg, Int.toNat_natCast, Nat.mul_one, Nat.reduceLT, Int.reduceLT, Int.reduceLE, Int.reduceToNat, Nat.reduceAdd, Nat.reduceSub, Nat.reduceMul, Nat.reduceLeDiff, decide_true, decide_false, Bool.not_true, Bool.not_false, Bool.false_eq_true, if_true, if_false, true_and, and_true, and_self, reduceCtorEq, Bool.and_true, Bool.true_and, Bool.and_self, upd_upd, hlt]
    refine frz_id ?_
    simp only [go_sem, w64, Int.cast_ofNat_Int, Int.reduceEq, Int.reduceAdd, Int.reduceSub, Int.reduceMul, Int.natCast_zero, Int.natCast_inj, Int.ofNat_lt, Int.ofNat_le, Int.natCast_nonneg, Int.toNat_natCast, Nat.mul_one, Nat.reduceLT, Int.reduceLT, Int.reduceLE, Int.reduceToNat, Nat.reduceAdd, Nat.reduceSub, Nat.reduceMul, Nat.reduceLeDiff, decide_true, decide_false, Bool.not_true, Bool.not_false, Bool.false_eq_true, if_true, if_false, true_and, and_true, and_self, reduceCtorEq, Bool.and_true, Bool.true_and, Bool.and_self, upd_upd]
    refine hQ _ _ _ _ _ _ (.inr rfl) rfl (FzH.refl _) (FzL.refl _ _ _) ⟨v, rfl, gr⟩

/-! ### The plain law -/

theorem ways_c (f : HF) (l : List Cd) : (waysL f l).map (·.c) = l.filter fun c => !decide (pathN f c = 65535) := by
  induction l with
  | nil => rfl
  | cons c l ih =>
    unfold waysL at ih ⊢
    rw [List.filterMap_cons, List.filter_cons]
    by_cases e : pathN f c = 65535
    · simp [e, ih]
    · simp [e, ih]
theorem sways_nodup {f : HF} {l : List Cd} (hr : rightL l = true) : ((isort shC (waysL f l)).map (·.c.n)).Nodup := by
  have h1 := ((isort_perm (c := shC) (waysL f l)).map (·.c.n)).nodup_iff
  rw [h1]
  have : (waysL f l).map (·.c.n) = ((waysL f l).map (·.c)).map (·.n) := by rw [List.map_map]; rfl
  rw [this, ways_c]
  simp only [rightL, Bool.and_eq_true, decide_eq_true_eq] at hr
  exact hr.2.sublist (List.Sublist.map _ List.filter_sublist)

structure AllInv (f : HF) (by_ : Int) (B : Cd) (pre : List Off) (q : List Cd) : Prop where
  shape : ∃ r, q = B :: r ∧ (∀ x ∈ r, isBehind x.r (ownR f by_ B) by_ = true) ∧ ∀ x ∈ r, ∃ o ∈ pre, o.c = x
  nodup : (q.map (·.n)).Nodup
  len : (q.length : Int) ≤ f.pa

theorem allF_inv {f : HF} (hf : f.good = true) {by_ : Int} {B : Cd} : ∀ {pre : List Off}, (pre.map (·.c.n)).Nodup → AllInv f by_ B pre (allF f by_ B pre) := by
  have hg := HF.good_iff.1 hf
  intro pre
  induction pre using snoc_ind with
  | h0 => intro _; exact ⟨⟨[], rfl, by simp, by simp⟩, by simp [allF], by simp [allF]; omega⟩
  | h1 pre o ih =>
    intro hn
    rw [List.map_append, List.nodup_append] at hn
    obtain ⟨n1, _, n3⟩ := hn
    obtain ⟨⟨r, e1, e2, e3⟩, e4, e5⟩ := ih n1
    rw [allF_snoc]
    unfold allStep
    split
    · rename_i hc
      obtain ⟨c1, c2, c3⟩ := hc
      refine ⟨⟨r ++ [o.c], by rw [e1]; rfl, fun x hx => ?_, fun x hx => ?_⟩, ?_, ?_⟩
      · rcases List.mem_append.1 hx with hx | hx
        · exact e2 x hx
        · simp at hx; subst hx; exact c2
      · rcases List.mem_append.1 hx with hx | hx
        · obtain ⟨o', h1, h2⟩ := e3 x hx; exact ⟨o', List.mem_append_left _ h1, h2⟩
        · simp at hx; exact ⟨o, by simp, hx.symm⟩
      · rw [List.map_append, List.nodup_append]
        refine ⟨e4, by simp, ?_⟩
        intro a ha b hb
        simp at hb; subst hb
        rw [e1] at ha
        simp only [List.map_cons, List.mem_cons] at ha
        rcases ha with rfl | ha
        · exact fun e => c1 e.symm
        · obtain ⟨x, hx, rfl⟩ := List.mem_map.1 ha
          obtain ⟨o', h1, h2⟩ := e3 x hx
          rw [← h2]
          exact n3 _ (List.mem_map_of_mem h1) _ (by simp)
      · rw [List.length_append, List.length_cons, List.length_nil]; omega
    · exact ⟨⟨r, e1, e2, fun x hx => by obtain ⟨o', h1, h2⟩ := e3 x hx; exact ⟨o', List.mem_append_left _ h1, h2⟩⟩, e4, e5⟩

theorem rkN_ge_first (f : HF) (by_ : Int) (B : Cd) (r : List Cd) : ownR f by_ B ≤ rkN f by_ (B :: r) := by
  induction r using snoc_ind with
  | h0 => exact Int.le_refl _
  | h1 r c ih =>
    have : rkN f by_ (B :: r ++ [c]) = max (rkN f by_ (B :: r)) (min (c.r - c.r % by_ + by_) 65535) := rkN_snoc (by simp) c
    have e : B :: (r ++ [c]) = B :: r ++ [c] := rfl
    rw [e, this]; omega

section
variable {f : HF} {by_ now : Int} {m : List Cd} (hf : f.good = true) (hr : rightL m = true) (hb : isLeast by_ = true) (hw : waysL f m ≠ [])
include hf hr hb hw

theorem all_inv : AllInv f by_ (bestN f now m).c (isort shC (waysL f m)) (allL f by_ now m) := allF_inv hf (sways_nodup hr)
theorem all_mem {c : Cd} (h : c ∈ allL f by_ now m) : c ∈ m := by
  obtain ⟨r, e1, _, e3⟩ := (all_inv hf hr hb hw (now := now)).shape
  rw [e1] at h
  rcases List.mem_cons.1 h with rfl | h
  · exact (mem_ways (mem_isort.1 (bestN_mem (now := now) hf hr hw))).1
  · obtain ⟨o, h1, h2⟩ := e3 _ h
    rw [← h2]; exact (mem_ways (mem_isort.1 h1)).1
theorem all_right : rightL (allL f by_ now m) = true := by
  simp only [rightL, Bool.and_eq_true, decide_eq_true_eq]
  exact ⟨List.all_eq_true.2 fun c hc => List.all_eq_true.1 (rightL_one hr) _ (all_mem hf hr hb hw hc), (all_inv hf hr hb hw).nodup⟩
theorem all_above {c : Cd} (h : c ∈ allL f by_ now m) (hne : rkN f by_ (allL f by_ now m) ≠ 65535) (hle : rkN f by_ (allL f by_ now m) ≤ 65535) : c.r / by_ < rkN f by_ (allL f by_ now m) / by_ := by
  have hb' : 1 ≤ by_ ∧ by_ ≤ 65535 := by simpa [isLeast] using hb
  obtain ⟨r, e1, e2, _⟩ := (all_inv hf hr hb hw (now := now)).shape
  have h1 := rkN_ge_first f by_ (bestN f now m).c r
  rw [← e1] at h1
  generalize rkN f by_ (allL f by_ now m) = n at *
  rw [e1] at h
  rcases List.mem_cons.1 h with rfl | h
  · have : (bestN f now m).c.r + by_ ≤ n := by unfold ownR at h1; omega
    have h3 := Int.ediv_le_ediv (show 0 < by_ by omega) this
    have h4 := Int.add_mul_ediv_right (bestN f now m).c.r 1 (show by_ ≠ 0 by omega)
    rw [Int.one_mul] at h4
    omega
  · have h2 := e2 _ h
    simp only [isBehind, Bool.and_eq_true, decide_eq_true_eq] at h2
    have h3 := Int.ediv_le_ediv (show 0 < by_ by omega) h1
    omega
end

theorem rkN_range {f : HF} (hf : f.good = true) {by_ : Int} (hb : isLeast by_ = true) : ∀ {l : List Cd}, l.all oneB = true → 0 ≤ rkN f by_ l ∧ rkN f by_ l ≤ 65535 := by
  have hb' : 1 ≤ by_ ∧ by_ ≤ 65535 := by simpa [isLeast] using hb
  intro l
  induction l using snoc_ind with
  | h0 => intro _; exact ⟨by show (0 : Int) ≤ 0; decide, by show (0 : Int) ≤ 65535; decide⟩
  | h1 l c ih =>
    intro h
    rw [List.all_append, Bool.and_eq_true] at h
    have h2 := ih h.1
    have h3 := path_range hf (c := c) (by simpa using h.2)
    have h4 := oneB_iff.1 (show oneB c = true by simpa using h.2)
    by_cases e : l = []
    · subst e
      show 0 ≤ rkN f by_ [c] ∧ rkN f by_ [c] ≤ 65535
      rw [rkN_one]; omega
    · rw [rkN_snoc e]
      omega

theorem hbehind_spec (f : HF) (by_ now : Int) (l : List Cd) (h : AHeap) (hn : l.length ≤ 9223372036854775807) : PureA Try.prog 12 [.agg f.av, .int .i64 by_, .int .i64 now, .ro (cat encC l) l.length false] h (.bool true) := by
  have h12 : (l.take 12).length ≤ 12 := by rw [List.length_take]; omega
  (refine PureA.enter (ac := c12) (rs := r12) Try.func12 rfl (by decide) c12_ok r12_ok ?_; intro Q hQ; simp only [go_sem, w64, Int.cast_ofNat_Int, Int.reduceEq, Int.reduceAdd, Int.reduceSub, Int.reduceMul, Int.natCast_zero, Int.natCast_inj, Int.ofNat_lt, Int.ofNat_le, Int.natCast_nonneg, Int.toNat_natCast, Nat.mul_one, Nat.reduceLT, Int.reduceLT, Int.reduceLE, Int.reduceToNat, Nat.reduceAdd, Nat.reduceSub, Nat.reduceMul, Nat.reduceLeDiff, decide_true, decide_false, Bool.not_true, Bool.not_false, Bool.false_eq_true, if_true, if_false, true_and, and_true, and_self, reduceCtorEq, Bool.and_true, Bool.true_and, Bool.and_self, upd_upd, c12, Try.ntmps12, HF.av])
  refine (hto_spec f _).use ?_
  simp only [go_sem, w64, Int.cast_ofNat_Int, Int.reduceEq, Int.reduceAdd, Int.reduceSub, Int.reduceMul, Int.natCast_zero, Int.natCast_inj, Int.ofNat_lt, Int.ofNat_le, Int.natCast_nonneg, Int.toNat_natCast, Nat.mul_one, Nat.reduceLT, Int.reduceLT, Int.reduceLE, Int.reduceToNat, Nat.reduceAdd, Nat.reduceSub, Nat.reduceMul, Nat.reduceLeDiff, decide_true, decide_false, Bool.not_true, Bool.not_false, Bool.false_eq_true, if_true, if_false, true_and, and_true, and_self, reduceCtorEq, Bool.and_true, Bool.true_and, Bool.and_self, upd_upd, HF.av]
  intro p hp
  simp only [go_sem, w64, Int.cast_ofNat_Int, Int.reduceEq, Int.reduceAdd, Int.reduceSub, Int.reduceMul, Int.natCast_zero, Int.natCast_inj, Int.ofNat_lt, Int.ofNat_le, Int.natCast_nonneg, Int.toNat_natCast, Nat.mul_one, Nat.reduceLT, Int.reduceLT, Int.reduceLE, Int.reduceToNat, Nat.reduceAdd, Nat.reduceSub, Nat.reduceMul, Nat.reduceLeDiff, decide_true, decide_false, Bool.not_true, Bool.not_false, Bool.false_eq_true, if_true, if_false, true_and, and_true, and_self, reduceCtorEq, Bool.and_true, Bool.true_and, Bool.and_self, upd_upd, del_same, del_none hp]
  refine (to15_spec l false _ hn).use ?_
  generalize hm : l.take 12 = m at *
  simp only [go_sem, w64, Int.cast_ofNat_Int, Int.reduceEq, Int.reduceAdd, Int.reduceSub, Int.reduceMul, Int.natCast_zero, Int.natCast_inj, Int.ofNat_lt, Int.ofNat_le, Int.natCast_nonneg, Int.toNat_natCast, Nat.mul_one, Nat.reduceLT, Int.reduceLT, Int.reduceLE, Int.reduceToNat, Nat.reduceAdd, Nat.reduceSub, Nat.reduceMul, Nat.reduceLeDiff, decide_true, decide_false, Bool.not_true, Bool.not_false, Bool.false_eq_true, if_true, if_false, true_and, and_true, and_self, reduceCtorEq, Bool.and_true, Bool.true_and, Bool.and_self, upd_upd]
  refine (hall_spec f by_ now m _ _ h12).use ?_
  cases g : f.good && rightL m && isLeast by_
  · simp only [go_sem, w64, Int.cast_ofNat_Int, Int.reduceEq, Int.reduceAdd, Int.reduceSub, Int.reduceMul, Int.natCast_zero, Int.natCast_inj, Int.ofNat_lt, Int.ofNat_le, Int.natCast_nonneg, Int.toNat_natCast, Nat.mul_one, Nat.reduceLT, Int.reduceLT, Int.reduceLE, Int.reduceToNat, Nat.reduceAdd, Nat.reduceSub, Nat.reduceMul, Nat.reduceLeDiff, decide_true, decide_false, Bool.not_true, Bool.not_false, Bool.false_eq_true, if_true, if_false, true_and, and_true, and_self, reduceCtorEq, Bool.and_true, Bool.true_and, Bool.and_self, upd_upd, show decide ((1 : Int) = 0) = false from rfl]
    refine (known16_spec _).use ?_
    simp only [go_sem, w64, Int.cast_ofNat_Int, Int.reduceEq, Int.reduceAdd, Int.reduceSub, Int.reduceMul, Int.natCast_zero, Int.natCast_inj, Int.ofNat_lt, Int.ofNat_le, Int.natCast_nonneg, Int.toNat_natCast, Nat.mul_one, Nat.reduceLT, Int.reduceLT, Int.reduceLE, Int.reduceToNat, Nat.reduceAdd, Nat.reduceSub, Nat.reduceMul, Nat.reduceLeDiff, decide_true, decide_false, Bool.not_true, Bool.not_false, Bool.false_eq_true, if_true, if_false, true_and, and_true, and_self, reduceCtorEq, Bool.and_true, Bool.true_and, Bool.and_self, upd_upd]
    (refine hQ _ _ _ _ _ (by first | exact .inr rfl | exact .inl rfl) rfl (by first | exact FzH.refl _ | exact FzH.sub (by (repeat' (first | exact Sub.refl _ | assumption | (refine Sub.upd ?_ (by first | assumption | (simp only [*]; done) | exact Sub.isNone (by assumption) (by assumption) | exact Sub.isNone (by assumption) (by simp only [*]))))))) (FzL.refl _ _ _) ?_; try (simp only [go_sem, w64, Int.cast_ofNat_Int, Int.reduceEq, Int.reduceAdd, Int.reduceSub, Int.reduceMul, Int.natCast_zero, Int.natCast_inj, Int.ofNat_lt, Int.ofNat_le, Int.natCast_nonneg, Int.toNat_natCast, Nat.mul_one, Nat.reduceLT, Int.reduceLT, Int.reduceLE, Int.reduceToNat, Nat.reduceAdd, Nat.reduceSub, Nat.reduceMul, Nat.reduceLeDiff, decide_true, decide_false, Bool.not_true, Bool.not_false, Bool.false_eq_true, if_true, if_false, true_and, and_true, and_self, reduceCtorEq, Bool.and_true, Bool.true_and, Bool.and_self, upd_upd]))
  have g' := g
  simp only [Bool.and_eq_true] at g'
  obtain ⟨⟨hf, hr⟩, hb⟩ := g'
  by_cases he : waysL f m = []
  · simp only [go_sem, w64, Int.cast_ofNat_Int, Int.reduceEq, Int.reduceAdd, Int.reduceSub, Int.reduceMul, Int.natCast_zero, Int.natCast_inj, Int.ofNat_lt, Int.ofNat_le, Int.natCast_nonneg, Int.toNat_natCast, Nat.mul_one, Nat.reduceLT, Int.reduceLT, Int.reduceLE, Int.reduceToNat, Nat.reduceAdd, Nat.reduceSub, Nat.reduceMul, Nat.reduceLeDiff, decide_true, decide_false, Bool.not_true, Bool.not_false, Bool.false_eq_true, if_true, if_false, true_and, and_true, and_self, reduceCtorEq, Bool.and_true, Bool.true_and, Bool.and_self, upd_upd, he, show decide ((8 : Int) = 0) = false from rfl]
    refine (known16_spec _).use ?_
    simp only [go_sem, w64, Int.cast_ofNat_Int, Int.reduceEq, Int.reduceAdd, Int.reduceSub, Int.reduceMul, Int.natCast_zero, Int.natCast_inj, Int.ofNat_lt, Int.ofNat_le, Int.natCast_nonneg, Int.toNat_natCast, Nat.mul_one, Nat.reduceLT, Int.reduceLT, Int.reduceLE, Int.reduceToNat, Nat.reduceAdd, Nat.reduceSub, Nat.reduceMul, Nat.reduceLeDiff, decide_true, decide_false, Bool.not_true, Bool.not_false, Bool.false_eq_true, if_true, if_false, true_and, and_true, and_self, reduceCtorEq, Bool.and_true, Bool.true_and, Bool.and_self, upd_upd]
    (refine hQ _ _ _ _ _ (by first | exact .inr rfl | exact .inl rfl) rfl (by first | exact FzH.refl _ | exact FzH.sub (by (repeat' (first | exact Sub.refl _ | assumption | (refine Sub.upd ?_ (by first | assumption | (simp only [*]; done) | exact Sub.isNone (by assumption) (by assumption) | exact Sub.isNone (by assumption) (by simp only [*]))))))) (FzL.refl _ _ _) ?_; try (simp only [go_sem, w64, Int.cast_ofNat_Int, Int.reduceEq, Int.reduceAdd, Int.reduceSub, Int.reduceMul, Int.natCast_zero, Int.natCast_inj, Int.ofNat_lt, Int.ofNat_le, Int.natCast_nonneg, Int.toNat_natCast, Nat.mul_one, Nat.reduceLT, Int.reduceLT, Int.reduceLE, Int.reduceToNat, Nat.reduceAdd, Nat.reduceSub, Nat.reduceMul, Nat.reduceLeDiff, decide_true, decide_false, Bool.not_true, Bool.not_false, Bool.false_eq_true, if_true, if_false, true_and, and_true, and_self, reduceCtorEq, Bool.and_true, Bool.true_and, Bool.and_self, upd_upd]))
  have hb' : 1 ≤ by_ ∧ by_ ≤ 65535 := by simpa [isLeast] using hb
  have hres : resL f by_ now m = allL f by_ now m := by unfold resL; rw [g, if_neg he]; rfl
  have hinv := all_inv hf hr hb he (now := now)
  have har := all_right hf hr hb he (now := now)
  have hmem := fun c => all_mem hf hr hb he (now := now) (c := c)
  have habove := fun c => all_above hf hr hb he (now := now) (c := c)
  have hrange := rkN_range hf hb (rightL_one har)
  obtain ⟨⟨r, hr1, _, _⟩, _, hlen⟩ := hinv
  have hg := HF.good_iff.1 hf
  rw [hres]
  simp only [go_sem, w64, Int.cast_ofNat_Int, Int.reduceEq, Int.reduceAdd, Int.reduceSub, Int.reduceMul, Int.natCast_zero, Int.natCast_inj, Int.ofNat_lt, Int.ofNat_le, Int.natCast_nonneg, Int.toNat_natCast, Nat.mul_one, Nat.reduceLT, Int.reduceLT, Int.reduceLE, Int.reduceToNat, Nat.reduceAdd, Nat.reduceSub, Nat.reduceMul, Nat.reduceLeDiff, decide_true, decide_false, Bool.not_true, Bool.not_false, Bool.false_eq_true, if_true, if_false, true_and, and_true, and_self, reduceCtorEq, Bool.and_true, Bool.true_and, Bool.and_self, upd_upd, he]
  generalize allL f by_ now m = q at *
  have hq1 : 1 ≤ q.length := by rw [hr1]; simp
  have hqne : q ≠ [] := fun e => by rw [e] at hq1; simp at hq1
  refine (hrank_spec f by_ q _ _ (by omega)).use ?_
  have hgq : (f.good && rightL q && isLeast by_) = true := by rw [hf, har, hb]; rfl
  have d1 : decide ((q.length : Int) < 1) = false := decide_eq_false (by omega)
  have d2 : decide (f.pa < (q.length : Int)) = false := decide_eq_false (by omega)
  simp only [go_sem, w64, Int.cast_ofNat_Int, Int.reduceEq, Int.reduceAdd, Int.reduceSub, Int.reduceMul, Int.natCast_zero, Int.natCast_inj, Int.ofNat_lt, Int.ofNat_le, Int.natCast_nonneg, Int.toNat_natCast, Nat.mul_one, Nat.reduceLT, Int.reduceLT, Int.reduceLE, Int.reduceToNat, Nat.reduceAdd, Nat.reduceSub, Nat.reduceMul, Nat.reduceLeDiff, decide_true, decide_false, Bool.not_true, Bool.not_false, Bool.false_eq_true, if_true, if_false, true_and, and_true, and_self, reduceCtorEq, Bool.and_true, Bool.true_and, Bool.and_self, upd_upd, hgq, hqne, d1, d2]
  refine (zright_spec q _ _ (by omega)).use ?_
  simp only [go_sem, w64, Int.cast_ofNat_Int, Int.reduceEq, Int.reduceAdd, Int.reduceSub, Int.reduceMul, Int.natCast_zero, Int.natCast_inj, Int.ofNat_lt, Int.ofNat_le, Int.natCast_nonneg, Int.toNat_natCast, Nat.mul_one, Nat.reduceLT, Int.reduceLT, Int.reduceLE, Int.reduceToNat, Nat.reduceAdd, Nat.reduceSub, Nat.reduceMul, Nat.reduceLeDiff, decide_true, decide_false, Bool.not_true, Bool.not_false, Bool.false_eq_true, if_true, if_false, true_and, and_true, and_self, reduceCtorEq, Bool.and_true, Bool.true_and, Bool.and_self, upd_upd, har]
  refine loop_range d12_0 q.length (fun k s => s.set 14 (.int .i64 k)) (fun k H => H = h) ?_ rfl ?_
  · (simp only [go_sem, w64, Int.cast_ofNat_Int, Int.reduceEq, Int.reduceAdd, Int.reduceSub, Int.reduceMul, Int.natCast_zero, Int.natCast_inj, Int.ofNat_lt, Int.ofNat_le, Int.natCast_nonneg, Int.toNat_natCast, Nat.mul_one, Nat.reduceLT, Int.reduceLT, Int.reduceLE, Int.reduceToNat, Nat.reduceAdd, Nat.reduceSub, Nat.reduceMul, Nat.reduceLeDiff, decide_true, decide_false, Bool.not_true, Bool.not_false, Bool.false_eq_true, if_true, if_false, true_and, and_true, and_self, reduceCtorEq, Bool.and_true, Bool.true_and, Bool.and_self, upd_upd, d12_0] <;> rfl)
  rintro N k H hk rfl hN
  simp only [go_sem, w64, Int.cast_ofNat_Int, Int.reduceEq, Int.reduceAdd, Int.reduceSub, Int.reduceMul, Int.natCast_zero, Int.natCast_inj, Int.ofNat_lt, Int.ofNat_le, Int.natCast_nonneg, Int.toNat_natCast, Nat.mul_one, Nat.reduceLT, Int.reduceLT, Int.reduceLE, Int.reduceToNat, Nat.reduceAdd, Nat.reduceSub, Nat.reduceMul, Nat.reduceLeDiff, decide_true, decide_false, Bool.not_true, Bool.not_false, Bool.false_eq_true, if_true, if_false, true_and, and_true, and_self, reduceCtorEq, Bool.and_true, Bool.true_and, Bool.and_self, upd_upd, d12_0]
  have hadd := wadd1 (k := k) (by omega)
  by_cases hlt : k < q.length
  · have hone : oneB q[k] = true := List.all_eq_true.1 (rightL_one har) _ (List.getElem_mem hlt)
    have hc := oneB_iff.1 hone
    have r1 := rd_cell (h := H) (off := 1) encC_len hlt (by omega)
    simp only [encC, List.getElem?_cons_succ, List.getElem?_cons_zero] at r1
    have hz : (by_ == 0) = false := by simp; omega
    have q1 : IntKind.i64.wrap ((rkN f by_ q).tdiv by_) = rkN f by_ q / by_ := by rw [Int.tdiv_eq_ediv_of_nonneg hrange.1]; exact w64 (by have := Int.ediv_nonneg hrange.1 (show 0 ≤ by_ by omega); omega) (by have := Int.ediv_le_self by_ hrange.1; omega)
    have q2 : IntKind.i64.wrap (q[k].r.tdiv by_) = q[k].r / by_ := by rw [Int.tdiv_eq_ediv_of_nonneg hc.2.2.1]; exact w64 (by have := Int.ediv_nonneg hc.2.2.1 (show 0 ≤ by_ by omega); omega) (by have := Int.ediv_le_self by_ hc.2.2.1; omega)
    cases e1 : decide (rkN f by_ q = 65535)
    · have hab := habove _ (List.getElem_mem hlt) (of_decide_eq_false e1) hrange.2
      have e2 : decide (rkN f by_ q / by_ ≤ q[k].r / by_) = false := decide_eq_false (by omega)
      simp only [go_sem, w64, Int.cast_ofNat_Int, Int.reduceEq, Int.reduceAdd, Int.reduceSub, Int.reduceMul, Int.natCast_zero, Int.natCast_inj, Int.ofNat_lt, Int.ofNat_le, Int.natCast_nonneg, Int.toNat_natCast, Nat.mul_one, Nat.reduceLT, Int.reduceLT, Int.reduceLE, Int.reduceToNat, Nat.reduceAdd, Nat.reduceSub, Nat.reduceMul, Nat.reduceLeDiff, decide_true, decide_false, Bool.not_true, Bool.not_false, Bool.false_eq_true, if_true, if_false, true_and, and_true, and_self, reduceCtorEq, Bool.and_true, Bool.true_and, Bool.and_self, upd_upd, hlt, e1, hz, q1, q2, r1, e2, hadd]
      refine hN _ _ hlt ?_ rfl
      simp only [go_sem, w64, Int.cast_ofNat_Int, Int.reduceEq, Int.reduceAdd, Int.reduceSub, Int.reduceMul, Int.natCast_zero, Int.natCast_inj, Int.ofNat_lt, Int.ofNat_le, Int.natCast_nonneg, Int.toNat_natCast, Nat.mul_one, Nat.reduceLT, Int.reduceLT, Int.reduceLE, Int.reduceToNat, Nat.reduceAdd, Nat.reduceSub, Nat.reduceMul, Nat.reduceLeDiff, decide_true, decide_false, Bool.not_true, Bool.not_false, Bool.false_eq_true, if_true, if_false, true_and, and_true, and_self, reduceCtorEq, Bool.and_true, Bool.true_and, Bool.and_self, upd_upd, d12_0]
    · simp only [go_sem, w64, Int.cast_ofNat_Int, Int.reduceEq, Int.reduceAdd, Int.reduceSub, Int.reduceMul, Int.natCast_zero, Int.natCast_inj, Int.ofNat_lt, Int.ofNat_le, Int.natCast_nonneg, Int.toNat_natCast, Nat.mul_one, Nat.reduceLT, Int.reduceLT, Int.reduceLE, Int.reduceToNat, Nat.reduceAdd, Nat.reduceSub, Nat.reduceMul, Nat.reduceLeDiff, decide_true, decide_false, Bool.not_true, Bool.not_false, Bool.false_eq_true, if_true, if_false, true_and, and_true, and_self, reduceCtorEq, Bool.and_true, Bool.true_and, Bool.and_self, upd_upd, hlt, e1, hadd]
      refine hN _ _ hlt ?_ rfl
      simp only [go_sem, w64, Int.cast_ofNat_Int, Int.reduceEq, Int.reduceAdd, Int.reduceSub, Int.reduceMul, Int.natCast_zero, Int.natCast_inj, Int.ofNat_lt, Int.ofNat_le, Int.natCast_nonneg, Int.toNat_natCast, Nat.mul_one, Nat.reduceLT, Int.reduceLT, Int.reduceLE, Int.reduceToNat, Nat.reduceAdd, Nat.reduceSub, Nat.reduceMul, Nat.reduceLeDiff, decide_true, decide_false, Bool.not_true, Bool.not_false, Bool.false_eq_true, if_true, if_false, true_and, and_true, and_self, reduceCtorEq, Bool.and_true, Bool.true_and, Bool.and_self, upd_upd, d12_0]
  · simp only [go_sem, w64, Int.cast_ofNat_Int, Int.reduceEq, Int.reduceAdd, Int.reduceSub, Int.reduceMul, Int.natCast_zero, Int.natCast_inj, Int.ofNat_lt, Int.ofNat_le, Int.natCast_nonneg, Int.toNat_natCast, Nat.mul_one, Nat.reduceLT, Int.reduceLT, Int.reduceLE, Int.reduceToNat, Nat.reduceAdd, Nat.reduceSub, Nat.reduceMul, Nat.reduceLeDiff, decide_true, decide_false, Bool.not_true, Bool.not_false, Bool.false_eq_true, if_true, if_false, true_and, and_true, and_self, reduceCtorEq, Bool.and_true, Bool.true_and, Bool.and_self, upd_upd, hlt]
    refine frz_id ?_
    refine (known16_spec _).use ?_
    simp only [go_sem, w64, Int.cast_ofNat_Int, Int.reduceEq, Int.reduceAdd, Int.reduceSub, Int.reduceMul, Int.natCast_zero, Int.natCast_inj, Int.ofNat_lt, Int.ofNat_le, Int.natCast_nonneg, Int.toNat_natCast, Nat.mul_one, Nat.reduceLT, Int.reduceLT, Int.reduceLE, Int.reduceToNat, Nat.reduceAdd, Nat.reduceSub, Nat.reduceMul, Nat.reduceLeDiff, decide_true, decide_false, Bool.not_true, Bool.not_false, Bool.false_eq_true, if_true, if_false, true_and, and_true, and_self, reduceCtorEq, Bool.and_true, Bool.true_and, Bool.and_self, upd_upd]
    (refine hQ _ _ _ _ _ (by first | exact .inr rfl | exact .inl rfl) rfl (by first | exact FzH.refl _ | exact FzH.sub (by (repeat' (first | exact Sub.refl _ | assumption | (refine Sub.upd ?_ (by first | assumption | (simp only [*]; done) | exact Sub.isNone (by assumption) (by assumption) | exact Sub.isNone (by assumption) (by simp only [*]))))))) (FzL.refl _ _ _) ?_; try (simp only [go_sem, w64, Int.cast_ofNat_Int, Int.reduceEq, Int.reduceAdd, Int.reduceSub, Int.reduceMul, Int.natCast_zero, Int.natCast_inj, Int.ofNat_lt, Int.ofNat_le, Int.natCast_nonneg, Int.toNat_natCast, Nat.mul_one, Nat.reduceLT, Int.reduceLT, Int.reduceLE, Int.reduceToNat, Nat.reduceAdd, Nat.reduceSub, Nat.reduceMul, Nat.reduceLeDiff, decide_true, decide_false, Bool.not_true, Bool.not_false, Bool.false_eq_true, if_true, if_false, true_and, and_true, and_self, reduceCtorEq, Bool.and_true, Bool.true_and, Bool.and_self, upd_upd]))

theorem hbehind_law (xs : List AV) (h : ArgsSh Try.prog 6 Try.f12.params.toList xs) : PureA Try.prog 12 xs emp (.bool true) := by
  rw [Try.params12] at h
  simp only [ArgsSh, ArgSh, Try.underlying26, Try.underlying77, Try.underlying3] at h
  obtain ⟨x, _, rfl, hx, y, _, rfl, hy, u, _, rfl, hu, z, _, rfl, hz, rfl⟩ := h
  rw [ShC] at hz
  simp only [Try.underlying77] at hz
  simp only [Try.underlying26, Try.underlying3, ShC, ShFs] at hx hy hu
  obtain ⟨_, rfl, _, _, rfl, _, ⟨a, rfl, _⟩, _, _, rfl, _, ⟨b, rfl, _⟩, _, _, rfl, _, ⟨c, rfl, _⟩, _, _, rfl, _, ⟨d, rfl, _⟩, rfl⟩ := hx
  obtain ⟨m, hm, _⟩ := hy
  cases hm
  obtain ⟨n, hn, _⟩ := hu
  cases hn
  obtain ⟨els, e, hl, hels⟩ := hz
  cases e
  obtain ⟨l, e1, e2, e3⟩ := cds_sh (els := els) fun el hel => ⟨(hels el hel).1, by
    have := (hels el hel).2
    rw [ShC] at this
    simp only [Try.underlying67] at this ⊢
    exact this⟩
  rw [e1, e2]
  exact hbehind_spec ⟨a, b, c, d⟩ m n l emp (by have := maxLen_le; omega)

end Go.Proofs.Ytaeppifdbcoipaa
