/-
  ideal.check, ideal.Ranks.
-/
import Derived.Test.YtaeppifdbcoipaaIi
import Derived.Test.YtaeppifdbcoipaaId
import Derived.Test.YtaeppifdbcoipaaIk
import Derived.Test.YtaeppifdbcoipaaPa
namespace Go.Proofs.Ytaeppifdbcoipaa
open Go E
set_option linter.unusedVariables false
set_option linter.unusedSimpArgs false
set_option maxRecDepth 100000

def Pol.ierr (p : Pol) : Int := if p.err ≠ 0 then p.err else if p.code ≠ 0 then 6 else 0

theorem icheck_spec (x : Nat) (p : Pol) (h : AHeap) : PureA Try.prog 76 [.ptr x 0, .agg p.av] h (.int .i64 p.ierr) := by
  (refine PureA.enter (ac := c76) (rs := r76) Try.func76 rfl (by decide) c76_ok r76_ok ?_; intro Q hQ; simp only [go_sem, Int.reduceEq, Int.reduceAdd, Int.reduceSub, Int.reduceMul, Nat.reduceLT, Int.reduceLT, Int.reduceLE, Int.reduceToNat, Nat.reduceAdd, Nat.reduceSub, Nat.reduceMul, Nat.reduceLeDiff, reduceCtorEq, c76, Try.ntmps76, Pol.av])
  refine (pcheck_spec p _).use ?_
  by_cases e : p.err = 0
  · simp only [go_sem, Int.reduceEq, Int.reduceAdd, Int.reduceSub, Int.reduceMul, Nat.reduceLT, Int.reduceLT, Int.reduceLE, Int.reduceToNat, Nat.reduceAdd, Nat.reduceSub, Nat.reduceMul, Nat.reduceLeDiff, reduceCtorEq, e]
    by_cases g : p.code = 0
    · have : p.ierr = 0 := by unfold Pol.ierr; rw [if_neg (fun x => x e), if_neg (fun x => x g)]
      simp only [go_sem, Int.reduceEq, Int.reduceAdd, Int.reduceSub, Int.reduceMul, Nat.reduceLT, Int.reduceLT, Int.reduceLE, Int.reduceToNat, Nat.reduceAdd, Nat.reduceSub, Nat.reduceMul, Nat.reduceLeDiff, reduceCtorEq, g]
      (refine hQ _ _ _ _ _ (by first | exact .inr rfl | exact .inl rfl) rfl (by first | exact FzH.refl _ | exact FzH.sub (by (repeat' (first | exact Sub.refl _ | assumption | (refine Sub.upd ?_ (by first | assumption | (simp only [*]; done) | exact Sub.isNone (by assumption) (by assumption) | exact Sub.isNone (by assumption) (by simp only [*]))))))) (FzL.refl _ _ _) ?_; try (simp only [go_sem, Int.reduceEq, Int.reduceAdd, Int.reduceSub, Int.reduceMul, Nat.reduceLT, Int.reduceLT, Int.reduceLE, Int.reduceToNat, Nat.reduceAdd, Nat.reduceSub, Nat.reduceMul, Nat.reduceLeDiff, reduceCtorEq, this]))
    · have g' : decide (p.code = 0) = false := decide_eq_false g
      have : p.ierr = 6 := by unfold Pol.ierr; rw [if_neg (fun x => x e), if_pos g]
      simp only [go_sem, Int.reduceEq, Int.reduceAdd, Int.reduceSub, Int.reduceMul, Nat.reduceLT, Int.reduceLT, Int.reduceLE, Int.reduceToNat, Nat.reduceAdd, Nat.reduceSub, Nat.reduceMul, Nat.reduceLeDiff, reduceCtorEq, g']
      (refine hQ _ _ _ _ _ (by first | exact .inr rfl | exact .inl rfl) rfl (by first | exact FzH.refl _ | exact FzH.sub (by (repeat' (first | exact Sub.refl _ | assumption | (refine Sub.upd ?_ (by first | assumption | (simp only [*]; done) | exact Sub.isNone (by assumption) (by assumption) | exact Sub.isNone (by assumption) (by simp only [*]))))))) (FzL.refl _ _ _) ?_; try (simp only [go_sem, Int.reduceEq, Int.reduceAdd, Int.reduceSub, Int.reduceMul, Nat.reduceLT, Int.reduceLT, Int.reduceLE, Int.reduceToNat, Nat.reduceAdd, Nat.reduceSub, Nat.reduceMul, Nat.reduceLeDiff, reduceCtorEq, this]))
  · have e' : decide (p.err = 0) = false := decide_eq_false e
    have : p.ierr = p.err := by unfold Pol.ierr; rw [if_pos e]
    simp only [go_sem, Int.reduceEq, Int.reduceAdd, Int.reduceSub, Int.reduceMul, Nat.reduceLT, Int.reduceLT, Int.reduceLE, Int.reduceToNat, Nat.reduceAdd, Nat.reduceSub, Nat.reduceMul, Nat.reduceLeDiff, reduceCtorEq, e']
    (refine hQ _ _ _ _ _ (by first | exact .inr rfl | exact .inl rfl) rfl (by first | exact FzH.refl _ | exact FzH.sub (by (repeat' (first | exact Sub.refl _ | assumption | (refine Sub.upd ?_ (by first | assumption | (simp only [*]; done) | exact Sub.isNone (by assumption) (by assumption) | exact Sub.isNone (by assumption) (by simp only [*]))))))) (FzL.refl _ _ _) ?_; try (simp only [go_sem, Int.reduceEq, Int.reduceAdd, Int.reduceSub, Int.reduceMul, Nat.reduceLT, Int.reduceLT, Int.reduceLE, Int.reduceToNat, Nat.reduceAdd, Nat.reduceSub, Nat.reduceMul, Nat.reduceLeDiff, reduceCtorEq, this]))
theorem icheck_nil (p : Pol) (h : AHeap) : PureA Try.prog 76 [.nilp, .agg p.av] h (.int .i64 13) := by
  (refine PureA.enter (ac := c76) (rs := r76) Try.func76 rfl (by decide) c76_ok r76_ok ?_; intro Q hQ; simp only [go_sem, Int.reduceEq, Int.reduceAdd, Int.reduceSub, Int.reduceMul, Nat.reduceLT, Int.reduceLT, Int.reduceLE, Int.reduceToNat, Nat.reduceAdd, Nat.reduceSub, Nat.reduceMul, Nat.reduceLeDiff, reduceCtorEq, c76, Try.ntmps76, Pol.av])
  (refine hQ _ _ _ _ _ (by first | exact .inr rfl | exact .inl rfl) rfl (by first | exact FzH.refl _ | exact FzH.sub (by (repeat' (first | exact Sub.refl _ | assumption | (refine Sub.upd ?_ (by first | assumption | (simp only [*]; done) | exact Sub.isNone (by assumption) (by assumption) | exact Sub.isNone (by assumption) (by simp only [*]))))))) (FzL.refl _ _ _) ?_; try (simp only [go_sem, Int.reduceEq, Int.reduceAdd, Int.reduceSub, Int.reduceMul, Nat.reduceLT, Int.reduceLT, Int.reduceLE, Int.reduceToNat, Nat.reduceAdd, Nat.reduceSub, Nat.reduceMul, Nat.reduceLeDiff, reduceCtorEq]))

theorem iranks_nil (p : Pol) (h : AHeap) : PureA Try.prog 18 [.nilp, .agg p.av] h (.tup [.nils, .int .i64 13]) := by
  (refine PureA.enter (ac := c18) (rs := r18) Try.func18 rfl (by decide) c18_ok r18_ok ?_; intro Q hQ; simp only [go_sem, Int.reduceEq, Int.reduceAdd, Int.reduceSub, Int.reduceMul, Nat.reduceLT, Int.reduceLT, Int.reduceLE, Int.reduceToNat, Nat.reduceAdd, Nat.reduceSub, Nat.reduceMul, Nat.reduceLeDiff, reduceCtorEq, c18, Try.ntmps18, Pol.av])
  refine (icheck_nil p _).use ?_
  simp only [go_sem, Int.reduceEq, Int.reduceAdd, Int.reduceSub, Int.reduceMul, Nat.reduceLT, Int.reduceLT, Int.reduceLE, Int.reduceToNat, Nat.reduceAdd, Nat.reduceSub, Nat.reduceMul, Nat.reduceLeDiff, reduceCtorEq]
  (refine hQ _ _ _ _ _ (by first | exact .inr rfl | exact .inl rfl) rfl (by first | exact FzH.refl _ | exact FzH.sub (by (repeat' (first | exact Sub.refl _ | assumption | (refine Sub.upd ?_ (by first | assumption | (simp only [*]; done) | exact Sub.isNone (by assumption) (by assumption) | exact Sub.isNone (by assumption) (by simp only [*]))))))) (FzL.refl _ _ _) ?_; try (simp only [go_sem, Int.reduceEq, Int.reduceAdd, Int.reduceSub, Int.reduceMul, Nat.reduceLT, Int.reduceLT, Int.reduceLE, Int.reduceToNat, Nat.reduceAdd, Nat.reduceSub, Nat.reduceMul, Nat.reduceLeDiff, reduceCtorEq]))
theorem iranks_bad (x : Nat) (p : Pol) (h : AHeap) (e : p.ierr ≠ 0) : PureA Try.prog 18 [.ptr x 0, .agg p.av] h (.tup [.nils, .int .i64 p.ierr]) := by
  have e' : decide (p.ierr = 0) = false := decide_eq_false e
  (refine PureA.enter (ac := c18) (rs := r18) Try.func18 rfl (by decide) c18_ok r18_ok ?_; intro Q hQ; simp only [go_sem, Int.reduceEq, Int.reduceAdd, Int.reduceSub, Int.reduceMul, Nat.reduceLT, Int.reduceLT, Int.reduceLE, Int.reduceToNat, Nat.reduceAdd, Nat.reduceSub, Nat.reduceMul, Nat.reduceLeDiff, reduceCtorEq, c18, Try.ntmps18, Pol.av])
  refine (icheck_spec x p _).use ?_
  simp only [go_sem, Int.reduceEq, Int.reduceAdd, Int.reduceSub, Int.reduceMul, Nat.reduceLT, Int.reduceLT, Int.reduceLE, Int.reduceToNat, Nat.reduceAdd, Nat.reduceSub, Nat.reduceMul, Nat.reduceLeDiff, reduceCtorEq, e']
  (refine hQ _ _ _ _ _ (by first | exact .inr rfl | exact .inl rfl) rfl (by first | exact FzH.refl _ | exact FzH.sub (by (repeat' (first | exact Sub.refl _ | assumption | (refine Sub.upd ?_ (by first | assumption | (simp only [*]; done) | exact Sub.isNone (by assumption) (by assumption) | exact Sub.isNone (by assumption) (by simp only [*]))))))) (FzL.refl _ _ _) ?_; try (simp only [go_sem, Int.reduceEq, Int.reduceAdd, Int.reduceSub, Int.reduceMul, Nat.reduceLT, Int.reduceLT, Int.reduceLE, Int.reduceToNat, Nat.reduceAdd, Nat.reduceSub, Nat.reduceMul, Nat.reduceLeDiff, reduceCtorEq]))

theorem HIn.poke {q : Nat} {c : Int} {l : List Jb} {h0 H : AHeap} (i : HIn q c l h0 H) {x : Nat} {p o : AObj} (hx : h0 x = some p) : HIn q c l (upd h0 x o) (upd H x o) := by
  obtain ⟨v, H0, g, w, hq, rfl⟩ := i
  have hxq : x ≠ q := by
    rintro rfl
    have := g.keep hx
    rw [this] at hq; cases hq
  refine ⟨v, upd H0 x o, g.poke hx, w, by rw [upd_ne (Ne.symm hxq)]; exact hq, ?_⟩
  rw [upd_comm (Ne.symm hxq)]

theorem own_rd {L : List Int} {H : AHeap} {P n : Nat} (hP : H P = some (.cells (cat i1 L) n)) {k : Nat} (hk : k < L.length) : (cat i1 L)[k]? = some (.int .i64 (rk L k)) := by
  have := cat_get0 i1_len (by omega) hk
  rw [Nat.mul_one] at this
  rw [this, rk_at hk]; rfl

theorem pfit {p : Pol} (he : p.ierr = 0) : okFn p.zf p.zs = true ∧ isLeast p.least = true ∧ p.err = 0 ∧ p.code = 0 := by
  have h1 : p.err = 0 := by
    unfold Pol.ierr at he
    by_cases g : p.err = 0
    · exact g
    · rw [if_pos g] at he; exact absurd he g
  have h2 : p.code = 0 := by
    unfold Pol.ierr at he
    rw [if_neg (fun x => x h1)] at he
    by_cases g : p.code = 0
    · exact g
    · rw [if_pos g] at he; cases he
  have h3 : p.fn = 0 := by
    unfold Pol.err at h1
    split at h1
    · cases h1
    · exact h1
  refine ⟨?_, ?_, h1, h2⟩
  · unfold Pol.fn at h3
    rw [if_pos h2] at h3
    by_cases g : okFn p.zf p.zs = true
    · exact g
    · rw [if_neg g] at h3; cases h3
  · unfold Pol.err at h1
    by_cases g : (isLeast p.least && inRank p.inc) = true
    · simp only [Bool.and_eq_true] at g; exact g.1
    · rw [if_pos ⟨h3, g⟩] at h1; cases h1

/-- The step of a policy over links. -/
def pstep (p : Pol) (f : Lk) : Nat → Int → Nat → Int := byS p.zf p.zs p.least f

theorem pstep_ok {p : Pol} (he : p.ierr = 0) (N : Nat) (f : Lk) : Step2 N (pstep p f) := by
  obtain ⟨h1, h2, _, _⟩ := pfit he
  exact byS_ok fun c => incN_pos h1 h2

end Go.Proofs.Ytaeppifdbcoipaa
