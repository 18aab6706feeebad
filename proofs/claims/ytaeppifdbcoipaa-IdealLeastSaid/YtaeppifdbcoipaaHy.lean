/-
  The objective function of layer 16: contracts.
-/
import Derived.Test.YtaeppifdbcoipaaZe
namespace Go.Proofs.Ytaeppifdbcoipaa
open Go E
set_option linter.unusedVariables false
set_option linter.unusedSimpArgs false
set_option maxRecDepth 100000

structure HF where
  ml : Int
  mp : Int
  th : Int
  pa : Int
def HF.av (f : HF) : List AV := [.int .i64 f.ml, .int .i64 f.mp, .int .i64 f.th, .int .i64 f.pa]

theorem finite_spec (n m : Int) (h : AHeap) : PureA Try.prog 86 [.int .i64 n, .int .i64 m] h (.bool (decide (m ≤ n) && decide (n < 65535))) := by
  (refine PureA.enter (ac := c86) (rs := r86) Try.func86 rfl (by decide) c86_ok r86_ok ?_; intro Q hQ; simp only [go_sem, Int.reduceEq, Int.reduceAdd, Int.reduceSub, Int.reduceMul, Nat.reduceLT, Int.reduceLT, Int.reduceLE, Int.reduceToNat, Nat.reduceAdd, Nat.reduceSub, Nat.reduceMul, Nat.reduceLeDiff, reduceCtorEq, c86, Try.ntmps86])
  cases g : decide (m ≤ n)
  · simp only [go_sem, Int.reduceEq, Int.reduceAdd, Int.reduceSub, Int.reduceMul, Nat.reduceLT, Int.reduceLT, Int.reduceLE, Int.reduceToNat, Nat.reduceAdd, Nat.reduceSub, Nat.reduceMul, Nat.reduceLeDiff, reduceCtorEq, g]
    (refine hQ _ _ _ _ _ (by first | exact .inr rfl | exact .inl rfl) rfl (by first | exact FzH.refl _ | exact FzH.sub (by (repeat' (first | exact Sub.refl _ | assumption | (refine Sub.upd ?_ (by first | assumption | (simp only [*]; done) | exact Sub.isNone (by assumption) (by assumption) | exact Sub.isNone (by assumption) (by simp only [*]))))))) (FzL.refl _ _ _) ?_; try (simp only [go_sem, Int.reduceEq, Int.reduceAdd, Int.reduceSub, Int.reduceMul, Nat.reduceLT, Int.reduceLT, Int.reduceLE, Int.reduceToNat, Nat.reduceAdd, Nat.reduceSub, Nat.reduceMul, Nat.reduceLeDiff, reduceCtorEq, g, Bool.false_and]))
  · simp only [go_sem, Int.reduceEq, Int.reduceAdd, Int.reduceSub, Int.reduceMul, Nat.reduceLT, Int.reduceLT, Int.reduceLE, Int.reduceToNat, Nat.reduceAdd, Nat.reduceSub, Nat.reduceMul, Nat.reduceLeDiff, reduceCtorEq, g]
    (refine hQ _ _ _ _ _ (by first | exact .inr rfl | exact .inl rfl) rfl (by first | exact FzH.refl _ | exact FzH.sub (by (repeat' (first | exact Sub.refl _ | assumption | (refine Sub.upd ?_ (by first | assumption | (simp only [*]; done) | exact Sub.isNone (by assumption) (by assumption) | exact Sub.isNone (by assumption) (by simp only [*]))))))) (FzL.refl _ _ _) ?_; try (simp only [go_sem, Int.reduceEq, Int.reduceAdd, Int.reduceSub, Int.reduceMul, Nat.reduceLT, Int.reduceLT, Int.reduceLE, Int.reduceToNat, Nat.reduceAdd, Nat.reduceSub, Nat.reduceMul, Nat.reduceLeDiff, reduceCtorEq, g]))

def HF.good (f : HF) : Bool := decide (128 ≤ f.ml ∧ f.ml ≤ 65534 ∧ 0 ≤ f.mp ∧ f.mp ≤ 65534 ∧ 0 ≤ f.th ∧ f.th ≤ 65535 ∧ 1 ≤ f.pa ∧ f.pa ≤ 8)
theorem HF.good_iff {f : HF} : f.good = true ↔ (128 ≤ f.ml ∧ f.ml ≤ 65534 ∧ 0 ≤ f.mp ∧ f.mp ≤ 65534 ∧ 0 ≤ f.th ∧ f.th ≤ 65535 ∧ 1 ≤ f.pa ∧ f.pa ≤ 8) := decide_eq_true_iff

theorem hcheck_spec (f : HF) (h : AHeap) : PureA Try.prog 32 [.agg f.av] h (.int .i64 (if f.good then 0 else 1)) := by
  have bad : ¬ (128 ≤ f.ml ∧ f.ml ≤ 65534 ∧ 0 ≤ f.mp ∧ f.mp ≤ 65534 ∧ 0 ≤ f.th ∧ f.th ≤ 65535 ∧ 1 ≤ f.pa ∧ f.pa ≤ 8) → f.good = false := fun e => decide_eq_false e
  (refine PureA.enter (ac := c32) (rs := r32) Try.func32 rfl (by decide) c32_ok r32_ok ?_; intro Q hQ; simp only [go_sem, Int.reduceEq, Int.reduceAdd, Int.reduceSub, Int.reduceMul, Nat.reduceLT, Int.reduceLT, Int.reduceLE, Int.reduceToNat, Nat.reduceAdd, Nat.reduceSub, Nat.reduceMul, Nat.reduceLeDiff, reduceCtorEq, c32, Try.ntmps32, HF.av])
  refine (finite_spec f.ml 128 _).use ?_
  cases g1 : (decide (128 ≤ f.ml) && decide (f.ml < 65535))
  · have e := bad (by simp at g1; omega)
    simp only [go_sem, Int.reduceEq, Int.reduceAdd, Int.reduceSub, Int.reduceMul, Nat.reduceLT, Int.reduceLT, Int.reduceLE, Int.reduceToNat, Nat.reduceAdd, Nat.reduceSub, Nat.reduceMul, Nat.reduceLeDiff, reduceCtorEq]
    (refine hQ _ _ _ _ _ (by first | exact .inr rfl | exact .inl rfl) rfl (by first | exact FzH.refl _ | exact FzH.sub (by (repeat' (first | exact Sub.refl _ | assumption | (refine Sub.upd ?_ (by first | assumption | (simp only [*]; done) | exact Sub.isNone (by assumption) (by assumption) | exact Sub.isNone (by assumption) (by simp only [*]))))))) (FzL.refl _ _ _) ?_; try (simp only [go_sem, Int.reduceEq, Int.reduceAdd, Int.reduceSub, Int.reduceMul, Nat.reduceLT, Int.reduceLT, Int.reduceLE, Int.reduceToNat, Nat.reduceAdd, Nat.reduceSub, Nat.reduceMul, Nat.reduceLeDiff, reduceCtorEq, e]))
  simp only [go_sem, Int.reduceEq, Int.reduceAdd, Int.reduceSub, Int.reduceMul, Nat.reduceLT, Int.reduceLT, Int.reduceLE, Int.reduceToNat, Nat.reduceAdd, Nat.reduceSub, Nat.reduceMul, Nat.reduceLeDiff, reduceCtorEq]
  refine (finite_spec f.mp 0 _).use ?_
  cases g2 : (decide (0 ≤ f.mp) && decide (f.mp < 65535))
  · have e := bad (by simp at g2; omega)
    simp only [go_sem, Int.reduceEq, Int.reduceAdd, Int.reduceSub, Int.reduceMul, Nat.reduceLT, Int.reduceLT, Int.reduceLE, Int.reduceToNat, Nat.reduceAdd, Nat.reduceSub, Nat.reduceMul, Nat.reduceLeDiff, reduceCtorEq]
    (refine hQ _ _ _ _ _ (by first | exact .inr rfl | exact .inl rfl) rfl (by first | exact FzH.refl _ | exact FzH.sub (by (repeat' (first | exact Sub.refl _ | assumption | (refine Sub.upd ?_ (by first | assumption | (simp only [*]; done) | exact Sub.isNone (by assumption) (by assumption) | exact Sub.isNone (by assumption) (by simp only [*]))))))) (FzL.refl _ _ _) ?_; try (simp only [go_sem, Int.reduceEq, Int.reduceAdd, Int.reduceSub, Int.reduceMul, Nat.reduceLT, Int.reduceLT, Int.reduceLE, Int.reduceToNat, Nat.reduceAdd, Nat.reduceSub, Nat.reduceMul, Nat.reduceLeDiff, reduceCtorEq, e]))
  simp only [go_sem, Int.reduceEq, Int.reduceAdd, Int.reduceSub, Int.reduceMul, Nat.reduceLT, Int.reduceLT, Int.reduceLE, Int.reduceToNat, Nat.reduceAdd, Nat.reduceSub, Nat.reduceMul, Nat.reduceLeDiff, reduceCtorEq]
  refine (valid1 f.th _ _).use ?_
  cases g3 : inRank f.th
  · have e := bad (by simp [inRank] at g3; omega)
    simp only [go_sem, Int.reduceEq, Int.reduceAdd, Int.reduceSub, Int.reduceMul, Nat.reduceLT, Int.reduceLT, Int.reduceLE, Int.reduceToNat, Nat.reduceAdd, Nat.reduceSub, Nat.reduceMul, Nat.reduceLeDiff, reduceCtorEq]
    (refine hQ _ _ _ _ _ (by first | exact .inr rfl | exact .inl rfl) rfl (by first | exact FzH.refl _ | exact FzH.sub (by (repeat' (first | exact Sub.refl _ | assumption | (refine Sub.upd ?_ (by first | assumption | (simp only [*]; done) | exact Sub.isNone (by assumption) (by assumption) | exact Sub.isNone (by assumption) (by simp only [*]))))))) (FzL.refl _ _ _) ?_; try (simp only [go_sem, Int.reduceEq, Int.reduceAdd, Int.reduceSub, Int.reduceMul, Nat.reduceLT, Int.reduceLT, Int.reduceLE, Int.reduceToNat, Nat.reduceAdd, Nat.reduceSub, Nat.reduceMul, Nat.reduceLeDiff, reduceCtorEq, e]))
  simp only [go_sem, Int.reduceEq, Int.reduceAdd, Int.reduceSub, Int.reduceMul, Nat.reduceLT, Int.reduceLT, Int.reduceLE, Int.reduceToNat, Nat.reduceAdd, Nat.reduceSub, Nat.reduceMul, Nat.reduceLeDiff, reduceCtorEq]
  by_cases g4 : f.pa < 1
  · have e := bad (by omega)
    simp only [go_sem, Int.reduceEq, Int.reduceAdd, Int.reduceSub, Int.reduceMul, Nat.reduceLT, Int.reduceLT, Int.reduceLE, Int.reduceToNat, Nat.reduceAdd, Nat.reduceSub, Nat.reduceMul, Nat.reduceLeDiff, reduceCtorEq, g4]
    (refine hQ _ _ _ _ _ (by first | exact .inr rfl | exact .inl rfl) rfl (by first | exact FzH.refl _ | exact FzH.sub (by (repeat' (first | exact Sub.refl _ | assumption | (refine Sub.upd ?_ (by first | assumption | (simp only [*]; done) | exact Sub.isNone (by assumption) (by assumption) | exact Sub.isNone (by assumption) (by simp only [*]))))))) (FzL.refl _ _ _) ?_; try (simp only [go_sem, Int.reduceEq, Int.reduceAdd, Int.reduceSub, Int.reduceMul, Nat.reduceLT, Int.reduceLT, Int.reduceLE, Int.reduceToNat, Nat.reduceAdd, Nat.reduceSub, Nat.reduceMul, Nat.reduceLeDiff, reduceCtorEq, e]))
  by_cases g5 : 8 < f.pa
  · have e := bad (by omega)
    simp only [go_sem, Int.reduceEq, Int.reduceAdd, Int.reduceSub, Int.reduceMul, Nat.reduceLT, Int.reduceLT, Int.reduceLE, Int.reduceToNat, Nat.reduceAdd, Nat.reduceSub, Nat.reduceMul, Nat.reduceLeDiff, reduceCtorEq, g4, g5]
    (refine hQ _ _ _ _ _ (by first | exact .inr rfl | exact .inl rfl) rfl (by first | exact FzH.refl _ | exact FzH.sub (by (repeat' (first | exact Sub.refl _ | assumption | (refine Sub.upd ?_ (by first | assumption | (simp only [*]; done) | exact Sub.isNone (by assumption) (by assumption) | exact Sub.isNone (by assumption) (by simp only [*]))))))) (FzL.refl _ _ _) ?_; try (simp only [go_sem, Int.reduceEq, Int.reduceAdd, Int.reduceSub, Int.reduceMul, Nat.reduceLT, Int.reduceLT, Int.reduceLE, Int.reduceToNat, Nat.reduceAdd, Nat.reduceSub, Nat.reduceMul, Nat.reduceLeDiff, reduceCtorEq, e]))
  · have e : f.good = true := HF.good_iff.2 (by simp [inRank] at g1 g2 g3; omega)
    simp only [go_sem, Int.reduceEq, Int.reduceAdd, Int.reduceSub, Int.reduceMul, Nat.reduceLT, Int.reduceLT, Int.reduceLE, Int.reduceToNat, Nat.reduceAdd, Nat.reduceSub, Nat.reduceMul, Nat.reduceLeDiff, reduceCtorEq, g4, g5]
    (refine hQ _ _ _ _ _ (by first | exact .inr rfl | exact .inl rfl) rfl (by first | exact FzH.refl _ | exact FzH.sub (by (repeat' (first | exact Sub.refl _ | assumption | (refine Sub.upd ?_ (by first | assumption | (simp only [*]; done) | exact Sub.isNone (by assumption) (by assumption) | exact Sub.isNone (by assumption) (by simp only [*]))))))) (FzL.refl _ _ _) ?_; try (simp only [go_sem, Int.reduceEq, Int.reduceAdd, Int.reduceSub, Int.reduceMul, Nat.reduceLT, Int.reduceLT, Int.reduceLE, Int.reduceToNat, Nat.reduceAdd, Nat.reduceSub, Nat.reduceMul, Nat.reduceLeDiff, reduceCtorEq, e]))

def pathN (f : HF) (c : Cd) : Int := if f.ml < c.k ∨ f.mp < min (c.r + c.k) 65535 then 65535 else min (c.r + c.k) 65535

theorem path_spec (f : HF) (c : Cd) (ho : oneB c = true) (h : AHeap) : PureA Try.prog 85 [.agg f.av, .agg (encC c)] h (.int .i64 (pathN f c)) := by
  have hc := oneB_iff.1 ho
  (refine PureA.enter (ac := c85) (rs := r85) Try.func85 rfl (by decide) c85_ok r85_ok ?_; intro Q hQ; simp only [go_sem, Int.reduceEq, Int.reduceAdd, Int.reduceSub, Int.reduceMul, Nat.reduceLT, Int.reduceLT, Int.reduceLE, Int.reduceToNat, Nat.reduceAdd, Nat.reduceSub, Nat.reduceMul, Nat.reduceLeDiff, reduceCtorEq, c85, Try.ntmps85, HF.av, encC])
  refine (add_spec c.r c.k _ _ (by omega)).use ?_
  have oa : okAdd c.r c.k = true := by simp [okAdd, inRank]; omega
  by_cases g1 : f.ml < c.k
  · simp only [go_sem, Int.reduceEq, Int.reduceAdd, Int.reduceSub, Int.reduceMul, Nat.reduceLT, Int.reduceLT, Int.reduceLE, Int.reduceToNat, Nat.reduceAdd, Nat.reduceSub, Nat.reduceMul, Nat.reduceLeDiff, reduceCtorEq, oa, g1]
    (refine hQ _ _ _ _ _ (by first | exact .inr rfl | exact .inl rfl) rfl (by first | exact FzH.refl _ | exact FzH.sub (by (repeat' (first | exact Sub.refl _ | assumption | (refine Sub.upd ?_ (by first | assumption | (simp only [*]; done) | exact Sub.isNone (by assumption) (by assumption) | exact Sub.isNone (by assumption) (by simp only [*]))))))) (FzL.refl _ _ _) ?_; try (simp only [go_sem, Int.reduceEq, Int.reduceAdd, Int.reduceSub, Int.reduceMul, Nat.reduceLT, Int.reduceLT, Int.reduceLE, Int.reduceToNat, Nat.reduceAdd, Nat.reduceSub, Nat.reduceMul, Nat.reduceLeDiff, reduceCtorEq, pathN, g1, true_or]))
  by_cases g2 : f.mp < min (c.r + c.k) 65535
  · simp only [go_sem, Int.reduceEq, Int.reduceAdd, Int.reduceSub, Int.reduceMul, Nat.reduceLT, Int.reduceLT, Int.reduceLE, Int.reduceToNat, Nat.reduceAdd, Nat.reduceSub, Nat.reduceMul, Nat.reduceLeDiff, reduceCtorEq, oa, g1, g2]
    (refine hQ _ _ _ _ _ (by first | exact .inr rfl | exact .inl rfl) rfl (by first | exact FzH.refl _ | exact FzH.sub (by (repeat' (first | exact Sub.refl _ | assumption | (refine Sub.upd ?_ (by first | assumption | (simp only [*]; done) | exact Sub.isNone (by assumption) (by assumption) | exact Sub.isNone (by assumption) (by simp only [*]))))))) (FzL.refl _ _ _) ?_; try (simp only [go_sem, Int.reduceEq, Int.reduceAdd, Int.reduceSub, Int.reduceMul, Nat.reduceLT, Int.reduceLT, Int.reduceLE, Int.reduceToNat, Nat.reduceAdd, Nat.reduceSub, Nat.reduceMul, Nat.reduceLeDiff, reduceCtorEq, pathN, g1, g2, or_true]))
  · simp only [go_sem, Int.reduceEq, Int.reduceAdd, Int.reduceSub, Int.reduceMul, Nat.reduceLT, Int.reduceLT, Int.reduceLE, Int.reduceToNat, Nat.reduceAdd, Nat.reduceSub, Nat.reduceMul, Nat.reduceLeDiff, reduceCtorEq, oa, g1, g2]
    (refine hQ _ _ _ _ _ (by first | exact .inr rfl | exact .inl rfl) rfl (by first | exact FzH.refl _ | exact FzH.sub (by (repeat' (first | exact Sub.refl _ | assumption | (refine Sub.upd ?_ (by first | assumption | (simp only [*]; done) | exact Sub.isNone (by assumption) (by assumption) | exact Sub.isNone (by assumption) (by simp only [*]))))))) (FzL.refl _ _ _) ?_; try (simp only [go_sem, Int.reduceEq, Int.reduceAdd, Int.reduceSub, Int.reduceMul, Nat.reduceLT, Int.reduceLT, Int.reduceLE, Int.reduceToNat, Nat.reduceAdd, Nat.reduceSub, Nat.reduceMul, Nat.reduceLeDiff, reduceCtorEq, pathN, g1, g2, or_false]))

theorem bigpath_spec (f : HF) (c : Cd) (h : AHeap) : PureA Try.prog 31 [.agg f.av, .agg (encC c)] h (.tup [.int .i64 (if f.good && oneB c then pathN f c else 0), .int .i64 (if f.good && oneB c then 0 else 1)]) := by
  (refine PureA.enter (ac := c31) (rs := r31) Try.func31 rfl (by decide) c31_ok r31_ok ?_; intro Q hQ; simp only [go_sem, Int.reduceEq, Int.reduceAdd, Int.reduceSub, Int.reduceMul, Nat.reduceLT, Int.reduceLT, Int.reduceLE, Int.reduceToNat, Nat.reduceAdd, Nat.reduceSub, Nat.reduceMul, Nat.reduceLeDiff, reduceCtorEq, c31, Try.ntmps31])
  refine (hcheck_spec f _).use ?_
  cases g1 : f.good
  · simp only [go_sem, Int.reduceEq, Int.reduceAdd, Int.reduceSub, Int.reduceMul, Nat.reduceLT, Int.reduceLT, Int.reduceLE, Int.reduceToNat, Nat.reduceAdd, Nat.reduceSub, Nat.reduceMul, Nat.reduceLeDiff, reduceCtorEq, show decide ((1 : Int) = 0) = false from rfl]
    (refine hQ _ _ _ _ _ (by first | exact .inr rfl | exact .inl rfl) rfl (by first | exact FzH.refl _ | exact FzH.sub (by (repeat' (first | exact Sub.refl _ | assumption | (refine Sub.upd ?_ (by first | assumption | (simp only [*]; done) | exact Sub.isNone (by assumption) (by assumption) | exact Sub.isNone (by assumption) (by simp only [*]))))))) (FzL.refl _ _ _) ?_; try (simp only [go_sem, Int.reduceEq, Int.reduceAdd, Int.reduceSub, Int.reduceMul, Nat.reduceLT, Int.reduceLT, Int.reduceLE, Int.reduceToNat, Nat.reduceAdd, Nat.reduceSub, Nat.reduceMul, Nat.reduceLeDiff, reduceCtorEq, g1, Bool.false_and]))
  simp only [go_sem, Int.reduceEq, Int.reduceAdd, Int.reduceSub, Int.reduceMul, Nat.reduceLT, Int.reduceLT, Int.reduceLE, Int.reduceToNat, Nat.reduceAdd, Nat.reduceSub, Nat.reduceMul, Nat.reduceLeDiff, reduceCtorEq, encC_len, HF.av]
  refine (zright1 c _ _).use ?_
  cases g2 : oneB c
  · simp only [go_sem, Int.reduceEq, Int.reduceAdd, Int.reduceSub, Int.reduceMul, Nat.reduceLT, Int.reduceLT, Int.reduceLE, Int.reduceToNat, Nat.reduceAdd, Nat.reduceSub, Nat.reduceMul, Nat.reduceLeDiff, reduceCtorEq]
    (refine hQ _ _ _ _ _ (by first | exact .inr rfl | exact .inl rfl) rfl (by first | exact FzH.refl _ | exact FzH.sub (by (repeat' (first | exact Sub.refl _ | assumption | (refine Sub.upd ?_ (by first | assumption | (simp only [*]; done) | exact Sub.isNone (by assumption) (by assumption) | exact Sub.isNone (by assumption) (by simp only [*]))))))) (FzL.refl _ _ _) ?_; try (simp only [go_sem, Int.reduceEq, Int.reduceAdd, Int.reduceSub, Int.reduceMul, Nat.reduceLT, Int.reduceLT, Int.reduceLE, Int.reduceToNat, Nat.reduceAdd, Nat.reduceSub, Nat.reduceMul, Nat.reduceLeDiff, reduceCtorEq, g1, g2, Bool.and_false]))
  simp only [go_sem, Int.reduceEq, Int.reduceAdd, Int.reduceSub, Int.reduceMul, Nat.reduceLT, Int.reduceLT, Int.reduceLE, Int.reduceToNat, Nat.reduceAdd, Nat.reduceSub, Nat.reduceMul, Nat.reduceLeDiff, reduceCtorEq]
  refine (path_spec f c g2 _).use ?_
  simp only [go_sem, Int.reduceEq, Int.reduceAdd, Int.reduceSub, Int.reduceMul, Nat.reduceLT, Int.reduceLT, Int.reduceLE, Int.reduceToNat, Nat.reduceAdd, Nat.reduceSub, Nat.reduceMul, Nat.reduceLeDiff, reduceCtorEq]
  (refine hQ _ _ _ _ _ (by first | exact .inr rfl | exact .inl rfl) rfl (by first | exact FzH.refl _ | exact FzH.sub (by (repeat' (first | exact Sub.refl _ | assumption | (refine Sub.upd ?_ (by first | assumption | (simp only [*]; done) | exact Sub.isNone (by assumption) (by assumption) | exact Sub.isNone (by assumption) (by simp only [*]))))))) (FzL.refl _ _ _) ?_; try (simp only [go_sem, Int.reduceEq, Int.reduceAdd, Int.reduceSub, Int.reduceMul, Nat.reduceLT, Int.reduceLT, Int.reduceLE, Int.reduceToNat, Nat.reduceAdd, Nat.reduceSub, Nat.reduceMul, Nat.reduceLeDiff, reduceCtorEq, g1, g2]))

def shC (a b : Off) : Int := or0 [cmpI a.v b.v, cmpI a.c.n b.c.n]

theorem shorter_spec (a b : Off) (h : AHeap) : PureA Try.prog 139 [.agg (encO a), .agg (encO b)] h (.int .i64 (shC a b)) := by
  (refine PureA.enter (ac := c139) (rs := r139) Try.func139 rfl (by decide) c139_ok r139_ok ?_; intro Q hQ; simp only [go_sem, Int.reduceEq, Int.reduceAdd, Int.reduceSub, Int.reduceMul, Nat.reduceLT, Int.reduceLT, Int.reduceLE, Int.reduceToNat, Nat.reduceAdd, Nat.reduceSub, Nat.reduceMul, Nat.reduceLeDiff, reduceCtorEq, c139, Try.ntmps139, encO])
  refine (cmp_spec a.v b.v _).use ?_
  simp only [go_sem, Int.reduceEq, Int.reduceAdd, Int.reduceSub, Int.reduceMul, Nat.reduceLT, Int.reduceLT, Int.reduceLE, Int.reduceToNat, Nat.reduceAdd, Nat.reduceSub, Nat.reduceMul, Nat.reduceLeDiff, reduceCtorEq]
  refine (cmp_spec a.c.n b.c.n _).use ?_
  simp only [go_sem, Int.reduceEq, Int.reduceAdd, Int.reduceSub, Int.reduceMul, Nat.reduceLT, Int.reduceLT, Int.reduceLE, Int.reduceToNat, Nat.reduceAdd, Nat.reduceSub, Nat.reduceMul, Nat.reduceLeDiff, reduceCtorEq]
  refine (or_spec [cmpI a.v b.v, cmpI a.c.n b.c.n] _ _ (by simp)).use ?_
  simp only [go_sem, Int.reduceEq, Int.reduceAdd, Int.reduceSub, Int.reduceMul, Nat.reduceLT, Int.reduceLT, Int.reduceLE, Int.reduceToNat, Nat.reduceAdd, Nat.reduceSub, Nat.reduceMul, Nat.reduceLeDiff, reduceCtorEq]
  (refine hQ _ _ _ _ _ (by first | exact .inr rfl | exact .inl rfl) rfl (by first | exact FzH.refl _ | exact FzH.sub (by (repeat' (first | exact Sub.refl _ | assumption | (refine Sub.upd ?_ (by first | assumption | (simp only [*]; done) | exact Sub.isNone (by assumption) (by assumption) | exact Sub.isNone (by assumption) (by simp only [*]))))))) (FzL.refl _ _ _) ?_; try (simp only [go_sem, Int.reduceEq, Int.reduceAdd, Int.reduceSub, Int.reduceMul, Nat.reduceLT, Int.reduceLT, Int.reduceLE, Int.reduceToNat, Nat.reduceAdd, Nat.reduceSub, Nat.reduceMul, Nat.reduceLeDiff, reduceCtorEq, shC]))

def waysL (f : HF) (l : List Cd) : List Off := l.filterMap fun c => if pathN f c = 65535 then none else some ⟨c, pathN f c⟩
theorem waysL_len (f : HF) (l : List Cd) : (waysL f l).length ≤ l.length := List.length_filterMap_le _ _
theorem waysL_snoc (f : HF) (l : List Cd) (c : Cd) : waysL f (l ++ [c]) = waysL f l ++ (if pathN f c = 65535 then [] else [⟨c, pathN f c⟩]) := by
  simp only [waysL, List.filterMap_append, List.filterMap_cons, List.filterMap_nil]
  split <;> simp_all

theorem ways_spec (f : HF) (l : List Cd) (ex : Bool) (h : AHeap) (hl : l.all oneB = true) (hn : l.length ≤ 12) :
    PureA Try.prog 89 [.agg f.av, .ro (cat encC l) l.length ex] h (.ro (cat encO (isort shC (waysL f l))) (waysL f l).length false) := by
  refine Grow.pure (esz := 4) ?_
  (refine CallsA.enterR (ac := c89) (rs := r89) Try.func89 rfl (by decide) c89_ok r89_ok ?_; intro Q hQ; simp only [go_sem, Int.reduceEq, Int.reduceAdd, Int.reduceSub, Int.reduceMul, Nat.reduceLT, Int.reduceLT, Int.reduceLE, Int.reduceToNat, Nat.reduceAdd, Nat.reduceSub, Nat.reduceMul, Nat.reduceLeDiff, reduceCtorEq, c89, Try.ntmps89, HF.av])
  refine loop_st d89_0 (fun x : Nat × AV => l.length - x.1) (fun x s => (s.set 5 x.2).set 11 (.int .i64 (x.1 : Int))) (fun x H => x.1 ≤ l.length ∧ Grow h 4 x.2 (cat encO (waysL f (l.take x.1))) (waysL f (l.take x.1)).length H ∧ Wr x.2) (0, .nils) ?_ ⟨Nat.zero_le _, Grow.nil, Wr.nils⟩ ?_
  · (simp only [go_sem, Int.reduceEq, Int.reduceAdd, Int.reduceSub, Int.reduceMul, Nat.reduceLT, Int.reduceLT, Int.reduceLE, Int.reduceToNat, Nat.reduceAdd, Nat.reduceSub, Nat.reduceMul, Nat.reduceLeDiff, reduceCtorEq, d89_0] <;> rfl)
  rintro N ⟨k, v⟩ H ⟨hk, g, hw⟩ hN
  simp only at hk g hw
  simp only [go_sem, Int.reduceEq, Int.reduceAdd, Int.reduceSub, Int.reduceMul, Nat.reduceLT, Int.reduceLT, Int.reduceLE, Int.reduceToNat, Nat.reduceAdd, Nat.reduceSub, Nat.reduceMul, Nat.reduceLeDiff, reduceCtorEq, d89_0]
  have hadd := wadd1 (k := k) (by omega)
  by_cases hlt : k < l.length
  · have hsn := waysL_snoc f (l.take k) l[k]
    rw [← List.take_succ_eq_append_getElem hlt] at hsn
    have hone : oneB l[k] = true := List.all_eq_true.1 hl _ (List.getElem_mem hlt)
    have hwl := waysL_len f (l.take k)
    rw [List.length_take] at hwl
    simp only [go_sem, Int.reduceEq, Int.reduceAdd, Int.reduceSub, Int.reduceMul, Nat.reduceLT, Int.reduceLT, Int.reduceLE, Int.reduceToNat, Nat.reduceAdd, Nat.reduceSub, Nat.reduceMul, Nat.reduceLeDiff, reduceCtorEq, hlt, hadd, rd_all encC_len hlt, encC_len, encC_sca]
    intro p hp
    simp only [go_sem, Int.reduceEq, Int.reduceAdd, Int.reduceSub, Int.reduceMul, Nat.reduceLT, Int.reduceLT, Int.reduceLE, Int.reduceToNat, Nat.reduceAdd, Nat.reduceSub, Nat.reduceMul, Nat.reduceLeDiff, reduceCtorEq, del_same, del_none hp, HF.av, encC_len, rd_all encC_len hlt]
    refine (path_spec f l[k] hone _).use ?_
    by_cases hinf : pathN f l[k] = 65535
    · rw [if_pos hinf, List.append_nil] at hsn
      simp only [go_sem, Int.reduceEq, Int.reduceAdd, Int.reduceSub, Int.reduceMul, Nat.reduceLT, Int.reduceLT, Int.reduceLE, Int.reduceToNat, Nat.reduceAdd, Nat.reduceSub, Nat.reduceMul, Nat.reduceLeDiff, reduceCtorEq, hinf, hadd]
      refine hN (k + 1, v) _ _ (by simp only; omega) ?_ ⟨hlt, by rw [hsn]; exact g, hw⟩
      (simp only [go_sem, Int.reduceEq, Int.reduceAdd, Int.reduceSub, Int.reduceMul, Nat.reduceLT, Int.reduceLT, Int.reduceLE, Int.reduceToNat, Nat.reduceAdd, Nat.reduceSub, Nat.reduceMul, Nat.reduceLeDiff, reduceCtorEq, d89_0])
    · have hinf' : decide (pathN f l[k] = 65535) = false := decide_eq_false hinf
      rw [if_neg hinf] at hsn
      simp only [go_sem, Int.reduceEq, Int.reduceAdd, Int.reduceSub, Int.reduceMul, Nat.reduceLT, Int.reduceLT, Int.reduceLE, Int.reduceToNat, Nat.reduceAdd, Nat.reduceSub, Nat.reduceMul, Nat.reduceLeDiff, reduceCtorEq, hinf', encC]
      refine g.add1W (x := encO ⟨l[k], pathN f l[k]⟩) rfl rfl (by omega) fun v' H' g' hw' => ?_
      simp only [go_sem, Int.reduceEq, Int.reduceAdd, Int.reduceSub, Int.reduceMul, Nat.reduceLT, Int.reduceLT, Int.reduceLE, Int.reduceToNat, Nat.reduceAdd, Nat.reduceSub, Nat.reduceMul, Nat.reduceLeDiff, reduceCtorEq, hadd]
      refine hN (k + 1, v') _ _ (by simp only; omega) ?_ ⟨hlt, ?_, hw'⟩
      · simp only [go_sem, Int.reduceEq, Int.reduceAdd, Int.reduceSub, Int.reduceMul, Nat.reduceLT, Int.reduceLT, Int.reduceLE, Int.reduceToNat, Nat.reduceAdd, Nat.reduceSub, Nat.reduceMul, Nat.reduceLeDiff, reduceCtorEq, d89_0]
      · rw [hsn, cat_append, List.length_append]
        exact g'
  · have hk' : k = l.length := by omega
    subst hk'
    rw [List.take_length] at g
    (simp only [go_sem, Int.reduceEq, Int.reduceAdd, Int.reduceSub, Int.reduceMul, Nat.reduceLT, Int.reduceLT, Int.reduceLE, Int.reduceToNat, Nat.reduceAdd, Nat.reduceSub, Nat.reduceMul, Nat.reduceLeDiff, reduceCtorEq, hlt]; refine frz_id ?_; simp only [go_sem, Int.reduceEq, Int.reduceAdd, Int.reduceSub, Int.reduceMul, Nat.reduceLT, Int.reduceLT, Int.reduceLE, Int.reduceToNat, Nat.reduceAdd, Nat.reduceSub, Nat.reduceMul, Nat.reduceLeDiff, reduceCtorEq])
    refine (W_sortG shC (waysL f l) [] 139 h H v _ rfl g hw (Nat.le_trans (waysL_len f l) hn) fun a _ b _ h => shorter_spec a b h).use ?_
    rintro r H' ⟨rfl, g'⟩
    simp only [go_sem, Int.reduceEq, Int.reduceAdd, Int.reduceSub, Int.reduceMul, Nat.reduceLT, Int.reduceLT, Int.reduceLE, Int.reduceToNat, Nat.reduceAdd, Nat.reduceSub, Nat.reduceMul, Nat.reduceLeDiff, reduceCtorEq]
    refine hQ _ _ _ _ _ _ (.inr rfl) rfl (FzH.refl _) (FzL.refl _ _ _) ?_
    simp only [go_sem, Int.reduceEq, Int.reduceAdd, Int.reduceSub, Int.reduceMul, Nat.reduceLT, Int.reduceLT, Int.reduceLE, Int.reduceToNat, Nat.reduceAdd, Nat.reduceSub, Nat.reduceMul, Nat.reduceLeDiff, reduceCtorEq]
    exact g'

theorem way_idx (p : Off → Bool) (l : List (Off)) (ex : Bool) (f : FuncId) (caps : List AV) (h : AHeap) (hn : l.length ≤ 4611686018427387904) (hp : ∀ x ∈ l, PureA Try.prog f ((.agg (encO x)) :: caps) h (.bool (p x))) :
    PureA Try.prog 140 [.ro (cat encO l) l.length ex, .fn f caps] h (.int .i64 (idxP p l)) := by
  (refine PureA.enter (ac := c140) (rs := r140) Try.func140 rfl (by decide) c140_ok r140_ok ?_; intro Q hQ; simp only [go_sem, Int.reduceEq, Int.reduceAdd, Int.reduceSub, Int.reduceMul, Nat.reduceLT, Int.reduceLT, Int.reduceLE, Int.reduceToNat, Nat.reduceAdd, Nat.reduceSub, Nat.reduceMul, Nat.reduceLeDiff, reduceCtorEq, c140, Try.ntmps140])
  refine loop_range d140_0 (l.length) (fun k s => s.set 8 (.int .i64 k)) (fun k h' => ((l.take k).any p = false) ∧ h' = h) ?_ ⟨rfl, rfl⟩ ?_
  · (simp only [go_sem, Int.reduceEq, Int.reduceAdd, Int.reduceSub, Int.reduceMul, Nat.reduceLT, Int.reduceLT, Int.reduceLE, Int.reduceToNat, Nat.reduceAdd, Nat.reduceSub, Nat.reduceMul, Nat.reduceLeDiff, reduceCtorEq, d140_0] <;> rfl)
  rintro N k h' hk ⟨hall, rfl⟩ hN
  simp only [go_sem, Int.reduceEq, Int.reduceAdd, Int.reduceSub, Int.reduceMul, Nat.reduceLT, Int.reduceLT, Int.reduceLE, Int.reduceToNat, Nat.reduceAdd, Nat.reduceSub, Nat.reduceMul, Nat.reduceLeDiff, reduceCtorEq, d140_0]
  have hadd := wadd1 (k := k) (by omega)
  by_cases hlt : k < l.length
  · have ht := take_any hlt hall
    have hh := idx_hit hlt hall
    have hm := hp _ (List.getElem_mem hlt)
    simp only [go_sem, Int.reduceEq, Int.reduceAdd, Int.reduceSub, Int.reduceMul, Nat.reduceLT, Int.reduceLT, Int.reduceLE, Int.reduceToNat, Nat.reduceAdd, Nat.reduceSub, Nat.reduceMul, Nat.reduceLeDiff, reduceCtorEq, hlt, hadd, rd_all encO_len hlt]
    refine hm.use ?_
    repeat' (first | (intro _ hf_; (try simp only [upd_none] at hf_); (try simp only [go_sem, Int.reduceEq, Int.reduceAdd, Int.reduceSub, Int.reduceMul, Nat.reduceLT, Int.reduceLT, Int.reduceLE, Int.reduceToNat, Nat.reduceAdd, Nat.reduceSub, Nat.reduceMul, Nat.reduceLeDiff, reduceCtorEq, upd_ne, ne_eq, not_false_eq_true, *])) | (refine guard_split (fun hb_ => ?_) (fun hb_ => ?_) <;> (try simp only [decide_eq_true_eq, decide_eq_false_iff_not, Bool.not_eq_true', Bool.not_eq_false'] at hb_) <;> (try simp only [go_sem, Int.reduceEq, Int.reduceAdd, Int.reduceSub, Int.reduceMul, Nat.reduceLT, Int.reduceLT, Int.reduceLE, Int.reduceToNat, Nat.reduceAdd, Nat.reduceSub, Nat.reduceMul, Nat.reduceLeDiff, reduceCtorEq, upd_ne, ne_eq, not_false_eq_true, *])) | (refine cond_split (fun hb_ => ?_) (fun hb_ => ?_) <;> (try simp only [decide_eq_true_eq, decide_eq_false_iff_not, Bool.not_eq_true', Bool.not_eq_false'] at hb_) <;> (try simp only [go_sem, Int.reduceEq, Int.reduceAdd, Int.reduceSub, Int.reduceMul, Nat.reduceLT, Int.reduceLT, Int.reduceLE, Int.reduceToNat, Nat.reduceAdd, Nat.reduceSub, Nat.reduceMul, Nat.reduceLeDiff, reduceCtorEq, upd_ne, ne_eq, not_false_eq_true, *])) | (refine readG_split (fun hb_ => ?_) (fun hb_ => ?_) <;> (try simp only [decide_eq_true_eq, decide_eq_false_iff_not, Bool.not_eq_true', Bool.not_eq_false'] at hb_) <;> (try simp only [go_sem, Int.reduceEq, Int.reduceAdd, Int.reduceSub, Int.reduceMul, Nat.reduceLT, Int.reduceLT, Int.reduceLE, Int.reduceToNat, Nat.reduceAdd, Nat.reduceSub, Nat.reduceMul, Nat.reduceLeDiff, reduceCtorEq, upd_ne, ne_eq, not_false_eq_true, *])) | (refine frz_id ?_ <;> (try simp only [go_sem, Int.reduceEq, Int.reduceAdd, Int.reduceSub, Int.reduceMul, Nat.reduceLT, Int.reduceLT, Int.reduceLE, Int.reduceToNat, Nat.reduceAdd, Nat.reduceSub, Nat.reduceMul, Nat.reduceLeDiff, reduceCtorEq, upd_ne, ne_eq, not_false_eq_true, *])))
    · refine hQ _ _ _ _ _ (by first | exact .inr rfl | exact .inl rfl) rfl (by first | exact FzH.refl _ | exact FzH.sub (by (repeat' (first | exact Sub.refl _ | assumption | (refine Sub.upd ?_ (by first | assumption | (simp only [*]; done) | exact Sub.isNone (by assumption) (by assumption) | exact Sub.isNone (by assumption) (by simp only [*]))))))) (FzL.refl _ _ _) ?_
      simp only [go_sem, Int.reduceEq, Int.reduceAdd, Int.reduceSub, Int.reduceMul, Nat.reduceLT, Int.reduceLT, Int.reduceLE, Int.reduceToNat, Nat.reduceAdd, Nat.reduceSub, Nat.reduceMul, Nat.reduceLeDiff, reduceCtorEq, hh (by assumption)]
    · (refine hN _ _ hlt ?_ ⟨?_, rfl⟩; (simp only [go_sem, Int.reduceEq, Int.reduceAdd, Int.reduceSub, Int.reduceMul, Nat.reduceLT, Int.reduceLT, Int.reduceLE, Int.reduceToNat, Nat.reduceAdd, Nat.reduceSub, Nat.reduceMul, Nat.reduceLeDiff, reduceCtorEq, d140_0]))
      rw [ht]; assumption
  · (simp only [go_sem, Int.reduceEq, Int.reduceAdd, Int.reduceSub, Int.reduceMul, Nat.reduceLT, Int.reduceLT, Int.reduceLE, Int.reduceToNat, Nat.reduceAdd, Nat.reduceSub, Nat.reduceMul, Nat.reduceLeDiff, reduceCtorEq, hlt]; refine frz_id ?_; simp only [go_sem, Int.reduceEq, Int.reduceAdd, Int.reduceSub, Int.reduceMul, Nat.reduceLT, Int.reduceLT, Int.reduceLE, Int.reduceToNat, Nat.reduceAdd, Nat.reduceSub, Nat.reduceMul, Nat.reduceLeDiff, reduceCtorEq])
    refine hQ _ _ _ _ _ (by first | exact .inr rfl | exact .inl rfl) rfl (by first | exact FzH.refl _ | exact FzH.sub (by (repeat' (first | exact Sub.refl _ | assumption | (refine Sub.upd ?_ (by first | assumption | (simp only [*]; done) | exact Sub.isNone (by assumption) (by assumption) | exact Sub.isNone (by assumption) (by simp only [*]))))))) (FzL.refl _ _ _) ?_
    rw [List.take_of_length_le (by omega)] at hall
    simp only [go_sem, Int.reduceEq, Int.reduceAdd, Int.reduceSub, Int.reduceMul, Nat.reduceLT, Int.reduceLT, Int.reduceLE, Int.reduceToNat, Nat.reduceAdd, Nat.reduceSub, Nat.reduceMul, Nat.reduceLeDiff, reduceCtorEq, idx_none hall]


theorem hchoosec_spec (o : Off) (now : Int) (h : AHeap) : PureA Try.prog 141 [.agg (encO o), .rp [.int .i64 now]] h (.bool (decide (o.c.n = now))) := by
  (refine PureA.enter (ac := c141) (rs := r141) Try.func141 rfl (by decide) c141_ok r141_ok ?_; intro Q hQ; simp only [go_sem, Int.reduceEq, Int.reduceAdd, Int.reduceSub, Int.reduceMul, Nat.reduceLT, Int.reduceLT, Int.reduceLE, Int.reduceToNat, Nat.reduceAdd, Nat.reduceSub, Nat.reduceMul, Nat.reduceLeDiff, reduceCtorEq, c141, Try.ntmps141, encO])
  (refine hQ _ _ _ _ _ (by first | exact .inr rfl | exact .inl rfl) rfl (by first | exact FzH.refl _ | exact FzH.sub (by (repeat' (first | exact Sub.refl _ | assumption | (refine Sub.upd ?_ (by first | assumption | (simp only [*]; done) | exact Sub.isNone (by assumption) (by assumption) | exact Sub.isNone (by assumption) (by simp only [*]))))))) (FzL.refl _ _ _) ?_; try (simp only [go_sem, Int.reduceEq, Int.reduceAdd, Int.reduceSub, Int.reduceMul, Nat.reduceLT, Int.reduceLT, Int.reduceLE, Int.reduceToNat, Nat.reduceAdd, Nat.reduceSub, Nat.reduceMul, Nat.reduceLeDiff, reduceCtorEq]))

def offAt (l : List Off) (i : Nat) : Off := l.getD i ⟨⟨0, 0, 0⟩, 0⟩
def chooseN (f : HF) (now : Int) (l : List Off) : Nat := match l.findIdx? (fun o => decide (o.c.n = now)) with
  | some i => if (offAt l i).v ≤ (offAt l 0).v + f.th then i else 0
  | none => 0
theorem offAt_get {l : List Off} {i : Nat} (hi : i < l.length) : offAt l i = l[i] := by simp [offAt, hi]

theorem hchoose_spec (f : HF) (hf : f.good = true) (now : Int) (l : List Off) (ex : Bool) (h : AHeap) (hv : ∀ o ∈ l, 0 ≤ o.v ∧ o.v ≤ 65535) (hn : l.length ≤ 4611686018427387904) :
    PureA Try.prog 90 [.agg f.av, .int .i64 now, .ro (cat encO l) l.length ex] h (.int .i64 (chooseN f now l : Nat)) := by
  have hg := HF.good_iff.1 hf
  (refine PureA.enter (ac := c90) (rs := r90) Try.func90 rfl (by decide) c90_ok r90_ok ?_; intro Q hQ; simp only [go_sem, Int.reduceEq, Int.reduceAdd, Int.reduceSub, Int.reduceMul, Nat.reduceLT, Int.reduceLT, Int.reduceLE, Int.reduceToNat, Nat.reduceAdd, Nat.reduceSub, Nat.reduceMul, Nat.reduceLeDiff, reduceCtorEq, c90, Try.ntmps90, HF.av])
  refine (way_idx (fun o => decide (o.c.n = now)) l ex 141 [.rp [.int .i64 now]] h hn fun x hx => hchoosec_spec x now h).use ?_
  cases e : l.findIdx? (fun o => decide (o.c.n = now)) with
  | none =>
    have e1 : idxP (fun o => decide (o.c.n = now)) l = -1 := by unfold idxP; rw [e]; rfl
    have e2 : chooseN f now l = 0 := by unfold chooseN; rw [e]
    simp only [go_sem, Int.reduceEq, Int.reduceAdd, Int.reduceSub, Int.reduceMul, Nat.reduceLT, Int.reduceLT, Int.reduceLE, Int.reduceToNat, Nat.reduceAdd, Nat.reduceSub, Nat.reduceMul, Nat.reduceLeDiff, reduceCtorEq, e1]
    (refine hQ _ _ _ _ _ (by first | exact .inr rfl | exact .inl rfl) rfl (by first | exact FzH.refl _ | exact FzH.sub (by (repeat' (first | exact Sub.refl _ | assumption | (refine Sub.upd ?_ (by first | assumption | (simp only [*]; done) | exact Sub.isNone (by assumption) (by assumption) | exact Sub.isNone (by assumption) (by simp only [*]))))))) (FzL.refl _ _ _) ?_; try (simp only [go_sem, Int.reduceEq, Int.reduceAdd, Int.reduceSub, Int.reduceMul, Nat.reduceLT, Int.reduceLT, Int.reduceLE, Int.reduceToNat, Nat.reduceAdd, Nat.reduceSub, Nat.reduceMul, Nat.reduceLeDiff, reduceCtorEq, e2]))
  | some i =>
    have hi : i < l.length := (List.findIdx?_eq_some_iff_getElem.1 e).1
    have h0 : 0 < l.length := by omega
    have e1 : idxP (fun o => decide (o.c.n = now)) l = (i : Int) := by unfold idxP; rw [e]; rfl
    have h0' : (0 : Int) < (l.length : Int) := by omega
    have hx := hv _ (List.getElem_mem hi)
    have hx0 := hv _ (List.getElem_mem h0)
    have hw : IntKind.i64.wrap (l[0].v + f.th) = l[0].v + f.th := w64 (by omega) (by omega)
    have r0 := rd_cell (h := h) (off := 3) encO_len h0 (by omega)
    have ri := rd_cell (h := h) (off := 3) encO_len hi (by omega)
    simp only [Nat.zero_mul, List.drop_zero] at r0
    simp only [encO, List.getElem?_cons_succ, List.getElem?_cons_zero] at r0 ri
    have e2 : chooseN f now l = if l[i].v ≤ l[0].v + f.th then i else 0 := by unfold chooseN; rw [e]; simp only [offAt_get hi, offAt_get h0]
    by_cases hle : l[i].v ≤ l[0].v + f.th
    · rw [if_pos hle] at e2
      simp only [go_sem, Int.reduceEq, Int.reduceAdd, Int.reduceSub, Int.reduceMul, Nat.reduceLT, Int.reduceLT, Int.reduceLE, Int.reduceToNat, Nat.reduceAdd, Nat.reduceSub, Nat.reduceMul, Nat.reduceLeDiff, reduceCtorEq, e1, h0, h0', hi, r0, ri, hw, hle]
      (refine hQ _ _ _ _ _ (by first | exact .inr rfl | exact .inl rfl) rfl (by first | exact FzH.refl _ | exact FzH.sub (by (repeat' (first | exact Sub.refl _ | assumption | (refine Sub.upd ?_ (by first | assumption | (simp only [*]; done) | exact Sub.isNone (by assumption) (by assumption) | exact Sub.isNone (by assumption) (by simp only [*]))))))) (FzL.refl _ _ _) ?_; try (simp only [go_sem, Int.reduceEq, Int.reduceAdd, Int.reduceSub, Int.reduceMul, Nat.reduceLT, Int.reduceLT, Int.reduceLE, Int.reduceToNat, Nat.reduceAdd, Nat.reduceSub, Nat.reduceMul, Nat.reduceLeDiff, reduceCtorEq, e2]))
    · rw [if_neg hle] at e2
      simp only [go_sem, Int.reduceEq, Int.reduceAdd, Int.reduceSub, Int.reduceMul, Nat.reduceLT, Int.reduceLT, Int.reduceLE, Int.reduceToNat, Nat.reduceAdd, Nat.reduceSub, Nat.reduceMul, Nat.reduceLeDiff, reduceCtorEq, e1, h0, h0', hi, r0, ri, hw, hle]
      (refine hQ _ _ _ _ _ (by first | exact .inr rfl | exact .inl rfl) rfl (by first | exact FzH.refl _ | exact FzH.sub (by (repeat' (first | exact Sub.refl _ | assumption | (refine Sub.upd ?_ (by first | assumption | (simp only [*]; done) | exact Sub.isNone (by assumption) (by assumption) | exact Sub.isNone (by assumption) (by simp only [*]))))))) (FzL.refl _ _ _) ?_; try (simp only [go_sem, Int.reduceEq, Int.reduceAdd, Int.reduceSub, Int.reduceMul, Nat.reduceLT, Int.reduceLT, Int.reduceLE, Int.reduceToNat, Nat.reduceAdd, Nat.reduceSub, Nat.reduceMul, Nat.reduceLeDiff, reduceCtorEq, e2]))

theorem hcheckl_spec (f : HF) (l : List Cd) (ex : Bool) (h : AHeap) (hn : l.length ≤ 4611686018427387904) : PureA Try.prog 88 [.agg f.av, .ro (cat encC l) l.length ex] h (.int .i64 (if f.good && rightL l then 0 else 1)) := by
  (refine PureA.enter (ac := c88) (rs := r88) Try.func88 rfl (by decide) c88_ok r88_ok ?_; intro Q hQ; simp only [go_sem, Int.reduceEq, Int.reduceAdd, Int.reduceSub, Int.reduceMul, Nat.reduceLT, Int.reduceLT, Int.reduceLE, Int.reduceToNat, Nat.reduceAdd, Nat.reduceSub, Nat.reduceMul, Nat.reduceLeDiff, reduceCtorEq, c88, Try.ntmps88, HF.av])
  refine (hcheck_spec f _).use ?_
  cases g : f.good
  · simp only [go_sem, Int.reduceEq, Int.reduceAdd, Int.reduceSub, Int.reduceMul, Nat.reduceLT, Int.reduceLT, Int.reduceLE, Int.reduceToNat, Nat.reduceAdd, Nat.reduceSub, Nat.reduceMul, Nat.reduceLeDiff, reduceCtorEq, show decide ((1 : Int) = 0) = false from rfl]
    (refine hQ _ _ _ _ _ (by first | exact .inr rfl | exact .inl rfl) rfl (by first | exact FzH.refl _ | exact FzH.sub (by (repeat' (first | exact Sub.refl _ | assumption | (refine Sub.upd ?_ (by first | assumption | (simp only [*]; done) | exact Sub.isNone (by assumption) (by assumption) | exact Sub.isNone (by assumption) (by simp only [*]))))))) (FzL.refl _ _ _) ?_; try (simp only [go_sem, Int.reduceEq, Int.reduceAdd, Int.reduceSub, Int.reduceMul, Nat.reduceLT, Int.reduceLT, Int.reduceLE, Int.reduceToNat, Nat.reduceAdd, Nat.reduceSub, Nat.reduceMul, Nat.reduceLeDiff, reduceCtorEq, g, Bool.false_and]))
  simp only [go_sem, Int.reduceEq, Int.reduceAdd, Int.reduceSub, Int.reduceMul, Nat.reduceLT, Int.reduceLT, Int.reduceLE, Int.reduceToNat, Nat.reduceAdd, Nat.reduceSub, Nat.reduceMul, Nat.reduceLeDiff, reduceCtorEq]
  refine (zright_spec l ex _ hn).use ?_
  cases g2 : rightL l
  · simp only [go_sem, Int.reduceEq, Int.reduceAdd, Int.reduceSub, Int.reduceMul, Nat.reduceLT, Int.reduceLT, Int.reduceLE, Int.reduceToNat, Nat.reduceAdd, Nat.reduceSub, Nat.reduceMul, Nat.reduceLeDiff, reduceCtorEq]
    (refine hQ _ _ _ _ _ (by first | exact .inr rfl | exact .inl rfl) rfl (by first | exact FzH.refl _ | exact FzH.sub (by (repeat' (first | exact Sub.refl _ | assumption | (refine Sub.upd ?_ (by first | assumption | (simp only [*]; done) | exact Sub.isNone (by assumption) (by assumption) | exact Sub.isNone (by assumption) (by simp only [*]))))))) (FzL.refl _ _ _) ?_; try (simp only [go_sem, Int.reduceEq, Int.reduceAdd, Int.reduceSub, Int.reduceMul, Nat.reduceLT, Int.reduceLT, Int.reduceLE, Int.reduceToNat, Nat.reduceAdd, Nat.reduceSub, Nat.reduceMul, Nat.reduceLeDiff, reduceCtorEq, g, g2, Bool.and_false]))
  · simp only [go_sem, Int.reduceEq, Int.reduceAdd, Int.reduceSub, Int.reduceMul, Nat.reduceLT, Int.reduceLT, Int.reduceLE, Int.reduceToNat, Nat.reduceAdd, Nat.reduceSub, Nat.reduceMul, Nat.reduceLeDiff, reduceCtorEq]
    (refine hQ _ _ _ _ _ (by first | exact .inr rfl | exact .inl rfl) rfl (by first | exact FzH.refl _ | exact FzH.sub (by (repeat' (first | exact Sub.refl _ | assumption | (refine Sub.upd ?_ (by first | assumption | (simp only [*]; done) | exact Sub.isNone (by assumption) (by assumption) | exact Sub.isNone (by assumption) (by simp only [*]))))))) (FzL.refl _ _ _) ?_; try (simp only [go_sem, Int.reduceEq, Int.reduceAdd, Int.reduceSub, Int.reduceMul, Nat.reduceLT, Int.reduceLT, Int.reduceLE, Int.reduceToNat, Nat.reduceAdd, Nat.reduceSub, Nat.reduceMul, Nat.reduceLeDiff, reduceCtorEq, g, g2]))

theorem path_range {f : HF} (hf : f.good = true) {c : Cd} (ho : oneB c = true) : 0 ≤ pathN f c ∧ pathN f c ≤ 65535 := by
  have hc := oneB_iff.1 ho
  unfold pathN; split <;> omega
theorem mem_ways {f : HF} {l : List Cd} {o : Off} (h : o ∈ waysL f l) : o.c ∈ l ∧ o.v = pathN f o.c ∧ o.v ≠ 65535 := by
  obtain ⟨c, hc, e⟩ := List.mem_filterMap.1 h
  split at e
  · cases e
  · cases e; exact ⟨hc, rfl, by assumption⟩
theorem rightL_one {l : List Cd} (h : rightL l = true) : l.all oneB = true := by simp only [rightL, Bool.and_eq_true] at h; exact h.1
theorem sways_range {f : HF} (hf : f.good = true) {l : List Cd} (hr : rightL l = true) : ∀ o ∈ isort shC (waysL f l), 0 ≤ o.v ∧ o.v ≤ 65535 := by
  intro o ho
  obtain ⟨h1, h2, _⟩ := mem_ways (mem_isort.1 ho)
  rw [h2]; exact path_range hf (List.all_eq_true.1 (rightL_one hr) _ h1)
theorem choose_lt {f : HF} {now : Int} {l : List Off} (h : l ≠ []) : chooseN f now l < l.length := by
  have := List.length_pos_iff.2 h
  unfold chooseN; split
  · rename_i i e
    have := (List.findIdx?_eq_some_iff_getElem.1 e).1
    split <;> omega
  · exact this

/-- Who is preferred. -/
def bestN (f : HF) (now : Int) (l : List Cd) : Off := offAt (isort shC (waysL f l)) (chooseN f now (isort shC (waysL f l)))

theorem bigchoose_spec (f : HF) (now : Int) (l : List Cd) (ex : Bool) (h : AHeap) (hn : l.length ≤ 12) :
    PureA Try.prog 38 [.agg f.av, .int .i64 now, .ro (cat encC l) l.length ex] h
      (.tup [.int .i64 (if f.good && rightL l then (if waysL f l = [] then 0 else (bestN f now l).c.n) else 0), .int .i64 (if f.good && rightL l then (if waysL f l = [] then 8 else 0) else 1)]) := by
  (refine PureA.enter (ac := c38) (rs := r38) Try.func38 rfl (by decide) c38_ok r38_ok ?_; intro Q hQ; simp only [go_sem, Int.reduceEq, Int.reduceAdd, Int.reduceSub, Int.reduceMul, Nat.reduceLT, Int.reduceLT, Int.reduceLE, Int.reduceToNat, Nat.reduceAdd, Nat.reduceSub, Nat.reduceMul, Nat.reduceLeDiff, reduceCtorEq, c38, Try.ntmps38, HF.av])
  refine (hcheckl_spec f l ex _ (by omega)).use ?_
  cases g : f.good && rightL l
  · simp only [go_sem, Int.reduceEq, Int.reduceAdd, Int.reduceSub, Int.reduceMul, Nat.reduceLT, Int.reduceLT, Int.reduceLE, Int.reduceToNat, Nat.reduceAdd, Nat.reduceSub, Nat.reduceMul, Nat.reduceLeDiff, reduceCtorEq, show decide ((1 : Int) = 0) = false from rfl]
    (refine hQ _ _ _ _ _ (by first | exact .inr rfl | exact .inl rfl) rfl (by first | exact FzH.refl _ | exact FzH.sub (by (repeat' (first | exact Sub.refl _ | assumption | (refine Sub.upd ?_ (by first | assumption | (simp only [*]; done) | exact Sub.isNone (by assumption) (by assumption) | exact Sub.isNone (by assumption) (by simp only [*]))))))) (FzL.refl _ _ _) ?_; try (simp only [go_sem, Int.reduceEq, Int.reduceAdd, Int.reduceSub, Int.reduceMul, Nat.reduceLT, Int.reduceLT, Int.reduceLE, Int.reduceToNat, Nat.reduceAdd, Nat.reduceSub, Nat.reduceMul, Nat.reduceLeDiff, reduceCtorEq, g]))
  obtain ⟨g1, g2⟩ := Bool.and_eq_true_iff.1 g
  simp only [go_sem, Int.reduceEq, Int.reduceAdd, Int.reduceSub, Int.reduceMul, Nat.reduceLT, Int.reduceLT, Int.reduceLE, Int.reduceToNat, Nat.reduceAdd, Nat.reduceSub, Nat.reduceMul, Nat.reduceLeDiff, reduceCtorEq]
  refine (ways_spec f l ex _ (rightL_one g2) hn).use ?_
  have hl := isort_len (c := shC) (waysL f l)
  by_cases he : waysL f l = []
  · simp only [go_sem, Int.reduceEq, Int.reduceAdd, Int.reduceSub, Int.reduceMul, Nat.reduceLT, Int.reduceLT, Int.reduceLE, Int.reduceToNat, Nat.reduceAdd, Nat.reduceSub, Nat.reduceMul, Nat.reduceLeDiff, reduceCtorEq, he, List.length_nil, isort_nil]
    (refine hQ _ _ _ _ _ (by first | exact .inr rfl | exact .inl rfl) rfl (by first | exact FzH.refl _ | exact FzH.sub (by (repeat' (first | exact Sub.refl _ | assumption | (refine Sub.upd ?_ (by first | assumption | (simp only [*]; done) | exact Sub.isNone (by assumption) (by assumption) | exact Sub.isNone (by assumption) (by simp only [*]))))))) (FzL.refl _ _ _) ?_; try (simp only [go_sem, Int.reduceEq, Int.reduceAdd, Int.reduceSub, Int.reduceMul, Nat.reduceLT, Int.reduceLT, Int.reduceLE, Int.reduceToNat, Nat.reduceAdd, Nat.reduceSub, Nat.reduceMul, Nat.reduceLeDiff, reduceCtorEq, g, he]))
  · have hpos := List.length_pos_iff.2 he
    have hz : decide (((waysL f l).length : Int) = 0) = false := decide_eq_false (by omega)
    have hs : isort shC (waysL f l) ≠ [] := fun e => he (List.length_eq_zero_iff.1 (by rw [← hl, e]; rfl))
    have hc := choose_lt (f := f) (now := now) hs
    simp only [go_sem, Int.reduceEq, Int.reduceAdd, Int.reduceSub, Int.reduceMul, Nat.reduceLT, Int.reduceLT, Int.reduceLE, Int.reduceToNat, Nat.reduceAdd, Nat.reduceSub, Nat.reduceMul, Nat.reduceLeDiff, reduceCtorEq, hz]
    rw [← hl]
    refine (hchoose_spec f g1 now (isort shC (waysL f l)) false _ (sways_range g1 g2) (by have := waysL_len f l; omega)).use ?_
    have r := rd_cell (h := h) (off := 0) encO_len hc (by omega)
    simp only [encO, List.getElem?_cons_zero] at r
    have hb : (bestN f now l).c.n = (isort shC (waysL f l))[chooseN f now (isort shC (waysL f l))].c.n := by unfold bestN; rw [offAt_get hc]
    rw [List.drop_zero] at r
    simp only [go_sem, Int.reduceEq, Int.reduceAdd, Int.reduceSub, Int.reduceMul, Nat.reduceLT, Int.reduceLT, Int.reduceLE, Int.reduceToNat, Nat.reduceAdd, Nat.reduceSub, Nat.reduceMul, Nat.reduceLeDiff, reduceCtorEq, hc, r]
    (refine hQ _ _ _ _ _ (by first | exact .inr rfl | exact .inl rfl) rfl (by first | exact FzH.refl _ | exact FzH.sub (by (repeat' (first | exact Sub.refl _ | assumption | (refine Sub.upd ?_ (by first | assumption | (simp only [*]; done) | exact Sub.isNone (by assumption) (by assumption) | exact Sub.isNone (by assumption) (by simp only [*]))))))) (FzL.refl _ _ _) ?_; try (simp only [go_sem, Int.reduceEq, Int.reduceAdd, Int.reduceSub, Int.reduceMul, Nat.reduceLT, Int.reduceLT, Int.reduceLE, Int.reduceToNat, Nat.reduceAdd, Nat.reduceSub, Nat.reduceMul, Nat.reduceLeDiff, reduceCtorEq, g, he, hb]))

end Go.Proofs.Ytaeppifdbcoipaa
