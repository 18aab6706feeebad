/-
  ZeroOrders on abstract values.
-/
import Derived.Test.YtaeppifdbcoipaaZo
namespace Go.Proofs.Ytaeppifdbcoipaa
open Go E
set_option linter.unusedVariables false
set_option linter.unusedSimpArgs false
set_option linter.unusedSectionVars false
set_option maxRecDepth 100000

theorem good15_spec (a b : Int) (h : AHeap) : PureA Try.prog 46 [.agg [.int .i64 a, .int .i64 b]] h (.bool (okFn a b)) := by
  (refine PureA.enter (ac := c46) (rs := r46) Try.func46 rfl (by decide) c46_ok r46_ok ?_; intro Q hQ; simp only [go_sem, Int.reduceEq, Int.reduceAdd, Int.reduceSub, Int.reduceMul, Nat.reduceLT, Int.reduceLT, Int.reduceLE, Int.reduceToNat, Nat.reduceAdd, Nat.reduceSub, Nat.reduceMul, Nat.reduceLeDiff, reduceCtorEq, c46, Try.ntmps46])
  repeat' (first | (intro _ hf_; (try simp only [upd_none] at hf_); (try simp only [go_sem, Int.reduceEq, Int.reduceAdd, Int.reduceSub, Int.reduceMul, Nat.reduceLT, Int.reduceLT, Int.reduceLE, Int.reduceToNat, Nat.reduceAdd, Nat.reduceSub, Nat.reduceMul, Nat.reduceLeDiff, reduceCtorEq, upd_ne, ne_eq, not_false_eq_true, *])) | (refine guard_split (fun hb_ => ?_) (fun hb_ => ?_) <;> (try simp only [decide_eq_true_eq, decide_eq_false_iff_not, Bool.not_eq_true', Bool.not_eq_false'] at hb_) <;> (try simp only [go_sem, Int.reduceEq, Int.reduceAdd, Int.reduceSub, Int.reduceMul, Nat.reduceLT, Int.reduceLT, Int.reduceLE, Int.reduceToNat, Nat.reduceAdd, Nat.reduceSub, Nat.reduceMul, Nat.reduceLeDiff, reduceCtorEq, upd_ne, ne_eq, not_false_eq_true, *])) | (refine cond_split (fun hb_ => ?_) (fun hb_ => ?_) <;> (try simp only [decide_eq_true_eq, decide_eq_false_iff_not, Bool.not_eq_true', Bool.not_eq_false'] at hb_) <;> (try simp only [go_sem, Int.reduceEq, Int.reduceAdd, Int.reduceSub, Int.reduceMul, Nat.reduceLT, Int.reduceLT, Int.reduceLE, Int.reduceToNat, Nat.reduceAdd, Nat.reduceSub, Nat.reduceMul, Nat.reduceLeDiff, reduceCtorEq, upd_ne, ne_eq, not_false_eq_true, *])) | (refine readG_split (fun hb_ => ?_) (fun hb_ => ?_) <;> (try simp only [decide_eq_true_eq, decide_eq_false_iff_not, Bool.not_eq_true', Bool.not_eq_false'] at hb_) <;> (try simp only [go_sem, Int.reduceEq, Int.reduceAdd, Int.reduceSub, Int.reduceMul, Nat.reduceLT, Int.reduceLT, Int.reduceLE, Int.reduceToNat, Nat.reduceAdd, Nat.reduceSub, Nat.reduceMul, Nat.reduceLeDiff, reduceCtorEq, upd_ne, ne_eq, not_false_eq_true, *])) | (refine frz_id ?_ <;> (try simp only [go_sem, Int.reduceEq, Int.reduceAdd, Int.reduceSub, Int.reduceMul, Nat.reduceLT, Int.reduceLT, Int.reduceLE, Int.reduceToNat, Nat.reduceAdd, Nat.reduceSub, Nat.reduceMul, Nat.reduceLeDiff, reduceCtorEq, upd_ne, ne_eq, not_false_eq_true, *])))
  all_goals (refine hQ _ _ _ _ _ (by first | exact .inr rfl | exact .inl rfl) rfl (by first | exact FzH.refl _ | exact FzH.sub (by (repeat' (first | exact Sub.refl _ | assumption | (refine Sub.upd ?_ (by first | assumption | (simp only [*]; done) | exact Sub.isNone (by assumption) (by assumption) | exact Sub.isNone (by assumption) (by simp only [*]))))))) (FzL.refl _ _ _) ?_; simp only [go_sem, Int.reduceEq, Int.reduceAdd, Int.reduceSub, Int.reduceMul, Nat.reduceLT, Int.reduceLT, Int.reduceLE, Int.reduceToNat, Nat.reduceAdd, Nat.reduceSub, Nat.reduceMul, Nat.reduceLeDiff, reduceCtorEq, okFn]; (first | rfl | ((try simp only [tupA_one]); congr 1; first | rfl | (refine decide_eq_decide.2 ?_; omega) | (symm; refine decide_eq_true ?_; omega) | (symm; refine decide_eq_false ?_; omega) | (refine decide_eq_true ?_; omega) | (refine decide_eq_false ?_; omega))))

theorem rstep_spec (n : Int) (hn : isCost n = true) (h : AHeap) : PureA Try.prog 163 [.int .i64 n] h (.int .i64 (stepN n)) := by
  have hb : 128 ≤ n ∧ n ≤ 65535 := by simp [isCost] at hn; exact hn
  have h1 : IntKind.i64.wrap (3 * n) = 3 * n := w64 (by omega) (by omega)
  have h2 : IntKind.i64.wrap ((3 * n).tdiv 128) = 3 * n / 128 := IntWalk.i64_quo _ _ (by omega)
  have h3 : IntKind.i64.wrap (3 * n / 128 - 2) = 3 * n / 128 - 2 := w64 (by omega) (by omega)
  (refine PureA.enter (ac := c163) (rs := r163) Try.func163 rfl (by decide) c163_ok r163_ok ?_; intro Q hQ; simp only [go_sem, Int.reduceEq, Int.reduceAdd, Int.reduceSub, Int.reduceMul, Nat.reduceLT, Int.reduceLT, Int.reduceLE, Int.reduceToNat, Nat.reduceAdd, Nat.reduceSub, Nat.reduceMul, Nat.reduceLeDiff, reduceCtorEq, c163, Try.ntmps163, h1, h2, h3, show ((128 : Int) == 0) = false from rfl])
  repeat' (first | (intro _ hf_; (try simp only [upd_none] at hf_); (try simp only [go_sem, Int.reduceEq, Int.reduceAdd, Int.reduceSub, Int.reduceMul, Nat.reduceLT, Int.reduceLT, Int.reduceLE, Int.reduceToNat, Nat.reduceAdd, Nat.reduceSub, Nat.reduceMul, Nat.reduceLeDiff, reduceCtorEq, upd_ne, ne_eq, not_false_eq_true, *])) | (refine guard_split (fun hb_ => ?_) (fun hb_ => ?_) <;> (try simp only [decide_eq_true_eq, decide_eq_false_iff_not, Bool.not_eq_true', Bool.not_eq_false'] at hb_) <;> (try simp only [go_sem, Int.reduceEq, Int.reduceAdd, Int.reduceSub, Int.reduceMul, Nat.reduceLT, Int.reduceLT, Int.reduceLE, Int.reduceToNat, Nat.reduceAdd, Nat.reduceSub, Nat.reduceMul, Nat.reduceLeDiff, reduceCtorEq, upd_ne, ne_eq, not_false_eq_true, *])) | (refine cond_split (fun hb_ => ?_) (fun hb_ => ?_) <;> (try simp only [decide_eq_true_eq, decide_eq_false_iff_not, Bool.not_eq_true', Bool.not_eq_false'] at hb_) <;> (try simp only [go_sem, Int.reduceEq, Int.reduceAdd, Int.reduceSub, Int.reduceMul, Nat.reduceLT, Int.reduceLT, Int.reduceLE, Int.reduceToNat, Nat.reduceAdd, Nat.reduceSub, Nat.reduceMul, Nat.reduceLeDiff, reduceCtorEq, upd_ne, ne_eq, not_false_eq_true, *])) | (refine readG_split (fun hb_ => ?_) (fun hb_ => ?_) <;> (try simp only [decide_eq_true_eq, decide_eq_false_iff_not, Bool.not_eq_true', Bool.not_eq_false'] at hb_) <;> (try simp only [go_sem, Int.reduceEq, Int.reduceAdd, Int.reduceSub, Int.reduceMul, Nat.reduceLT, Int.reduceLT, Int.reduceLE, Int.reduceToNat, Nat.reduceAdd, Nat.reduceSub, Nat.reduceMul, Nat.reduceLeDiff, reduceCtorEq, upd_ne, ne_eq, not_false_eq_true, *])) | (refine frz_id ?_ <;> (try simp only [go_sem, Int.reduceEq, Int.reduceAdd, Int.reduceSub, Int.reduceMul, Nat.reduceLT, Int.reduceLT, Int.reduceLE, Int.reduceToNat, Nat.reduceAdd, Nat.reduceSub, Nat.reduceMul, Nat.reduceLeDiff, reduceCtorEq, upd_ne, ne_eq, not_false_eq_true, *])))
  all_goals (refine hQ _ _ _ _ _ (by first | exact .inr rfl | exact .inl rfl) rfl (by first | exact FzH.refl _ | exact FzH.sub (by (repeat' (first | exact Sub.refl _ | assumption | (refine Sub.upd ?_ (by first | assumption | (simp only [*]; done) | exact Sub.isNone (by assumption) (by assumption) | exact Sub.isNone (by assumption) (by simp only [*]))))))) (FzL.refl _ _ _) ?_; simp only [go_sem, Int.reduceEq, Int.reduceAdd, Int.reduceSub, Int.reduceMul, Nat.reduceLT, Int.reduceLT, Int.reduceLE, Int.reduceToNat, Nat.reduceAdd, Nat.reduceSub, Nat.reduceMul, Nat.reduceLeDiff, reduceCtorEq, stepN]; congr 1; omega)

theorem rinc_spec (a b n by_ : Int) (ho : okInc a b n by_ = true) (h : AHeap) : PureA Try.prog 135 [.agg [.int .i64 a, .int .i64 b], .int .i64 n, .int .i64 by_] h (.int .i64 (incN a b n by_)) := by
  obtain ⟨b1, b2, b3, b4⟩ := inc_bd ho
  have hc : isCost n = true := by simp only [okInc, Bool.and_eq_true] at ho; exact ho.1.2
  have h1 : IntKind.i64.wrap (a * stepN n) = a * stepN n := w64 (by omega) (by omega)
  have h2 : IntKind.i64.wrap (a * stepN n + b) = a * stepN n + b := w64 (by omega) (by omega)
  have h3 : IntKind.i64.wrap ((a * stepN n + b) * by_) = (a * stepN n + b) * by_ := w64 (by omega) (by omega)
  (refine PureA.enter (ac := c135) (rs := r135) Try.func135 rfl (by decide) c135_ok r135_ok ?_; intro Q hQ; simp only [go_sem, Int.reduceEq, Int.reduceAdd, Int.reduceSub, Int.reduceMul, Nat.reduceLT, Int.reduceLT, Int.reduceLE, Int.reduceToNat, Nat.reduceAdd, Nat.reduceSub, Nat.reduceMul, Nat.reduceLeDiff, reduceCtorEq, c135, Try.ntmps135])
  refine (rstep_spec n hc _).use ?_
  simp only [go_sem, Int.reduceEq, Int.reduceAdd, Int.reduceSub, Int.reduceMul, Nat.reduceLT, Int.reduceLT, Int.reduceLE, Int.reduceToNat, Nat.reduceAdd, Nat.reduceSub, Nat.reduceMul, Nat.reduceLeDiff, reduceCtorEq, h1, h2, h3]
  by_cases g : 65535 < (a * stepN n + b) * by_
  · have e : incN a b n by_ = 65535 := by unfold incN; omega
    simp only [go_sem, Int.reduceEq, Int.reduceAdd, Int.reduceSub, Int.reduceMul, Nat.reduceLT, Int.reduceLT, Int.reduceLE, Int.reduceToNat, Nat.reduceAdd, Nat.reduceSub, Nat.reduceMul, Nat.reduceLeDiff, reduceCtorEq, g]
    (refine hQ _ _ _ _ _ (by first | exact .inr rfl | exact .inl rfl) rfl (by first | exact FzH.refl _ | exact FzH.sub (by (repeat' (first | exact Sub.refl _ | assumption | (refine Sub.upd ?_ (by first | assumption | (simp only [*]; done) | exact Sub.isNone (by assumption) (by assumption) | exact Sub.isNone (by assumption) (by simp only [*]))))))) (FzL.refl _ _ _) ?_; try (simp only [go_sem, Int.reduceEq, Int.reduceAdd, Int.reduceSub, Int.reduceMul, Nat.reduceLT, Int.reduceLT, Int.reduceLE, Int.reduceToNat, Nat.reduceAdd, Nat.reduceSub, Nat.reduceMul, Nat.reduceLeDiff, reduceCtorEq, e]))
  · have e : incN a b n by_ = (a * stepN n + b) * by_ := by unfold incN; omega
    simp only [go_sem, Int.reduceEq, Int.reduceAdd, Int.reduceSub, Int.reduceMul, Nat.reduceLT, Int.reduceLT, Int.reduceLE, Int.reduceToNat, Nat.reduceAdd, Nat.reduceSub, Nat.reduceMul, Nat.reduceLeDiff, reduceCtorEq, g]
    (refine hQ _ _ _ _ _ (by first | exact .inr rfl | exact .inl rfl) rfl (by first | exact FzH.refl _ | exact FzH.sub (by (repeat' (first | exact Sub.refl _ | assumption | (refine Sub.upd ?_ (by first | assumption | (simp only [*]; done) | exact Sub.isNone (by assumption) (by assumption) | exact Sub.isNone (by assumption) (by simp only [*]))))))) (FzL.refl _ _ _) ?_; try (simp only [go_sem, Int.reduceEq, Int.reduceAdd, Int.reduceSub, Int.reduceMul, Nat.reduceLT, Int.reduceLT, Int.reduceLE, Int.reduceToNat, Nat.reduceAdd, Nat.reduceSub, Nat.reduceMul, Nat.reduceLeDiff, reduceCtorEq, e]))

theorem rrank_spec (a b by_ : Int) (c : Cd) (ho : okRank a b by_ c = true) (h : AHeap) : PureA Try.prog 81 [.agg [.int .i64 a, .int .i64 b], .agg (encC c), .int .i64 by_] h (.int .i64 (rankN a b by_ c)) := by
  have ho' := ho
  simp only [okRank, Bool.and_eq_true] at ho'
  have hi := inc_range ho'.1
  have hc := oneB_iff.1 ho'.2
  have h1 : IntKind.i64.wrap (c.r + incN a b c.k by_) = c.r + incN a b c.k by_ := w64 (by omega) (by omega)
  (refine PureA.enter (ac := c81) (rs := r81) Try.func81 rfl (by decide) c81_ok r81_ok ?_; intro Q hQ; simp only [go_sem, Int.reduceEq, Int.reduceAdd, Int.reduceSub, Int.reduceMul, Nat.reduceLT, Int.reduceLT, Int.reduceLE, Int.reduceToNat, Nat.reduceAdd, Nat.reduceSub, Nat.reduceMul, Nat.reduceLeDiff, reduceCtorEq, c81, Try.ntmps81, encC])
  refine (rinc_spec a b c.k by_ ho'.1 _).use ?_
  simp only [go_sem, Int.reduceEq, Int.reduceAdd, Int.reduceSub, Int.reduceMul, Nat.reduceLT, Int.reduceLT, Int.reduceLE, Int.reduceToNat, Nat.reduceAdd, Nat.reduceSub, Nat.reduceMul, Nat.reduceLeDiff, reduceCtorEq, h1]
  by_cases g : 65535 < c.r + incN a b c.k by_
  · have e : rankN a b by_ c = 65535 := by unfold rankN; split <;> omega
    simp only [go_sem, Int.reduceEq, Int.reduceAdd, Int.reduceSub, Int.reduceMul, Nat.reduceLT, Int.reduceLT, Int.reduceLE, Int.reduceToNat, Nat.reduceAdd, Nat.reduceSub, Nat.reduceMul, Nat.reduceLeDiff, reduceCtorEq, g]
    (refine hQ _ _ _ _ _ (by first | exact .inr rfl | exact .inl rfl) rfl (by first | exact FzH.refl _ | exact FzH.sub (by (repeat' (first | exact Sub.refl _ | assumption | (refine Sub.upd ?_ (by first | assumption | (simp only [*]; done) | exact Sub.isNone (by assumption) (by assumption) | exact Sub.isNone (by assumption) (by simp only [*]))))))) (FzL.refl _ _ _) ?_; try (simp only [go_sem, Int.reduceEq, Int.reduceAdd, Int.reduceSub, Int.reduceMul, Nat.reduceLT, Int.reduceLT, Int.reduceLE, Int.reduceToNat, Nat.reduceAdd, Nat.reduceSub, Nat.reduceMul, Nat.reduceLeDiff, reduceCtorEq, e]))
  · cases g2 : decide (c.k = 65535)
    · have e : rankN a b by_ c = c.r + incN a b c.k by_ := by unfold rankN; rw [if_neg (of_decide_eq_false g2)]; omega
      simp only [go_sem, Int.reduceEq, Int.reduceAdd, Int.reduceSub, Int.reduceMul, Nat.reduceLT, Int.reduceLT, Int.reduceLE, Int.reduceToNat, Nat.reduceAdd, Nat.reduceSub, Nat.reduceMul, Nat.reduceLeDiff, reduceCtorEq, g, g2]
      (refine hQ _ _ _ _ _ (by first | exact .inr rfl | exact .inl rfl) rfl (by first | exact FzH.refl _ | exact FzH.sub (by (repeat' (first | exact Sub.refl _ | assumption | (refine Sub.upd ?_ (by first | assumption | (simp only [*]; done) | exact Sub.isNone (by assumption) (by assumption) | exact Sub.isNone (by assumption) (by simp only [*]))))))) (FzL.refl _ _ _) ?_; try (simp only [go_sem, Int.reduceEq, Int.reduceAdd, Int.reduceSub, Int.reduceMul, Nat.reduceLT, Int.reduceLT, Int.reduceLE, Int.reduceToNat, Nat.reduceAdd, Nat.reduceSub, Nat.reduceMul, Nat.reduceLeDiff, reduceCtorEq, e]))
    · have e : rankN a b by_ c = 65535 := by unfold rankN; rw [if_pos (of_decide_eq_true g2)]
      simp only [go_sem, Int.reduceEq, Int.reduceAdd, Int.reduceSub, Int.reduceMul, Nat.reduceLT, Int.reduceLT, Int.reduceLE, Int.reduceToNat, Nat.reduceAdd, Nat.reduceSub, Nat.reduceMul, Nat.reduceLeDiff, reduceCtorEq, g, g2]
      (refine hQ _ _ _ _ _ (by first | exact .inr rfl | exact .inl rfl) rfl (by first | exact FzH.refl _ | exact FzH.sub (by (repeat' (first | exact Sub.refl _ | assumption | (refine Sub.upd ?_ (by first | assumption | (simp only [*]; done) | exact Sub.isNone (by assumption) (by assumption) | exact Sub.isNone (by assumption) (by simp only [*]))))))) (FzL.refl _ _ _) ?_; try (simp only [go_sem, Int.reduceEq, Int.reduceAdd, Int.reduceSub, Int.reduceMul, Nat.reduceLT, Int.reduceLT, Int.reduceLE, Int.reduceToNat, Nat.reduceAdd, Nat.reduceSub, Nat.reduceMul, Nat.reduceLeDiff, reduceCtorEq, e]))

theorem known15_spec (h : AHeap) : PureA Try.prog 47 [] h (.bool true) := by
  (refine PureA.enter (ac := c47) (rs := r47) Try.func47 rfl (by decide) c47_ok r47_ok ?_; intro Q hQ; simp only [go_sem, Int.reduceEq, Int.reduceAdd, Int.reduceSub, Int.reduceMul, Nat.reduceLT, Int.reduceLT, Int.reduceLE, Int.reduceToNat, Nat.reduceAdd, Nat.reduceSub, Nat.reduceMul, Nat.reduceLeDiff, reduceCtorEq, c47, Try.ntmps47])
  intro p hp
  simp only [go_sem, Int.reduceEq, Int.reduceAdd, Int.reduceSub, Int.reduceMul, Nat.reduceLT, Int.reduceLT, Int.reduceLE, Int.reduceToNat, Nat.reduceAdd, Nat.reduceSub, Nat.reduceMul, Nat.reduceLeDiff, reduceCtorEq, del_same, del_none hp]
  refine (increase_spec 1 0 128 256 _).use ?_
  simp only [go_sem, Int.reduceEq, Int.reduceAdd, Int.reduceSub, Int.reduceMul, Nat.reduceLT, Int.reduceLT, Int.reduceLE, Int.reduceToNat, Nat.reduceAdd, Nat.reduceSub, Nat.reduceMul, Nat.reduceLeDiff, reduceCtorEq, show okInc 1 0 128 256 = true from by decide, show incN 1 0 128 256 = 256 from by decide]
  refine (step_spec 256 _).use ?_
  simp only [go_sem, Int.reduceEq, Int.reduceAdd, Int.reduceSub, Int.reduceMul, Nat.reduceLT, Int.reduceLT, Int.reduceLE, Int.reduceToNat, Nat.reduceAdd, Nat.reduceSub, Nat.reduceMul, Nat.reduceLeDiff, reduceCtorEq, show isCost 256 = true from by decide, show stepN 256 = 4 from by decide]
  refine (increase_spec 1 0 256 256 _).use ?_
  simp only [go_sem, Int.reduceEq, Int.reduceAdd, Int.reduceSub, Int.reduceMul, Nat.reduceLT, Int.reduceLT, Int.reduceLE, Int.reduceToNat, Nat.reduceAdd, Nat.reduceSub, Nat.reduceMul, Nat.reduceLeDiff, reduceCtorEq, show okInc 1 0 256 256 = true from by decide, show incN 1 0 256 256 = 1024 from by decide]
  (refine hQ _ _ _ _ _ (by first | exact .inr rfl | exact .inl rfl) rfl (by first | exact FzH.refl _ | exact FzH.sub (by (repeat' (first | exact Sub.refl _ | assumption | (refine Sub.upd ?_ (by first | assumption | (simp only [*]; done) | exact Sub.isNone (by assumption) (by assumption) | exact Sub.isNone (by assumption) (by simp only [*]))))))) (FzL.refl _ _ _) ?_; try (simp only [go_sem, Int.reduceEq, Int.reduceAdd, Int.reduceSub, Int.reduceMul, Nat.reduceLT, Int.reduceLT, Int.reduceLE, Int.reduceToNat, Nat.reduceAdd, Nat.reduceSub, Nat.reduceMul, Nat.reduceLeDiff, reduceCtorEq]))

theorem of15_spec (c : Cd) (h : AHeap) : PureA Try.prog 49 [.agg (encC c)] h (.agg (encC c)) := by
  (refine PureA.enter (ac := c49) (rs := r49) Try.func49 rfl (by decide) c49_ok r49_ok ?_; intro Q hQ; simp only [go_sem, Int.reduceEq, Int.reduceAdd, Int.reduceSub, Int.reduceMul, Nat.reduceLT, Int.reduceLT, Int.reduceLE, Int.reduceToNat, Nat.reduceAdd, Nat.reduceSub, Nat.reduceMul, Nat.reduceLeDiff, reduceCtorEq, c49, Try.ntmps49, encC])
  intro p hp
  simp only [go_sem, Int.reduceEq, Int.reduceAdd, Int.reduceSub, Int.reduceMul, Nat.reduceLT, Int.reduceLT, Int.reduceLE, Int.reduceToNat, Nat.reduceAdd, Nat.reduceSub, Nat.reduceMul, Nat.reduceLeDiff, reduceCtorEq, del_same, del_none hp]
  (refine hQ _ _ _ _ _ (by first | exact .inr rfl | exact .inl rfl) rfl (by first | exact FzH.refl _ | exact FzH.sub (by (repeat' (first | exact Sub.refl _ | assumption | (refine Sub.upd ?_ (by first | assumption | (simp only [*]; done) | exact Sub.isNone (by assumption) (by assumption) | exact Sub.isNone (by assumption) (by simp only [*]))))))) (FzL.refl _ _ _) ?_; try (simp only [go_sem, Int.reduceEq, Int.reduceAdd, Int.reduceSub, Int.reduceMul, Nat.reduceLT, Int.reduceLT, Int.reduceLE, Int.reduceToNat, Nat.reduceAdd, Nat.reduceSub, Nat.reduceMul, Nat.reduceLeDiff, reduceCtorEq, encC]))

/-- Is one candidate ahead of another one? -/
def betB (a b by_ now : Int) (x y : Cd) : Bool :=
  if rankN a b by_ x / by_ ≠ rankN a b by_ y / by_ then decide (rankN a b by_ x / by_ < rankN a b by_ y / by_)
  else if x.n = now ∨ y.n = now then decide (x.n = now)
  else if x.r ≠ y.r then decide (x.r < y.r)
  else if x.k ≠ y.k then decide (x.k < y.k) else decide (x.n < y.n)

theorem better_spec (a b by_ now : Int) (hb : isLeast by_ = true) (x y : Cd) (hx : okRank a b by_ x = true) (hy : okRank a b by_ y = true) (h : AHeap) :
    PureA Try.prog 106 [.agg [.int .i64 a, .int .i64 b], .int .i64 by_, .int .i64 now, .agg (encC x), .agg (encC y)] h (.bool (betB a b by_ now x y)) := by
  have hb : 1 ≤ by_ ∧ by_ ≤ 65535 := by simpa [isLeast] using hb
  have hz : (by_ == 0) = false := by simp; omega
  have rx := rank_range hx
  have ry := rank_range hy
  have q1 : IntKind.i64.wrap ((rankN a b by_ x).tdiv by_) = rankN a b by_ x / by_ := by rw [Int.tdiv_eq_ediv_of_nonneg (by omega)]; exact w64 (by have := Int.ediv_nonneg (show 0 ≤ rankN a b by_ x by omega) (show 0 ≤ by_ by omega); omega) (by have := Int.ediv_le_self by_ (show 0 ≤ rankN a b by_ x by omega); omega)
  have q2 : IntKind.i64.wrap ((rankN a b by_ y).tdiv by_) = rankN a b by_ y / by_ := by rw [Int.tdiv_eq_ediv_of_nonneg (by omega)]; exact w64 (by have := Int.ediv_nonneg (show 0 ≤ rankN a b by_ y by omega) (show 0 ≤ by_ by omega); omega) (by have := Int.ediv_le_self by_ (show 0 ≤ rankN a b by_ y by omega); omega)
  have hbet : betB a b by_ now x y = (if rankN a b by_ x / by_ ≠ rankN a b by_ y / by_ then decide (rankN a b by_ x / by_ < rankN a b by_ y / by_)
    else if x.n = now ∨ y.n = now then decide (x.n = now)
    else if x.r ≠ y.r then decide (x.r < y.r)
    else if x.k ≠ y.k then decide (x.k < y.k) else decide (x.n < y.n)) := rfl
  (refine PureA.enter (ac := c106) (rs := r106) Try.func106 rfl (by decide) c106_ok r106_ok ?_; intro Q hQ; simp only [go_sem, Int.reduceEq, Int.reduceAdd, Int.reduceSub, Int.reduceMul, Nat.reduceLT, Int.reduceLT, Int.reduceLE, Int.reduceToNat, Nat.reduceAdd, Nat.reduceSub, Nat.reduceMul, Nat.reduceLeDiff, reduceCtorEq, c106, Try.ntmps106, encC])
  refine (rrank_spec a b by_ x hx _).use ?_
  simp only [go_sem, Int.reduceEq, Int.reduceAdd, Int.reduceSub, Int.reduceMul, Nat.reduceLT, Int.reduceLT, Int.reduceLE, Int.reduceToNat, Nat.reduceAdd, Nat.reduceSub, Nat.reduceMul, Nat.reduceLeDiff, reduceCtorEq, hz, q1, q2]
  refine (rrank_spec a b by_ y hy _).use ?_
  simp only [go_sem, Int.reduceEq, Int.reduceAdd, Int.reduceSub, Int.reduceMul, Nat.reduceLT, Int.reduceLT, Int.reduceLE, Int.reduceToNat, Nat.reduceAdd, Nat.reduceSub, Nat.reduceMul, Nat.reduceLeDiff, reduceCtorEq, hz, q1, q2]
  generalize rankN a b by_ x / by_ = X at *
  generalize rankN a b by_ y / by_ = Y at *
  cases e1 : decide (X = Y)
  · have e : betB a b by_ now x y = decide (X < Y) := by rw [hbet, if_pos (of_decide_eq_false e1)]
    simp only [go_sem, Int.reduceEq, Int.reduceAdd, Int.reduceSub, Int.reduceMul, Nat.reduceLT, Int.reduceLT, Int.reduceLE, Int.reduceToNat, Nat.reduceAdd, Nat.reduceSub, Nat.reduceMul, Nat.reduceLeDiff, reduceCtorEq, e1]
    (refine hQ _ _ _ _ _ (by first | exact .inr rfl | exact .inl rfl) rfl (by first | exact FzH.refl _ | exact FzH.sub (by (repeat' (first | exact Sub.refl _ | assumption | (refine Sub.upd ?_ (by first | assumption | (simp only [*]; done) | exact Sub.isNone (by assumption) (by assumption) | exact Sub.isNone (by assumption) (by simp only [*]))))))) (FzL.refl _ _ _) ?_; try (simp only [go_sem, Int.reduceEq, Int.reduceAdd, Int.reduceSub, Int.reduceMul, Nat.reduceLT, Int.reduceLT, Int.reduceLE, Int.reduceToNat, Nat.reduceAdd, Nat.reduceSub, Nat.reduceMul, Nat.reduceLeDiff, reduceCtorEq, e]))
  have h1 : ¬ (X ≠ Y) := fun h => h (of_decide_eq_true e1)
  rw [if_neg h1] at hbet
  cases e2 : decide (x.n = now)
  rotate_left
  · have e : betB a b by_ now x y = true := by rw [hbet, if_pos (.inl (of_decide_eq_true e2)), e2]
    simp only [go_sem, Int.reduceEq, Int.reduceAdd, Int.reduceSub, Int.reduceMul, Nat.reduceLT, Int.reduceLT, Int.reduceLE, Int.reduceToNat, Nat.reduceAdd, Nat.reduceSub, Nat.reduceMul, Nat.reduceLeDiff, reduceCtorEq, e1, e2]
    (refine hQ _ _ _ _ _ (by first | exact .inr rfl | exact .inl rfl) rfl (by first | exact FzH.refl _ | exact FzH.sub (by (repeat' (first | exact Sub.refl _ | assumption | (refine Sub.upd ?_ (by first | assumption | (simp only [*]; done) | exact Sub.isNone (by assumption) (by assumption) | exact Sub.isNone (by assumption) (by simp only [*]))))))) (FzL.refl _ _ _) ?_; try (simp only [go_sem, Int.reduceEq, Int.reduceAdd, Int.reduceSub, Int.reduceMul, Nat.reduceLT, Int.reduceLT, Int.reduceLE, Int.reduceToNat, Nat.reduceAdd, Nat.reduceSub, Nat.reduceMul, Nat.reduceLeDiff, reduceCtorEq, e]))
  cases e3 : decide (y.n = now)
  rotate_left
  · have e : betB a b by_ now x y = false := by rw [hbet, if_pos (.inr (of_decide_eq_true e3)), e2]
    simp only [go_sem, Int.reduceEq, Int.reduceAdd, Int.reduceSub, Int.reduceMul, Nat.reduceLT, Int.reduceLT, Int.reduceLE, Int.reduceToNat, Nat.reduceAdd, Nat.reduceSub, Nat.reduceMul, Nat.reduceLeDiff, reduceCtorEq, e1, e2, e3]
    (refine hQ _ _ _ _ _ (by first | exact .inr rfl | exact .inl rfl) rfl (by first | exact FzH.refl _ | exact FzH.sub (by (repeat' (first | exact Sub.refl _ | assumption | (refine Sub.upd ?_ (by first | assumption | (simp only [*]; done) | exact Sub.isNone (by assumption) (by assumption) | exact Sub.isNone (by assumption) (by simp only [*]))))))) (FzL.refl _ _ _) ?_; try (simp only [go_sem, Int.reduceEq, Int.reduceAdd, Int.reduceSub, Int.reduceMul, Nat.reduceLT, Int.reduceLT, Int.reduceLE, Int.reduceToNat, Nat.reduceAdd, Nat.reduceSub, Nat.reduceMul, Nat.reduceLeDiff, reduceCtorEq, e]))
  rw [if_neg (fun h => h.elim (of_decide_eq_false e2) (of_decide_eq_false e3))] at hbet
  cases e4 : decide (x.r = y.r)
  · have e : betB a b by_ now x y = decide (x.r < y.r) := by rw [hbet, if_pos (of_decide_eq_false e4)]
    simp only [go_sem, Int.reduceEq, Int.reduceAdd, Int.reduceSub, Int.reduceMul, Nat.reduceLT, Int.reduceLT, Int.reduceLE, Int.reduceToNat, Nat.reduceAdd, Nat.reduceSub, Nat.reduceMul, Nat.reduceLeDiff, reduceCtorEq, e1, e2, e3, e4]
    (refine hQ _ _ _ _ _ (by first | exact .inr rfl | exact .inl rfl) rfl (by first | exact FzH.refl _ | exact FzH.sub (by (repeat' (first | exact Sub.refl _ | assumption | (refine Sub.upd ?_ (by first | assumption | (simp only [*]; done) | exact Sub.isNone (by assumption) (by assumption) | exact Sub.isNone (by assumption) (by simp only [*]))))))) (FzL.refl _ _ _) ?_; try (simp only [go_sem, Int.reduceEq, Int.reduceAdd, Int.reduceSub, Int.reduceMul, Nat.reduceLT, Int.reduceLT, Int.reduceLE, Int.reduceToNat, Nat.reduceAdd, Nat.reduceSub, Nat.reduceMul, Nat.reduceLeDiff, reduceCtorEq, e]))
  rw [if_neg (fun h => h (of_decide_eq_true e4))] at hbet
  cases e5 : decide (x.k = y.k)
  · have e : betB a b by_ now x y = decide (x.k < y.k) := by rw [hbet, if_pos (of_decide_eq_false e5)]
    simp only [go_sem, Int.reduceEq, Int.reduceAdd, Int.reduceSub, Int.reduceMul, Nat.reduceLT, Int.reduceLT, Int.reduceLE, Int.reduceToNat, Nat.reduceAdd, Nat.reduceSub, Nat.reduceMul, Nat.reduceLeDiff, reduceCtorEq, e1, e2, e3, e4, e5]
    (refine hQ _ _ _ _ _ (by first | exact .inr rfl | exact .inl rfl) rfl (by first | exact FzH.refl _ | exact FzH.sub (by (repeat' (first | exact Sub.refl _ | assumption | (refine Sub.upd ?_ (by first | assumption | (simp only [*]; done) | exact Sub.isNone (by assumption) (by assumption) | exact Sub.isNone (by assumption) (by simp only [*]))))))) (FzL.refl _ _ _) ?_; try (simp only [go_sem, Int.reduceEq, Int.reduceAdd, Int.reduceSub, Int.reduceMul, Nat.reduceLT, Int.reduceLT, Int.reduceLE, Int.reduceToNat, Nat.reduceAdd, Nat.reduceSub, Nat.reduceMul, Nat.reduceLeDiff, reduceCtorEq, e]))
  rw [if_neg (fun h => h (of_decide_eq_true e5))] at hbet
  simp only [go_sem, Int.reduceEq, Int.reduceAdd, Int.reduceSub, Int.reduceMul, Nat.reduceLT, Int.reduceLT, Int.reduceLE, Int.reduceToNat, Nat.reduceAdd, Nat.reduceSub, Nat.reduceMul, Nat.reduceLeDiff, reduceCtorEq, e1, e2, e3, e4, e5]
  (refine hQ _ _ _ _ _ (by first | exact .inr rfl | exact .inl rfl) rfl (by first | exact FzH.refl _ | exact FzH.sub (by (repeat' (first | exact Sub.refl _ | assumption | (refine Sub.upd ?_ (by first | assumption | (simp only [*]; done) | exact Sub.isNone (by assumption) (by assumption) | exact Sub.isNone (by assumption) (by simp only [*]))))))) (FzL.refl _ _ _) ?_; try (simp only [go_sem, Int.reduceEq, Int.reduceAdd, Int.reduceSub, Int.reduceMul, Nat.reduceLT, Int.reduceLT, Int.reduceLE, Int.reduceToNat, Nat.reduceAdd, Nat.reduceSub, Nat.reduceMul, Nat.reduceLeDiff, reduceCtorEq, hbet]))

/-- x put ahead of the first one that isn't ahead of it. -/
def insB (lt : Cd → Cd → Bool) (q : List Cd) (x : Cd) : List Cd := q.takeWhile (lt · x) ++ x :: q.dropWhile (lt · x)
def refO (a b by_ now : Int) (l : List Cd) : List Cd := l.foldl (fun q c => if rankN a b by_ c = 65535 then q else insB (betB a b by_ now) q c) []
theorem refO_snoc (a b by_ now : Int) (l : List Cd) (c : Cd) : refO a b by_ now (l ++ [c]) = if rankN a b by_ c = 65535 then refO a b by_ now l else insB (betB a b by_ now) (refO a b by_ now l) c := by simp [refO]
theorem insB_len (lt : Cd → Cd → Bool) (q : List Cd) (x : Cd) : (insB lt q x).length = q.length + 1 := by
  have := congrArg List.length (List.takeWhile_append_dropWhile (p := (lt · x)) (l := q))
  rw [List.length_append] at this
  simp only [insB, List.length_append, List.length_cons]; omega
theorem insB_mem {lt : Cd → Cd → Bool} {q : List Cd} {x y : Cd} : y ∈ insB lt q x ↔ y = x ∨ y ∈ q := by
  have : y ∈ q ↔ y ∈ q.takeWhile (lt · x) ++ q.dropWhile (lt · x) := by rw [List.takeWhile_append_dropWhile]
  rw [this]
  simp only [insB, List.mem_append, List.mem_cons]
  constructor
  · rintro (h | h | h) <;> simp [h]
  · rintro (h | h | h) <;> simp [h]
theorem refO_mem {a b by_ now : Int} {l : List Cd} {y : Cd} (h : y ∈ refO a b by_ now l) : y ∈ l ∧ rankN a b by_ y ≠ 65535 := by
  induction l using snoc_ind with
  | h0 => cases h
  | h1 l c ih =>
    rw [refO_snoc] at h
    split at h
    · have := ih h; exact ⟨List.mem_append_left _ this.1, this.2⟩
    · rename_i e
      rcases insB_mem.1 h with rfl | h
      · exact ⟨by simp, e⟩
      · have := ih h; exact ⟨List.mem_append_left _ this.1, this.2⟩
theorem refO_len (a b by_ now : Int) (l : List Cd) : (refO a b by_ now l).length ≤ l.length := by
  induction l using snoc_ind with
  | h0 => simp [refO]
  | h1 l c ih =>
    rw [refO_snoc]
    split
    · simp; omega
    · rw [insB_len]; simp; omega

theorem tw_at {p : Cd → Bool} : ∀ {q : List Cd} {j : Nat}, (q.take j).all p = true → (j < q.length → p (q.getD j ⟨0, 0, 0⟩) = false) → q.takeWhile p = q.take j ∧ q.dropWhile p = q.drop j
  | [], j, _, _ => by simp
  | x :: q, 0, _, h => by
    have := h (by simp)
    simp at this
    simp [List.takeWhile, List.dropWhile, this]
  | x :: q, j + 1, ha, h => by
    simp only [List.take_succ_cons, List.all_cons, Bool.and_eq_true] at ha
    have := tw_at (q := q) (j := j) ha.2 (fun hj => by have := h (by simp; omega); simpa [List.getD] using this)
    simp [List.takeWhile, List.dropWhile, ha.1, this]

theorem rorder_spec (a b by_ now : Int) (h1 : okFn a b = true) (h2 : isLeast by_ = true) (l : List Cd) (hr : l.all oneB = true) (ex : Bool) (h : AHeap) (hn : l.length ≤ 12) :
    PureA Try.prog 48 [.agg [.int .i64 a, .int .i64 b], .int .i64 by_, .int .i64 now, .ro (cat encC l) l.length ex] h (.ro (cat encC (refO a b by_ now l)) (refO a b by_ now l).length false) := by
  refine Grow.pure (esz := 3) ?_
  (refine CallsA.enterR (ac := c48) (rs := r48) Try.func48 rfl (by decide) c48_ok r48_ok ?_; intro Q hQ; simp only [go_sem, Int.reduceEq, Int.reduceAdd, Int.reduceSub, Int.reduceMul, Nat.reduceLT, Int.reduceLT, Int.reduceLE, Int.reduceToNat, Nat.reduceAdd, Nat.reduceSub, Nat.reduceMul, Nat.reduceLeDiff, reduceCtorEq, c48, Try.ntmps48])
  refine loop_sh d48_0 (fun x : Nat × AV => l.length - x.1) (fun x s => (s.set 9 x.2).set 10 (.int .i64 (x.1 : Int))) (fun x H => x.1 ≤ l.length ∧ Grow h 3 x.2 (cat encC (refO a b by_ now (l.take x.1))) (refO a b by_ now (l.take x.1)).length H) (0, .nils) ?_ ⟨Nat.zero_le _, Grow.nil⟩ ?_
  · (simp only [go_sem, Int.reduceEq, Int.reduceAdd, Int.reduceSub, Int.reduceMul, Nat.reduceLT, Int.reduceLT, Int.reduceLE, Int.reduceToNat, Nat.reduceAdd, Nat.reduceSub, Nat.reduceMul, Nat.reduceLeDiff, reduceCtorEq, d48_0] <;> rfl)
  rintro N ⟨k, v⟩ H ⟨hk, g⟩ hN
  simp only at hk g
  simp only [go_sem, Int.reduceEq, Int.reduceAdd, Int.reduceSub, Int.reduceMul, Nat.reduceLT, Int.reduceLT, Int.reduceLE, Int.reduceToNat, Nat.reduceAdd, Nat.reduceSub, Nat.reduceMul, Nat.reduceLeDiff, reduceCtorEq, d48_0]
  have hadd := wadd1 (k := k) (by omega)
  by_cases hlt : k < l.length
  · have hone : oneB l[k] = true := List.all_eq_true.1 hr _ (List.getElem_mem hlt)
    have hok := okRank_of h1 h2 hone
    have hsn := refO_snoc a b by_ now (l.take k) l[k]
    rw [← List.take_succ_eq_append_getElem hlt] at hsn
    have hql := refO_len a b by_ now (l.take k)
    rw [List.length_take] at hql
    simp only [go_sem, Int.reduceEq, Int.reduceAdd, Int.reduceSub, Int.reduceMul, Nat.reduceLT, Int.reduceLT, Int.reduceLE, Int.reduceToNat, Nat.reduceAdd, Nat.reduceSub, Nat.reduceMul, Nat.reduceLeDiff, reduceCtorEq, hlt, rd_all encC_len hlt]
    refine (rrank_spec a b by_ l[k] hok _).use ?_
    cases e1 : decide (rankN a b by_ l[k] = 65535)
    rotate_left
    · rw [if_pos (of_decide_eq_true e1)] at hsn
      simp only [go_sem, Int.reduceEq, Int.reduceAdd, Int.reduceSub, Int.reduceMul, Nat.reduceLT, Int.reduceLT, Int.reduceLE, Int.reduceToNat, Nat.reduceAdd, Nat.reduceSub, Nat.reduceMul, Nat.reduceLeDiff, reduceCtorEq, e1, hadd]
      refine hN (k + 1, v) _ _ _ (by simp only; omega) ?_ (FzH.refl _) ⟨hlt, by simp only; rw [hsn]; exact g⟩
      simp only [go_sem, Int.reduceEq, Int.reduceAdd, Int.reduceSub, Int.reduceMul, Nat.reduceLT, Int.reduceLT, Int.reduceLE, Int.reduceToNat, Nat.reduceAdd, Nat.reduceSub, Nat.reduceMul, Nat.reduceLeDiff, reduceCtorEq, d48_0]
    rw [if_neg (of_decide_eq_false e1)] at hsn
    have hqm : ∀ y ∈ refO a b by_ now (l.take k), okRank a b by_ y = true := fun y hy => okRank_of h1 h2 (List.all_eq_true.1 hr _ (List.mem_of_mem_take (refO_mem hy).1))
    simp only [go_sem, Int.reduceEq, Int.reduceAdd, Int.reduceSub, Int.reduceMul, Nat.reduceLT, Int.reduceLT, Int.reduceLE, Int.reduceToNat, Nat.reduceAdd, Nat.reduceSub, Nat.reduceMul, Nat.reduceLeDiff, reduceCtorEq, e1]
    generalize hq : refO a b by_ now (l.take k) = q at *
    refine loop_sz d48_1 [(9, .ro (cat encC q) q.length false)] (fun j : Nat => q.length - j) (fun j s => s.set 11 (.int .i64 (j : Int))) (fun j H => H = h ∧ j ≤ q.length ∧ (q.take j).all (betB a b by_ now · l[k]) = true) 0 h g.fzH ?_ ⟨rfl, Nat.zero_le _, by simp⟩ ?_
    · simp only [go_sem, Int.reduceEq, Int.reduceAdd, Int.reduceSub, Int.reduceMul, Nat.reduceLT, Int.reduceLT, Int.reduceLE, Int.reduceToNat, Nat.reduceAdd, Nat.reduceSub, Nat.reduceMul, Nat.reduceLeDiff, reduceCtorEq, d48_1, setAll_nil, setAll_cons]
      (repeat' (first | exact FzL.nil | exact Fz.refl _ | exact FzL.refl _ _ _ | exact Fz.nils | exact Grow.fz (by assumption) | refine FzL.cons ?_ ?_ | refine Fz.agg ?_ | refine Fz.tup ?_ | refine Fz.ro ?_ (by simp)))
    rintro N2 j H2 ⟨rfl, hj, hall⟩ hN2
    simp only [go_sem, Int.reduceEq, Int.reduceAdd, Int.reduceSub, Int.reduceMul, Nat.reduceLT, Int.reduceLT, Int.reduceLE, Int.reduceToNat, Nat.reduceAdd, Nat.reduceSub, Nat.reduceMul, Nat.reduceLeDiff, reduceCtorEq, d48_1, setAll_nil, setAll_cons]
    have haddj := wadd1 (k := j) (by omega)
    have done : (j < q.length → betB a b by_ now (q.getD j ⟨0, 0, 0⟩) (l[k]'hlt) = false) → refO a b by_ now (l.take (k + 1)) = q.take j ++ l[k] :: q.drop j := fun hd => by
      obtain ⟨t1, t2⟩ := tw_at (p := (betB a b by_ now · l[k])) hall hd
      rw [hsn]; unfold insB; rw [t1, t2]
    have l1 : (q.take j).length ≤ 12 := by rw [List.length_take]; omega
    have l2 : (q.drop j).length ≤ 12 := by rw [List.length_drop]; omega
    have fin : refO a b by_ now (l.take (k + 1)) = q.take j ++ l[k] :: q.drop j → ∀ {v' H'}, Grow H2 3 v' ([] ++ cat encC (q.take j) ++ encC l[k] ++ cat encC (q.drop j)) (0 + (q.take j).length + 1 + (q.drop j).length) H' → Grow H2 3 v' (cat encC (refO a b by_ now (l.take (k + 1)))) (refO a b by_ now (l.take (k + 1))).length H' := fun e v' H' g3 => by
      rw [e, cat_append, cat_cons, List.length_append, List.length_cons]
      simpa [List.append_assoc, Nat.add_assoc, Nat.add_comm 1] using g3
    by_cases hjq : j < q.length
    · have hqj : okRank a b by_ (q[j]'hjq) = true := hqm _ (List.getElem_mem hjq)
      have hgd : q.getD j ⟨0, 0, 0⟩ = q[j]'hjq := by simp [List.getD, hjq]
      simp only [go_sem, Int.reduceEq, Int.reduceAdd, Int.reduceSub, Int.reduceMul, Nat.reduceLT, Int.reduceLT, Int.reduceLE, Int.reduceToNat, Nat.reduceAdd, Nat.reduceSub, Nat.reduceMul, Nat.reduceLeDiff, reduceCtorEq, hjq, hlt, rd_all encC_len hlt, rd_all encC_len hjq]
      refine (better_spec a b by_ now h2 (q[j]'hjq) l[k] hqj hok _).use ?_
      cases e2 : betB a b by_ now (q[j]'hjq) l[k]
      · have hF := fun v' H' => fin (done fun _ => by rw [hgd]; exact e2) (v' := v') (H' := H')
        simp only [go_sem, Int.reduceEq, Int.reduceAdd, Int.reduceSub, Int.reduceMul, Nat.reduceLT, Int.reduceLT, Int.reduceLE, Int.reduceToNat, Nat.reduceAdd, Nat.reduceSub, Nat.reduceMul, Nat.reduceLeDiff, reduceCtorEq]
        refine frz_id ?_
        simp only [go_sem, Int.reduceEq, Int.reduceAdd, Int.reduceSub, Int.reduceMul, Nat.reduceLT, Int.reduceLT, Int.reduceLE, Int.reduceToNat, Nat.reduceAdd, Nat.reduceSub, Nat.reduceMul, Nat.reduceLeDiff, reduceCtorEq, sl_hi encC_len (Nat.le_of_lt hjq), hlt, rd_all encC_len hlt, encC]
        refine (Grow.lit (h0 := H2) (esz := 3) (cs := []) (n := 0) rfl rfl).addN (by rw [cat_len encC_len]) (cat_sca encC_sca _) (by omega) fun v1 H1 g1 => ?_
        simp only [go_sem, Int.reduceEq, Int.reduceAdd, Int.reduceSub, Int.reduceMul, Nat.reduceLT, Int.reduceLT, Int.reduceLE, Int.reduceToNat, Nat.reduceAdd, Nat.reduceSub, Nat.reduceMul, Nat.reduceLeDiff, reduceCtorEq, rd_all encC_len hlt, encC]
        refine g1.add1 (x := encC l[k]) rfl rfl (by omega) fun v2 H2' g2 => ?_
        simp only [go_sem, Int.reduceEq, Int.reduceAdd, Int.reduceSub, Int.reduceMul, Nat.reduceLT, Int.reduceLT, Int.reduceLE, Int.reduceToNat, Nat.reduceAdd, Nat.reduceSub, Nat.reduceMul, Nat.reduceLeDiff, reduceCtorEq, sl_lo encC_len (Nat.le_of_lt hjq)]
        refine g2.addN (by rw [cat_len encC_len]) (cat_sca encC_sca _) (by omega) fun v3 H3 g3 => ?_
        simp only [go_sem, Int.reduceEq, Int.reduceAdd, Int.reduceSub, Int.reduceMul, Nat.reduceLT, Int.reduceLT, Int.reduceLE, Int.reduceToNat, Nat.reduceAdd, Nat.reduceSub, Nat.reduceMul, Nat.reduceLeDiff, reduceCtorEq, hadd]
        refine hN (k + 1, v3) _ _ _ (by simp only; omega) ?_ (FzH.refl _) ⟨hlt, hF _ _ g3⟩
        simp only [go_sem, Int.reduceEq, Int.reduceAdd, Int.reduceSub, Int.reduceMul, Nat.reduceLT, Int.reduceLT, Int.reduceLE, Int.reduceToNat, Nat.reduceAdd, Nat.reduceSub, Nat.reduceMul, Nat.reduceLeDiff, reduceCtorEq, d48_0]
      · have hta := take_all (p := (betB a b by_ now · l[k])) hjq hall
        simp only [go_sem, Int.reduceEq, Int.reduceAdd, Int.reduceSub, Int.reduceMul, Nat.reduceLT, Int.reduceLT, Int.reduceLE, Int.reduceToNat, Nat.reduceAdd, Nat.reduceSub, Nat.reduceMul, Nat.reduceLeDiff, reduceCtorEq, haddj]
        refine hN2 (j + 1) _ _ _ (by omega) (FzH.refl _) ?_ ⟨rfl, hjq, by rw [hta]; exact e2⟩
        simp only [go_sem, Int.reduceEq, Int.reduceAdd, Int.reduceSub, Int.reduceMul, Nat.reduceLT, Int.reduceLT, Int.reduceLE, Int.reduceToNat, Nat.reduceAdd, Nat.reduceSub, Nat.reduceMul, Nat.reduceLeDiff, reduceCtorEq, d48_1, setAll_nil, setAll_cons]
    · have hF := fun v' H' => fin (done fun h => absurd h hjq) (v' := v') (H' := H')
      have hjl : j ≤ q.length := hj
      simp only [go_sem, Int.reduceEq, Int.reduceAdd, Int.reduceSub, Int.reduceMul, Nat.reduceLT, Int.reduceLT, Int.reduceLE, Int.reduceToNat, Nat.reduceAdd, Nat.reduceSub, Nat.reduceMul, Nat.reduceLeDiff, reduceCtorEq, hjq]
      refine frz_id ?_
      simp only [go_sem, Int.reduceEq, Int.reduceAdd, Int.reduceSub, Int.reduceMul, Nat.reduceLT, Int.reduceLT, Int.reduceLE, Int.reduceToNat, Nat.reduceAdd, Nat.reduceSub, Nat.reduceMul, Nat.reduceLeDiff, reduceCtorEq, sl_hi encC_len hjl, hlt, rd_all encC_len hlt, encC]
      refine (Grow.lit (h0 := H2) (esz := 3) (cs := []) (n := 0) rfl rfl).addN (by rw [cat_len encC_len]) (cat_sca encC_sca _) (by omega) fun v1 H1 g1 => ?_
      simp only [go_sem, Int.reduceEq, Int.reduceAdd, Int.reduceSub, Int.reduceMul, Nat.reduceLT, Int.reduceLT, Int.reduceLE, Int.reduceToNat, Nat.reduceAdd, Nat.reduceSub, Nat.reduceMul, Nat.reduceLeDiff, reduceCtorEq, rd_all encC_len hlt, encC]
      refine g1.add1 (x := encC l[k]) rfl rfl (by omega) fun v2 H2' g2 => ?_
      simp only [go_sem, Int.reduceEq, Int.reduceAdd, Int.reduceSub, Int.reduceMul, Nat.reduceLT, Int.reduceLT, Int.reduceLE, Int.reduceToNat, Nat.reduceAdd, Nat.reduceSub, Nat.reduceMul, Nat.reduceLeDiff, reduceCtorEq, sl_lo encC_len hjl]
      refine g2.addN (by rw [cat_len encC_len]) (cat_sca encC_sca _) (by omega) fun v3 H3 g3 => ?_
      simp only [go_sem, Int.reduceEq, Int.reduceAdd, Int.reduceSub, Int.reduceMul, Nat.reduceLT, Int.reduceLT, Int.reduceLE, Int.reduceToNat, Nat.reduceAdd, Nat.reduceSub, Nat.reduceMul, Nat.reduceLeDiff, reduceCtorEq, hadd]
      refine hN (k + 1, v3) _ _ _ (by simp only; omega) ?_ (FzH.refl _) ⟨hlt, hF _ _ g3⟩
      simp only [go_sem, Int.reduceEq, Int.reduceAdd, Int.reduceSub, Int.reduceMul, Nat.reduceLT, Int.reduceLT, Int.reduceLE, Int.reduceToNat, Nat.reduceAdd, Nat.reduceSub, Nat.reduceMul, Nat.reduceLeDiff, reduceCtorEq, d48_0]
  · have hkl : k = l.length := by omega
    subst hkl
    rw [List.take_length] at g
    simp only [go_sem, Int.reduceEq, Int.reduceAdd, Int.reduceSub, Int.reduceMul, Nat.reduceLT, Int.reduceLT, Int.reduceLE, Int.reduceToNat, Nat.reduceAdd, Nat.reduceSub, Nat.reduceMul, Nat.reduceLeDiff, reduceCtorEq, hlt]
    refine frz_id ?_
    simp only [go_sem, Int.reduceEq, Int.reduceAdd, Int.reduceSub, Int.reduceMul, Nat.reduceLT, Int.reduceLT, Int.reduceLE, Int.reduceToNat, Nat.reduceAdd, Nat.reduceSub, Nat.reduceMul, Nat.reduceLeDiff, reduceCtorEq]
    refine hQ _ _ _ _ _ _ (.inr rfl) rfl (FzH.refl _) (FzL.refl _ _ _) g

/-! ### The plain law -/

def pfN (now : Int) (c : Cd) : Int := if c.n = now then 0 else 1
/-- One candidate is ahead of another one, by five numbers. -/
def KL (a b by_ now : Int) (x y : Cd) : Prop :=
  rankN a b by_ x / by_ < rankN a b by_ y / by_ ∨ rankN a b by_ x / by_ = rankN a b by_ y / by_ ∧ (pfN now x < pfN now y ∨ pfN now x = pfN now y ∧ (x.r < y.r ∨ x.r = y.r ∧ (x.k < y.k ∨ x.k = y.k ∧ x.n < y.n)))

theorem KL.asym {a b by_ now : Int} {x y : Cd} (h1 : KL a b by_ now x y) (h2 : KL a b by_ now y x) : False := by
  unfold KL at *
  generalize rankN a b by_ x / by_ = X at *
  generalize rankN a b by_ y / by_ = Y at *
  omega
theorem KL.trans {a b by_ now : Int} {x y z : Cd} (h1 : KL a b by_ now x y) (h2 : KL a b by_ now y z) : KL a b by_ now x z := by
  unfold KL at *
  generalize rankN a b by_ x / by_ = X at *
  generalize rankN a b by_ y / by_ = Y at *
  generalize rankN a b by_ z / by_ = Z at *
  omega
theorem KL.tri {a b by_ now : Int} {x y : Cd} (h : x.n ≠ y.n) : KL a b by_ now x y ∨ KL a b by_ now y x := by
  unfold KL
  generalize rankN a b by_ x / by_ = X at *
  generalize rankN a b by_ y / by_ = Y at *
  omega

theorem or0_cons (x y : Int) (l : List Int) : or0 (cmpI x y :: l) < 0 ↔ (x < y ∨ x = y ∧ or0 l < 0) := by
  show (if cmpI x y = 0 then or0 l else cmpI x y) < 0 ↔ _
  unfold cmpI
  by_cases h1 : x < y
  · simp [h1]
  · by_cases h2 : y < x
    · simp [h1, h2]; omega
    · have : x = y := by omega
      simp [h1, h2, this]
theorem or0_nil' : ¬ or0 [] < 0 := by simp [or0]

theorem zC_KL {a b by_ now : Int} {x y : Off} (hx : x.v = rankN a b by_ x.c) (hy : y.v = rankN a b by_ y.c) : zC by_ now x y < 0 ↔ KL a b by_ now x.c y.c := by
  simp only [zC, or0_cons, or0_nil', and_false, or_false, KL, hx, hy]
  rfl

theorem betB_KL {a b by_ now : Int} {x y : Cd} (h : x.n ≠ y.n) : betB a b by_ now x y = true ↔ KL a b by_ now x y := by
  unfold betB KL pfN
  generalize rankN a b by_ x / by_ = X at *
  generalize rankN a b by_ y / by_ = Y at *
  by_cases e1 : X = Y
  · simp only [e1, ne_eq, not_true_eq_false, if_false, Int.lt_irrefl, false_or, true_and]
    by_cases e2 : x.n = now
    · have e3 : ¬ y.n = now := fun e => h (by rw [e2, e])
      simp [e2, e3]
    · by_cases e3 : y.n = now
      · simp [e2, e3]
      · simp only [e2, e3, or_self, if_false, Int.lt_irrefl, false_or, true_and]
        by_cases e4 : x.r = y.r
        · by_cases e5 : x.k = y.k
          · simp [e4, e5]
          · simp [e4, e5]
        · simp [e4]
  · simp [e1]

/-- Sorted, each node once. -/
def Srt (a b by_ now : Int) (q : List Cd) : Prop := q.Pairwise (KL a b by_ now)

theorem insB_srt {a b by_ now : Int} {q : List Cd} {x : Cd} (hq : Srt a b by_ now q) (hn : ∀ y ∈ q, y.n ≠ x.n) : Srt a b by_ now (insB (betB a b by_ now) q x) := by
  have hb : ∀ y ∈ q, betB a b by_ now y x = true ↔ KL a b by_ now y x := fun y hy => betB_KL (hn y hy)
  have hspl := List.takeWhile_append_dropWhile (p := (betB a b by_ now · x)) (l := q)
  have hall : ∀ y ∈ q.takeWhile (betB a b by_ now · x), KL a b by_ now y x := fun y hy => by
    have h1 := List.all_eq_true.1 (List.all_takeWhile (p := (betB a b by_ now · x)) (l := q)) y hy
    exact (hb y (List.takeWhile_subset _ hy)).1 h1
  unfold Srt insB
  have hq' := hq
  unfold Srt at hq'
  rw [← hspl, List.pairwise_append] at hq'
  obtain ⟨p1, p2, p3⟩ := hq'
  have hdrop : ∀ y ∈ q.dropWhile (betB a b by_ now · x), KL a b by_ now x y := by
    cases e : q.dropWhile (betB a b by_ now · x) with
    | nil => simp
    | cons z r =>
      have hz : z ∈ q := List.dropWhile_subset _ (by rw [e]; simp)
      have hnz : ¬ betB a b by_ now z x = true := by
        have := List.head?_dropWhile_not (p := (betB a b by_ now · x)) q
        rw [e] at this
        simpa using this
      have hxz : KL a b by_ now x z := by
        rcases KL.tri (a := a) (b := b) (by_ := by_) (now := now) (hn z hz) with h | h
        · exact absurd ((hb z hz).2 h) hnz
        · exact h
      rw [e, List.pairwise_cons] at p2
      intro y hy
      rcases List.mem_cons.1 hy with rfl | hy
      · exact hxz
      · exact hxz.trans (p2.1 y hy)
  rw [List.pairwise_append, List.pairwise_cons]
  refine ⟨p1, ⟨hdrop, p2⟩, fun y hy z hz => ?_⟩
  rcases List.mem_cons.1 hz with rfl | hz
  · exact hall y hy
  · exact (hall y hy).trans (hdrop z hz)

theorem insB_perm (lt : Cd → Cd → Bool) (q : List Cd) (x : Cd) : (insB lt q x).Perm (q ++ [x]) := by
  unfold insB
  refine (List.perm_middle).trans ?_
  rw [List.takeWhile_append_dropWhile]
  exact (List.perm_append_singleton x q).symm

theorem refO_perm (a b by_ now : Int) (l : List Cd) : (refO a b by_ now l).Perm ((offL a b by_ l).map (·.c)) := by
  induction l using snoc_ind with
  | h0 => exact .refl _
  | h1 l c ih =>
    rw [refO_snoc, offL_snoc, List.map_append]
    split
    · simpa using ih
    · exact (insB_perm _ _ _).trans (ih.append_right _)

theorem refO_srt {a b by_ now : Int} {l : List Cd} (hn : (l.map (·.n)).Nodup) : Srt a b by_ now (refO a b by_ now l) := by
  induction l using snoc_ind with
  | h0 => exact .nil
  | h1 l c ih =>
    rw [List.map_append, List.nodup_append] at hn
    obtain ⟨n1, _, n3⟩ := hn
    rw [refO_snoc]
    split
    · exact ih n1
    · exact insB_srt (ih n1) fun y hy => n3 _ (List.mem_map_of_mem (refO_mem hy).1) _ (by simp)

theorem ord_eq {a b by_ now : Int} {l : List Cd} (hr : rightL l = true) : ordL a b by_ now l = refO a b by_ now l := by
  simp only [rightL, Bool.and_eq_true, decide_eq_true_eq] at hr
  have hnd : ((offL a b by_ l).map (·.c.n)).Nodup := by
    have e1 : (offL a b by_ l).map (·.c) = l.filter fun c => !decide (rankN a b by_ c = 65535) := by
      clear hr
      induction l with
      | nil => rfl
      | cons c l ih =>
        unfold offL at ih ⊢
        rw [List.filterMap_cons, List.filter_cons]
        by_cases e : rankN a b by_ c = 65535 <;> simp [e, ih]
    have : (offL a b by_ l).map (·.c.n) = ((offL a b by_ l).map (·.c)).map (·.n) := by rw [List.map_map]; rfl
    rw [this, e1]
    exact hr.2.sublist (List.Sublist.map _ List.filter_sublist)
  have hv : ∀ o ∈ isort (zC by_ now) (offL a b by_ l), o.v = rankN a b by_ o.c := fun o ho => (mem_off (mem_isort.1 ho)).2.1
  have hpm := isort_perm (c := zC by_ now) (offL a b by_ l)
  have hnd2 : ((isort (zC by_ now) (offL a b by_ l)).map (·.c.n)).Nodup := (hpm.map (·.c.n)).nodup_iff.2 hnd
  refine sorted_eq (lt := KL a b by_ now) (fun x y h1 h2 => h1.asym h2) ?_ ?_ (refO_srt hr.2)
  · exact (hpm.map (·.c)).trans (refO_perm a b by_ now l).symm
  · have key : (isort (zC by_ now) (offL a b by_ l)).Pairwise (fun x y => ¬ zC by_ now y x < 0) := by
      have hz : ∀ x y : Off, zC by_ now x y < 0 ↔ (x.v / by_ < y.v / by_ ∨ x.v / by_ = y.v / by_ ∧ (prefN now x < prefN now y ∨ prefN now x = prefN now y ∧ (x.c.r < y.c.r ∨ x.c.r = y.c.r ∧ (x.c.k < y.c.k ∨ x.c.k = y.c.k ∧ x.c.n < y.c.n)))) := fun x y => by
        simp only [zC, or0_cons, or0_nil', and_false, or_false]
      refine isort_sorted (fun x y h1 h2 => ?_) (fun x y z h1 h2 h3 => ?_) _
      · rw [hz] at h1 h2
        generalize x.v / by_ = X at *
        generalize y.v / by_ = Y at *
        omega
      · rw [hz] at h1 h2 h3
        generalize x.v / by_ = X at *
        generalize y.v / by_ = Y at *
        generalize z.v / by_ = Z at *
        omega
    unfold ordL
    rw [List.pairwise_map]
    rw [List.nodup_iff_pairwise_ne, List.pairwise_map] at hnd2
    refine (key.and hnd2).imp_of_mem fun {x y} hx hy h => ?_
    rcases KL.tri (a := a) (b := b) (by_ := by_) (now := now) h.2 with h1 | h1
    · exact h1
    · exact absurd ((zC_KL (hv y hy) (hv x hx)).2 h1) h.1

theorem orders_spec (a b by_ now : Int) (l : List Cd) (h : AHeap) (hn : l.length ≤ 9223372036854775807) : PureA Try.prog 9 [.agg [.int .i64 a, .int .i64 b], .int .i64 by_, .int .i64 now, .ro (cat encC l) l.length false] h (.bool true) := by
  have h12 : (l.take 12).length ≤ 12 := by rw [List.length_take]; omega
  have hle : (l.take 12).length ≤ l.length := by rw [List.length_take]; omega
  (refine PureA.enter (ac := c9) (rs := r9) Try.func9 rfl (by decide) c9_ok r9_ok ?_; intro Q hQ; simp only [go_sem, Int.reduceEq, Int.reduceAdd, Int.reduceSub, Int.reduceMul, Nat.reduceLT, Int.reduceLT, Int.reduceLE, Int.reduceToNat, Nat.reduceAdd, Nat.reduceSub, Nat.reduceMul, Nat.reduceLeDiff, reduceCtorEq, c9, Try.ntmps9])
  intro p hp
  simp only [go_sem, Int.reduceEq, Int.reduceAdd, Int.reduceSub, Int.reduceMul, Nat.reduceLT, Int.reduceLT, Int.reduceLE, Int.reduceToNat, Nat.reduceAdd, Nat.reduceSub, Nat.reduceMul, Nat.reduceLeDiff, reduceCtorEq, del_same, del_none hp]
  refine (to15_spec l false _ hn).use ?_
  simp only [go_sem, Int.reduceEq, Int.reduceAdd, Int.reduceSub, Int.reduceMul, Nat.reduceLT, Int.reduceLT, Int.reduceLE, Int.reduceToNat, Nat.reduceAdd, Nat.reduceSub, Nat.reduceMul, Nat.reduceLeDiff, reduceCtorEq, sl_hi encC_len hle, take12]
  generalize hm : l.take 12 = m at *
  refine (order_spec a b by_ now m _ _ h12).use ?_
  simp only [go_sem, Int.reduceEq, Int.reduceAdd, Int.reduceSub, Int.reduceMul, Nat.reduceLT, Int.reduceLT, Int.reduceLE, Int.reduceToNat, Nat.reduceAdd, Nat.reduceSub, Nat.reduceMul, Nat.reduceLeDiff, reduceCtorEq]
  refine (zchoose_spec a b by_ now m _ _ h12).use ?_
  simp only [go_sem, Int.reduceEq, Int.reduceAdd, Int.reduceSub, Int.reduceMul, Nat.reduceLT, Int.reduceLT, Int.reduceLE, Int.reduceToNat, Nat.reduceAdd, Nat.reduceSub, Nat.reduceMul, Nat.reduceLeDiff, reduceCtorEq]
  refine (zright_spec m _ _ (by omega)).use ?_
  simp only [go_sem, Int.reduceEq, Int.reduceAdd, Int.reduceSub, Int.reduceMul, Nat.reduceLT, Int.reduceLT, Int.reduceLE, Int.reduceToNat, Nat.reduceAdd, Nat.reduceSub, Nat.reduceMul, Nat.reduceLeDiff, reduceCtorEq]
  refine (rright_spec m _ _ (by omega)).use ?_
  simp only [go_sem, Int.reduceEq, Int.reduceAdd, Int.reduceSub, Int.reduceMul, Nat.reduceLT, Int.reduceLT, Int.reduceLE, Int.reduceToNat, Nat.reduceAdd, Nat.reduceSub, Nat.reduceMul, Nat.reduceLeDiff, reduceCtorEq, show ∀ b : Bool, (b == b) = true from fun b => by cases b <;> rfl]
  have bad : okOrd a b by_ m = false → ordR a b by_ now m = [] := fun e => by unfold ordR; rw [e]; rfl
  refine (good15_spec a b _).use ?_
  cases g1 : okFn a b
  · have hk : okOrd a b by_ m = false := by unfold okOrd; rw [g1]; rfl
    simp only [go_sem, Int.reduceEq, Int.reduceAdd, Int.reduceSub, Int.reduceMul, Nat.reduceLT, Int.reduceLT, Int.reduceLE, Int.reduceToNat, Nat.reduceAdd, Nat.reduceSub, Nat.reduceMul, Nat.reduceLeDiff, reduceCtorEq]
    refine (known15_spec _).use ?_
    simp only [go_sem, Int.reduceEq, Int.reduceAdd, Int.reduceSub, Int.reduceMul, Nat.reduceLT, Int.reduceLT, Int.reduceLE, Int.reduceToNat, Nat.reduceAdd, Nat.reduceSub, Nat.reduceMul, Nat.reduceLeDiff, reduceCtorEq, hk, bad hk, List.length_nil, List.head?_nil, Option.getD_none, Option.map_none]
    (refine hQ _ _ _ _ _ (by first | exact .inr rfl | exact .inl rfl) rfl (by first | exact FzH.refl _ | exact FzH.sub (by (repeat' (first | exact Sub.refl _ | assumption | (refine Sub.upd ?_ (by first | assumption | (simp only [*]; done) | exact Sub.isNone (by assumption) (by assumption) | exact Sub.isNone (by assumption) (by simp only [*]))))))) (FzL.refl _ _ _) ?_; try (simp only [go_sem, Int.reduceEq, Int.reduceAdd, Int.reduceSub, Int.reduceMul, Nat.reduceLT, Int.reduceLT, Int.reduceLE, Int.reduceToNat, Nat.reduceAdd, Nat.reduceSub, Nat.reduceMul, Nat.reduceLeDiff, reduceCtorEq]))
  simp only [go_sem, Int.reduceEq, Int.reduceAdd, Int.reduceSub, Int.reduceMul, Nat.reduceLT, Int.reduceLT, Int.reduceLE, Int.reduceToNat, Nat.reduceAdd, Nat.reduceSub, Nat.reduceMul, Nat.reduceLeDiff, reduceCtorEq]
  refine (rright_spec m _ _ (by omega)).use ?_
  cases g2 : rightL m
  · have hk : okOrd a b by_ m = false := by unfold okOrd; rw [g2, Bool.and_false]; rfl
    simp only [go_sem, Int.reduceEq, Int.reduceAdd, Int.reduceSub, Int.reduceMul, Nat.reduceLT, Int.reduceLT, Int.reduceLE, Int.reduceToNat, Nat.reduceAdd, Nat.reduceSub, Nat.reduceMul, Nat.reduceLeDiff, reduceCtorEq]
    refine (known15_spec _).use ?_
    simp only [go_sem, Int.reduceEq, Int.reduceAdd, Int.reduceSub, Int.reduceMul, Nat.reduceLT, Int.reduceLT, Int.reduceLE, Int.reduceToNat, Nat.reduceAdd, Nat.reduceSub, Nat.reduceMul, Nat.reduceLeDiff, reduceCtorEq, hk, bad hk, List.length_nil, List.head?_nil, Option.getD_none, Option.map_none]
    (refine hQ _ _ _ _ _ (by first | exact .inr rfl | exact .inl rfl) rfl (by first | exact FzH.refl _ | exact FzH.sub (by (repeat' (first | exact Sub.refl _ | assumption | (refine Sub.upd ?_ (by first | assumption | (simp only [*]; done) | exact Sub.isNone (by assumption) (by assumption) | exact Sub.isNone (by assumption) (by simp only [*]))))))) (FzL.refl _ _ _) ?_; try (simp only [go_sem, Int.reduceEq, Int.reduceAdd, Int.reduceSub, Int.reduceMul, Nat.reduceLT, Int.reduceLT, Int.reduceLE, Int.reduceToNat, Nat.reduceAdd, Nat.reduceSub, Nat.reduceMul, Nat.reduceLeDiff, reduceCtorEq]))
  simp only [go_sem, Int.reduceEq, Int.reduceAdd, Int.reduceSub, Int.reduceMul, Nat.reduceLT, Int.reduceLT, Int.reduceLE, Int.reduceToNat, Nat.reduceAdd, Nat.reduceSub, Nat.reduceMul, Nat.reduceLeDiff, reduceCtorEq]
  refine (rleast_spec by_ _).use ?_
  cases g3 : isLeast by_
  · have hk : okOrd a b by_ m = false := by unfold okOrd; rw [g3, Bool.and_false]
    simp only [go_sem, Int.reduceEq, Int.reduceAdd, Int.reduceSub, Int.reduceMul, Nat.reduceLT, Int.reduceLT, Int.reduceLE, Int.reduceToNat, Nat.reduceAdd, Nat.reduceSub, Nat.reduceMul, Nat.reduceLeDiff, reduceCtorEq]
    refine (known15_spec _).use ?_
    simp only [go_sem, Int.reduceEq, Int.reduceAdd, Int.reduceSub, Int.reduceMul, Nat.reduceLT, Int.reduceLT, Int.reduceLE, Int.reduceToNat, Nat.reduceAdd, Nat.reduceSub, Nat.reduceMul, Nat.reduceLeDiff, reduceCtorEq, hk, bad hk, List.length_nil, List.head?_nil, Option.getD_none, Option.map_none]
    (refine hQ _ _ _ _ _ (by first | exact .inr rfl | exact .inl rfl) rfl (by first | exact FzH.refl _ | exact FzH.sub (by (repeat' (first | exact Sub.refl _ | assumption | (refine Sub.upd ?_ (by first | assumption | (simp only [*]; done) | exact Sub.isNone (by assumption) (by assumption) | exact Sub.isNone (by assumption) (by simp only [*]))))))) (FzL.refl _ _ _) ?_; try (simp only [go_sem, Int.reduceEq, Int.reduceAdd, Int.reduceSub, Int.reduceMul, Nat.reduceLT, Int.reduceLT, Int.reduceLE, Int.reduceToNat, Nat.reduceAdd, Nat.reduceSub, Nat.reduceMul, Nat.reduceLeDiff, reduceCtorEq]))
  have hk : okOrd a b by_ m = true := by unfold okOrd; rw [g1, g2, g3]; rfl
  have hR : ordR a b by_ now m = ordL a b by_ now m := by unfold ordR; rw [if_pos hk]
  have hE := ord_eq (a := a) (b := b) (by_ := by_) (now := now) g2
  have hlen := refO_len a b by_ now m
  rw [hR, hE]
  simp only [go_sem, Int.reduceEq, Int.reduceAdd, Int.reduceSub, Int.reduceMul, Nat.reduceLT, Int.reduceLT, Int.reduceLE, Int.reduceToNat, Nat.reduceAdd, Nat.reduceSub, Nat.reduceMul, Nat.reduceLeDiff, reduceCtorEq]
  refine (rorder_spec a b by_ now g1 g3 m (rightL_one g2) _ _ h12).use ?_
  generalize refO a b by_ now m = q at *
  simp only [go_sem, Int.reduceEq, Int.reduceAdd, Int.reduceSub, Int.reduceMul, Nat.reduceLT, Int.reduceLT, Int.reduceLE, Int.reduceToNat, Nat.reduceAdd, Nat.reduceSub, Nat.reduceMul, Nat.reduceLeDiff, reduceCtorEq, hk]
  refine loop_range d9_0 q.length (fun k s => s.set 16 (.int .i64 k)) (fun k H => H = h) ?_ rfl ?_
  · (simp only [go_sem, Int.reduceEq, Int.reduceAdd, Int.reduceSub, Int.reduceMul, Nat.reduceLT, Int.reduceLT, Int.reduceLE, Int.reduceToNat, Nat.reduceAdd, Nat.reduceSub, Nat.reduceMul, Nat.reduceLeDiff, reduceCtorEq, d9_0] <;> rfl)
  rintro N k H hkq rfl hN
  simp only [go_sem, Int.reduceEq, Int.reduceAdd, Int.reduceSub, Int.reduceMul, Nat.reduceLT, Int.reduceLT, Int.reduceLE, Int.reduceToNat, Nat.reduceAdd, Nat.reduceSub, Nat.reduceMul, Nat.reduceLeDiff, reduceCtorEq, d9_0]
  have hadd := wadd1 (k := k) (by omega)
  by_cases hlt : k < q.length
  · simp only [go_sem, Int.reduceEq, Int.reduceAdd, Int.reduceSub, Int.reduceMul, Nat.reduceLT, Int.reduceLT, Int.reduceLE, Int.reduceToNat, Nat.reduceAdd, Nat.reduceSub, Nat.reduceMul, Nat.reduceLeDiff, reduceCtorEq, hlt, rd_all encC_len hlt]
    refine (of15_spec q[k] _).use ?_
    have he3 : eqCells [.i, .i, .i] [.int .i64 q[k].n, .int .i64 q[k].r, .int .i64 q[k].k] [.int .i64 q[k].n, .int .i64 q[k].r, .int .i64 q[k].k] = some true := by simp [eqCells, eqCell]
    simp only [go_sem, Int.reduceEq, Int.reduceAdd, Int.reduceSub, Int.reduceMul, Nat.reduceLT, Int.reduceLT, Int.reduceLE, Int.reduceToNat, Nat.reduceAdd, Nat.reduceSub, Nat.reduceMul, Nat.reduceLeDiff, reduceCtorEq, hlt, rd_all encC_len hlt, encC, he3, hadd]
    refine hN _ _ hlt ?_ rfl
    simp only [go_sem, Int.reduceEq, Int.reduceAdd, Int.reduceSub, Int.reduceMul, Nat.reduceLT, Int.reduceLT, Int.reduceLE, Int.reduceToNat, Nat.reduceAdd, Nat.reduceSub, Nat.reduceMul, Nat.reduceLeDiff, reduceCtorEq, d9_0]
  · simp only [go_sem, Int.reduceEq, Int.reduceAdd, Int.reduceSub, Int.reduceMul, Nat.reduceLT, Int.reduceLT, Int.reduceLE, Int.reduceToNat, Nat.reduceAdd, Nat.reduceSub, Nat.reduceMul, Nat.reduceLeDiff, reduceCtorEq, hlt]
    refine frz_id ?_
    by_cases he : q = []
    · have hz : decide ((q.length : Int) = 0) = true := by rw [he]; rfl
      have hd : (q.head?.map (·.n)).getD 0 = 0 := by rw [he]; rfl
      simp only [go_sem, Int.reduceEq, Int.reduceAdd, Int.reduceSub, Int.reduceMul, Nat.reduceLT, Int.reduceLT, Int.reduceLE, Int.reduceToNat, Nat.reduceAdd, Nat.reduceSub, Nat.reduceMul, Nat.reduceLeDiff, reduceCtorEq, hz]
      refine (known15_spec _).use ?_
      simp only [go_sem, Int.reduceEq, Int.reduceAdd, Int.reduceSub, Int.reduceMul, Nat.reduceLT, Int.reduceLT, Int.reduceLE, Int.reduceToNat, Nat.reduceAdd, Nat.reduceSub, Nat.reduceMul, Nat.reduceLeDiff, reduceCtorEq, he, hd, List.head?_nil, Option.map_none, Option.getD_none]
      (refine hQ _ _ _ _ _ (by first | exact .inr rfl | exact .inl rfl) rfl (by first | exact FzH.refl _ | exact FzH.sub (by (repeat' (first | exact Sub.refl _ | assumption | (refine Sub.upd ?_ (by first | assumption | (simp only [*]; done) | exact Sub.isNone (by assumption) (by assumption) | exact Sub.isNone (by assumption) (by simp only [*]))))))) (FzL.refl _ _ _) ?_; try (simp only [go_sem, Int.reduceEq, Int.reduceAdd, Int.reduceSub, Int.reduceMul, Nat.reduceLT, Int.reduceLT, Int.reduceLE, Int.reduceToNat, Nat.reduceAdd, Nat.reduceSub, Nat.reduceMul, Nat.reduceLeDiff, reduceCtorEq]))
    · have hpos := List.length_pos_iff.2 he
      have hpos' : (0 : Int) < (q.length : Int) := by omega
      have hz : decide ((q.length : Int) = 0) = false := decide_eq_false (by omega)
      have r0 := rd_cell (h := H) (off := 0) encC_len hpos (by omega)
      simp only [encC, List.drop_zero, Nat.zero_mul, List.getElem?_cons_zero] at r0
      have hd : (q.head?.map (·.n)).getD 0 = q[0].n := by rw [List.head?_eq_getElem?, List.getElem?_eq_getElem hpos]; rfl
      simp only [go_sem, Int.reduceEq, Int.reduceAdd, Int.reduceSub, Int.reduceMul, Nat.reduceLT, Int.reduceLT, Int.reduceLE, Int.reduceToNat, Nat.reduceAdd, Nat.reduceSub, Nat.reduceMul, Nat.reduceLeDiff, reduceCtorEq, hz]
      refine (known15_spec _).use ?_
      simp only [go_sem, Int.reduceEq, Int.reduceAdd, Int.reduceSub, Int.reduceMul, Nat.reduceLT, Int.reduceLT, Int.reduceLE, Int.reduceToNat, Nat.reduceAdd, Nat.reduceSub, Nat.reduceMul, Nat.reduceLeDiff, reduceCtorEq, he, hd, hpos', r0]
      (refine hQ _ _ _ _ _ (by first | exact .inr rfl | exact .inl rfl) rfl (by first | exact FzH.refl _ | exact FzH.sub (by (repeat' (first | exact Sub.refl _ | assumption | (refine Sub.upd ?_ (by first | assumption | (simp only [*]; done) | exact Sub.isNone (by assumption) (by assumption) | exact Sub.isNone (by assumption) (by simp only [*]))))))) (FzL.refl _ _ _) ?_; try (simp only [go_sem, Int.reduceEq, Int.reduceAdd, Int.reduceSub, Int.reduceMul, Nat.reduceLT, Int.reduceLT, Int.reduceLE, Int.reduceToNat, Nat.reduceAdd, Nat.reduceSub, Nat.reduceMul, Nat.reduceLeDiff, reduceCtorEq]))

theorem orders_law (xs : List AV) (h : ArgsSh Try.prog 6 Try.f9.params.toList xs) : PureA Try.prog 9 xs emp (.bool true) := by
  rw [Try.params9] at h
  simp only [ArgsSh, ArgSh, Try.underlying24, Try.underlying77, Try.underlying3] at h
  obtain ⟨x, _, rfl, hx, y, _, rfl, hy, u, _, rfl, hu, z, _, rfl, hz, rfl⟩ := h
  rw [ShC] at hz
  simp only [Try.underlying77] at hz
  simp only [Try.underlying24, Try.underlying3, ShC, ShFs] at hx hy hu
  obtain ⟨_, rfl, _, _, rfl, _, ⟨a, rfl, _⟩, _, _, rfl, _, ⟨b, rfl, _⟩, rfl⟩ := hx
  obtain ⟨m, hm, _⟩ := hy
  cases hm
  obtain ⟨n, hn, _⟩ := hu
  cases hn
  obtain ⟨els, e, hl, hels⟩ := hz
  cases e
  obtain ⟨l, e1, e2, e3⟩ := cds_sh (els := els) fun el hel => ⟨(hels el hel).1, by
    have := (hels el hel).2
    rw [ShC] at this
    simp only [Try.underlying67] at this ⊢
    exact this⟩
  rw [e1, e2]
  exact orders_spec a b m n l emp (by have := maxLen_le; omega)

end Go.Proofs.Ytaeppifdbcoipaa
