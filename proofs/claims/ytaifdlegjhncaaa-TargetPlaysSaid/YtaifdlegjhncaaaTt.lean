/-
  TargetFresh: contracts.
-/
import Derived.Test.YtaifdlegjhncaaaC3
import Derived.Test.YtaifdlegjhncaaaEX
namespace Go.Proofs.Ytaifdlegjhncaaa
open Go E
set_option linter.unusedVariables false
set_option linter.unusedSimpArgs false
set_option maxRecDepth 100000

structure Rt where
  node : Int
  via : Int
  sq : Int
  til : Int
  deriving DecidableEq
def Rt.av (r : Rt) : List AV := [.int .i64 r.node, .int .i64 r.via, .int .i64 r.sq, .int .i64 r.til]
theorem Rt.len (r : Rt) : r.av.length = 4 := rfl
theorem Rt.sca (r : Rt) : r.av.all scalar = true := rfl

def isCtr (n : Int) : Bool := decide (0 ≤ n) && decide (n < 256)
theorem valid_spec (ns : List Int) (ex : Bool) (h : AHeap) (hn : ns.length ≤ 4611686018427387904) : PureA Try.prog 26 [.ro (cat i1 ns) ns.length ex] h (.bool (ns.all isCtr)) := by
  (refine PureA.enter (ac := c26) (rs := r26) Try.func26 rfl (by decide) c26_ok r26_ok ?_; intro Q hQ; simp only [go_sem, Int.reduceEq, Int.reduceAdd, Int.reduceSub, Int.reduceMul, Nat.reduceLT, Int.reduceLT, Int.reduceLE, Int.reduceToNat, Nat.reduceAdd, Nat.reduceSub, Nat.reduceMul, Nat.reduceLeDiff, reduceCtorEq, c26, Try.ntmps26])
  refine loop_range d26_0 (ns.length) (fun k s => s.set 7 (.int .i64 k)) (fun k h' => ((ns.take k).all isCtr = true) ∧ h' = h) ?_ ⟨rfl, rfl⟩ ?_
  · (simp only [go_sem, Int.reduceEq, Int.reduceAdd, Int.reduceSub, Int.reduceMul, Nat.reduceLT, Int.reduceLT, Int.reduceLE, Int.reduceToNat, Nat.reduceAdd, Nat.reduceSub, Nat.reduceMul, Nat.reduceLeDiff, reduceCtorEq, d26_0] <;> rfl)
  rintro N k h' hk ⟨hall, rfl⟩ hN
  simp only [go_sem, Int.reduceEq, Int.reduceAdd, Int.reduceSub, Int.reduceMul, Nat.reduceLT, Int.reduceLT, Int.reduceLE, Int.reduceToNat, Nat.reduceAdd, Nat.reduceSub, Nat.reduceMul, Nat.reduceLeDiff, reduceCtorEq, d26_0]
  have hadd := wadd1 (k := k) (by omega)
  by_cases hlt : k < ns.length
  · have ht := take_all hlt hall
    have hb := all_bad (p := isCtr) hlt
    simp only [go_sem, Int.reduceEq, Int.reduceAdd, Int.reduceSub, Int.reduceMul, Nat.reduceLT, Int.reduceLT, Int.reduceLE, Int.reduceToNat, Nat.reduceAdd, Nat.reduceSub, Nat.reduceMul, Nat.reduceLeDiff, reduceCtorEq, hlt, hadd, rdI hlt]
    by_cases g1 : ns[k] < 0
    · simp only [go_sem, Int.reduceEq, Int.reduceAdd, Int.reduceSub, Int.reduceMul, Nat.reduceLT, Int.reduceLT, Int.reduceLE, Int.reduceToNat, Nat.reduceAdd, Nat.reduceSub, Nat.reduceMul, Nat.reduceLeDiff, reduceCtorEq, g1]
      refine hQ _ _ _ _ _ (by first | exact .inr rfl | exact .inl rfl) rfl (by first | exact FzH.refl _ | exact FzH.sub (by (repeat' (first | exact Sub.refl _ | assumption | (refine Sub.upd ?_ (by first | assumption | (simp only [*]; done) | exact Sub.isNone (by assumption) (by assumption) | exact Sub.isNone (by assumption) (by simp only [*]))))))) (FzL.refl _ _ _) ?_
      rw [hb (by simp [isCtr]; omega)]; rfl
    · by_cases g2 : 256 ≤ ns[k]
      · simp only [go_sem, Int.reduceEq, Int.reduceAdd, Int.reduceSub, Int.reduceMul, Nat.reduceLT, Int.reduceLT, Int.reduceLE, Int.reduceToNat, Nat.reduceAdd, Nat.reduceSub, Nat.reduceMul, Nat.reduceLeDiff, reduceCtorEq, g1, g2]
        refine hQ _ _ _ _ _ (by first | exact .inr rfl | exact .inl rfl) rfl (by first | exact FzH.refl _ | exact FzH.sub (by (repeat' (first | exact Sub.refl _ | assumption | (refine Sub.upd ?_ (by first | assumption | (simp only [*]; done) | exact Sub.isNone (by assumption) (by assumption) | exact Sub.isNone (by assumption) (by simp only [*]))))))) (FzL.refl _ _ _) ?_
        rw [hb (by simp [isCtr]; omega)]; rfl
      · simp only [go_sem, Int.reduceEq, Int.reduceAdd, Int.reduceSub, Int.reduceMul, Nat.reduceLT, Int.reduceLT, Int.reduceLE, Int.reduceToNat, Nat.reduceAdd, Nat.reduceSub, Nat.reduceMul, Nat.reduceLeDiff, reduceCtorEq, g1, g2]
        (refine hN _ _ hlt ?_ ⟨?_, rfl⟩; (simp only [go_sem, Int.reduceEq, Int.reduceAdd, Int.reduceSub, Int.reduceMul, Nat.reduceLT, Int.reduceLT, Int.reduceLE, Int.reduceToNat, Nat.reduceAdd, Nat.reduceSub, Nat.reduceMul, Nat.reduceLeDiff, reduceCtorEq, d26_0, hadd]))
        rw [ht]; simp [isCtr]; omega
  · (simp only [go_sem, Int.reduceEq, Int.reduceAdd, Int.reduceSub, Int.reduceMul, Nat.reduceLT, Int.reduceLT, Int.reduceLE, Int.reduceToNat, Nat.reduceAdd, Nat.reduceSub, Nat.reduceMul, Nat.reduceLeDiff, reduceCtorEq, hlt]; refine frz_id ?_; simp only [go_sem, Int.reduceEq, Int.reduceAdd, Int.reduceSub, Int.reduceMul, Nat.reduceLT, Int.reduceLT, Int.reduceLE, Int.reduceToNat, Nat.reduceAdd, Nat.reduceSub, Nat.reduceMul, Nat.reduceLeDiff, reduceCtorEq])
    refine hQ _ _ _ _ _ (by first | exact .inr rfl | exact .inl rfl) rfl (by first | exact FzH.refl _ | exact FzH.sub (by (repeat' (first | exact Sub.refl _ | assumption | (refine Sub.upd ?_ (by first | assumption | (simp only [*]; done) | exact Sub.isNone (by assumption) (by assumption) | exact Sub.isNone (by assumption) (by simp only [*]))))))) (FzL.refl _ _ _) ?_
    rw [List.take_of_length_le (by omega)] at hall
    rw [hall]; rfl
theorem valid1 (n : Int) (ex : Bool) (h : AHeap) : PureA Try.prog 26 [.ro [.int .i64 n] 1 ex] h (.bool (isCtr n)) := by
  have := valid_spec [n] ex h (by simp)
  simpa [cat, i1] using this
theorem valid2 (m n : Int) (ex : Bool) (h : AHeap) : PureA Try.prog 26 [.ro [.int .i64 m, .int .i64 n] 2 ex] h (.bool (isCtr m && isCtr n)) := by
  have := valid_spec [m, n] ex h (by simp)
  simpa [cat, i1] using this

def stB (a : Int) : Bool := decide (128 ≤ a)
def wdB (d : Int) : Bool := decide (1 ≤ d) && decide (d ≤ 16)
def arN (a b : Int) : Int := (b - a + 128) % 128
theorem stick_spec (a : Int) (h : AHeap) : PureA Try.prog 52 [.int .i64 a] h (.bool (stB a)) := by
  (refine PureA.enter (ac := c52) (rs := r52) Try.func52 rfl (by decide) c52_ok r52_ok ?_; intro Q hQ; simp only [go_sem, Int.reduceEq, Int.reduceAdd, Int.reduceSub, Int.reduceMul, Nat.reduceLT, Int.reduceLT, Int.reduceLE, Int.reduceToNat, Nat.reduceAdd, Nat.reduceSub, Nat.reduceMul, Nat.reduceLeDiff, reduceCtorEq, c52, Try.ntmps52])
  (refine hQ _ _ _ _ _ (by first | exact .inr rfl | exact .inl rfl) rfl (by first | exact FzH.refl _ | exact FzH.sub (by (repeat' (first | exact Sub.refl _ | assumption | (refine Sub.upd ?_ (by first | assumption | (simp only [*]; done) | exact Sub.isNone (by assumption) (by assumption) | exact Sub.isNone (by assumption) (by simp only [*]))))))) (FzL.refl _ _ _) ?_; try (simp only [go_sem, Int.reduceEq, Int.reduceAdd, Int.reduceSub, Int.reduceMul, Nat.reduceLT, Int.reduceLT, Int.reduceLE, Int.reduceToNat, Nat.reduceAdd, Nat.reduceSub, Nat.reduceMul, Nat.reduceLeDiff, reduceCtorEq, stB]))
theorem within_spec (d : Int) (h : AHeap) : PureA Try.prog 53 [.int .i64 d] h (.bool (wdB d)) := by
  (refine PureA.enter (ac := c53) (rs := r53) Try.func53 rfl (by decide) c53_ok r53_ok ?_; intro Q hQ; simp only [go_sem, Int.reduceEq, Int.reduceAdd, Int.reduceSub, Int.reduceMul, Nat.reduceLT, Int.reduceLT, Int.reduceLE, Int.reduceToNat, Nat.reduceAdd, Nat.reduceSub, Nat.reduceMul, Nat.reduceLeDiff, reduceCtorEq, c53, Try.ntmps53])
  cases g : decide (1 ≤ d)
  · simp only [go_sem, Int.reduceEq, Int.reduceAdd, Int.reduceSub, Int.reduceMul, Nat.reduceLT, Int.reduceLT, Int.reduceLE, Int.reduceToNat, Nat.reduceAdd, Nat.reduceSub, Nat.reduceMul, Nat.reduceLeDiff, reduceCtorEq, g]
    (refine hQ _ _ _ _ _ (by first | exact .inr rfl | exact .inl rfl) rfl (by first | exact FzH.refl _ | exact FzH.sub (by (repeat' (first | exact Sub.refl _ | assumption | (refine Sub.upd ?_ (by first | assumption | (simp only [*]; done) | exact Sub.isNone (by assumption) (by assumption) | exact Sub.isNone (by assumption) (by simp only [*]))))))) (FzL.refl _ _ _) ?_; try (simp only [go_sem, Int.reduceEq, Int.reduceAdd, Int.reduceSub, Int.reduceMul, Nat.reduceLT, Int.reduceLT, Int.reduceLE, Int.reduceToNat, Nat.reduceAdd, Nat.reduceSub, Nat.reduceMul, Nat.reduceLeDiff, reduceCtorEq, wdB, g, Bool.false_and]))
  · simp only [go_sem, Int.reduceEq, Int.reduceAdd, Int.reduceSub, Int.reduceMul, Nat.reduceLT, Int.reduceLT, Int.reduceLE, Int.reduceToNat, Nat.reduceAdd, Nat.reduceSub, Nat.reduceMul, Nat.reduceLeDiff, reduceCtorEq, g]
    (refine hQ _ _ _ _ _ (by first | exact .inr rfl | exact .inl rfl) rfl (by first | exact FzH.refl _ | exact FzH.sub (by (repeat' (first | exact Sub.refl _ | assumption | (refine Sub.upd ?_ (by first | assumption | (simp only [*]; done) | exact Sub.isNone (by assumption) (by assumption) | exact Sub.isNone (by assumption) (by simp only [*]))))))) (FzL.refl _ _ _) ?_; try (simp only [go_sem, Int.reduceEq, Int.reduceAdd, Int.reduceSub, Int.reduceMul, Nat.reduceLT, Int.reduceLT, Int.reduceLE, Int.reduceToNat, Nat.reduceAdd, Nat.reduceSub, Nat.reduceMul, Nat.reduceLeDiff, reduceCtorEq, wdB, g]))
theorem around_spec (a b : Int) (ha : 0 ≤ a ∧ a < 128) (hb : 0 ≤ b ∧ b < 128) (h : AHeap) : PureA Try.prog 51 [.int .i64 a, .int .i64 b] h (.int .i64 (arN a b)) := by
  have h1 : IntKind.i64.wrap (b - a) = b - a := w64 (by omega) (by omega)
  have h2 : IntKind.i64.wrap (b - a + 128) = b - a + 128 := w64 (by omega) (by omega)
  have h3 : (b - a + 128).tmod 128 = (b - a + 128) % 128 := Int.tmod_eq_emod_of_nonneg (by omega)
  (refine PureA.enter (ac := c51) (rs := r51) Try.func51 rfl (by decide) c51_ok r51_ok ?_; intro Q hQ; simp only [go_sem, Int.reduceEq, Int.reduceAdd, Int.reduceSub, Int.reduceMul, Nat.reduceLT, Int.reduceLT, Int.reduceLE, Int.reduceToNat, Nat.reduceAdd, Nat.reduceSub, Nat.reduceMul, Nat.reduceLeDiff, reduceCtorEq, c51, Try.ntmps51, h1, h2, h3, show ((128 : Int) == 0) = false from rfl])
  (refine hQ _ _ _ _ _ (by first | exact .inr rfl | exact .inl rfl) rfl (by first | exact FzH.refl _ | exact FzH.sub (by (repeat' (first | exact Sub.refl _ | assumption | (refine Sub.upd ?_ (by first | assumption | (simp only [*]; done) | exact Sub.isNone (by assumption) (by assumption) | exact Sub.isNone (by assumption) (by simp only [*]))))))) (FzL.refl _ _ _) ?_; try (simp only [go_sem, Int.reduceEq, Int.reduceAdd, Int.reduceSub, Int.reduceMul, Nat.reduceLT, Int.reduceLT, Int.reduceLE, Int.reduceToNat, Nat.reduceAdd, Nat.reduceSub, Nat.reduceMul, Nat.reduceLeDiff, reduceCtorEq, arN]))

def cmpL (a b : Int) : Int :=
  if a = b then 0 else if stB a && !stB b then (if 256 - a + b ≤ 16 then 1 else 2) else if !stB a && stB b then (if 256 - b + a ≤ 16 then 2 else 1)
  else if stB a && wdB (b - a) || !stB a && wdB (arN a b) then 1 else if stB a && wdB (a - b) || !stB a && wdB (arN b a) then 2 else 3

theorem compare_spec (a b : Int) (ha : isCtr a = true) (hb : isCtr b = true) (h : AHeap) : PureA Try.prog 42 [.int .i64 a, .int .i64 b] h (.int .i64 (cmpL a b)) := by
  have ha : 0 ≤ a ∧ a < 256 := by simpa [isCtr] using ha
  have hb : 0 ≤ b ∧ b < 256 := by simpa [isCtr] using hb
  have h1 : IntKind.i64.wrap (256 - a) = 256 - a := w64 (by omega) (by omega)
  have h2 : IntKind.i64.wrap (256 - a + b) = 256 - a + b := w64 (by omega) (by omega)
  have h3 : IntKind.i64.wrap (256 - b) = 256 - b := w64 (by omega) (by omega)
  have h4 : IntKind.i64.wrap (256 - b + a) = 256 - b + a := w64 (by omega) (by omega)
  have h5 : IntKind.i64.wrap (b - a) = b - a := w64 (by omega) (by omega)
  have h6 : IntKind.i64.wrap (a - b) = a - b := w64 (by omega) (by omega)
  (refine PureA.enter (ac := c42) (rs := r42) Try.func42 rfl (by decide) c42_ok r42_ok ?_; intro Q hQ; simp only [go_sem, Int.reduceEq, Int.reduceAdd, Int.reduceSub, Int.reduceMul, Nat.reduceLT, Int.reduceLT, Int.reduceLE, Int.reduceToNat, Nat.reduceAdd, Nat.reduceSub, Nat.reduceMul, Nat.reduceLeDiff, reduceCtorEq, c42, Try.ntmps42])
  cases e0 : decide (a = b)
  rotate_left
  · have e : cmpL a b = 0 := by unfold cmpL; rw [if_pos (of_decide_eq_true e0)]
    simp only [go_sem, Int.reduceEq, Int.reduceAdd, Int.reduceSub, Int.reduceMul, Nat.reduceLT, Int.reduceLT, Int.reduceLE, Int.reduceToNat, Nat.reduceAdd, Nat.reduceSub, Nat.reduceMul, Nat.reduceLeDiff, reduceCtorEq, e0]
    (refine hQ _ _ _ _ _ (by first | exact .inr rfl | exact .inl rfl) rfl (by first | exact FzH.refl _ | exact FzH.sub (by (repeat' (first | exact Sub.refl _ | assumption | (refine Sub.upd ?_ (by first | assumption | (simp only [*]; done) | exact Sub.isNone (by assumption) (by assumption) | exact Sub.isNone (by assumption) (by simp only [*]))))))) (FzL.refl _ _ _) ?_; try (simp only [go_sem, Int.reduceEq, Int.reduceAdd, Int.reduceSub, Int.reduceMul, Nat.reduceLT, Int.reduceLT, Int.reduceLE, Int.reduceToNat, Nat.reduceAdd, Nat.reduceSub, Nat.reduceMul, Nat.reduceLeDiff, reduceCtorEq, e]))
  have e0' := of_decide_eq_false e0
  simp only [go_sem, Int.reduceEq, Int.reduceAdd, Int.reduceSub, Int.reduceMul, Nat.reduceLT, Int.reduceLT, Int.reduceLE, Int.reduceToNat, Nat.reduceAdd, Nat.reduceSub, Nat.reduceMul, Nat.reduceLeDiff, reduceCtorEq, e0]
  refine (stick_spec a _).use ?_
  cases sa : stB a
  · have ha2 : a < 128 := by simpa [stB] using sa
    simp only [go_sem, Int.reduceEq, Int.reduceAdd, Int.reduceSub, Int.reduceMul, Nat.reduceLT, Int.reduceLT, Int.reduceLE, Int.reduceToNat, Nat.reduceAdd, Nat.reduceSub, Nat.reduceMul, Nat.reduceLeDiff, reduceCtorEq]
    refine (stick_spec a _).use ?_
    simp only [go_sem, Int.reduceEq, Int.reduceAdd, Int.reduceSub, Int.reduceMul, Nat.reduceLT, Int.reduceLT, Int.reduceLE, Int.reduceToNat, Nat.reduceAdd, Nat.reduceSub, Nat.reduceMul, Nat.reduceLeDiff, reduceCtorEq, sa]
    refine (stick_spec b _).use ?_
    cases sb : stB b
    rotate_left
    · have e : cmpL a b = if 256 - b + a ≤ 16 then 2 else 1 := by unfold cmpL; simp [e0', sa, sb]
      by_cases g : 256 - b + a ≤ 16
      · rw [if_pos g] at e
        simp only [go_sem, Int.reduceEq, Int.reduceAdd, Int.reduceSub, Int.reduceMul, Nat.reduceLT, Int.reduceLT, Int.reduceLE, Int.reduceToNat, Nat.reduceAdd, Nat.reduceSub, Nat.reduceMul, Nat.reduceLeDiff, reduceCtorEq, h3, h4, g]
        (refine hQ _ _ _ _ _ (by first | exact .inr rfl | exact .inl rfl) rfl (by first | exact FzH.refl _ | exact FzH.sub (by (repeat' (first | exact Sub.refl _ | assumption | (refine Sub.upd ?_ (by first | assumption | (simp only [*]; done) | exact Sub.isNone (by assumption) (by assumption) | exact Sub.isNone (by assumption) (by simp only [*]))))))) (FzL.refl _ _ _) ?_; try (simp only [go_sem, Int.reduceEq, Int.reduceAdd, Int.reduceSub, Int.reduceMul, Nat.reduceLT, Int.reduceLT, Int.reduceLE, Int.reduceToNat, Nat.reduceAdd, Nat.reduceSub, Nat.reduceMul, Nat.reduceLeDiff, reduceCtorEq, e]))
      · rw [if_neg g] at e
        simp only [go_sem, Int.reduceEq, Int.reduceAdd, Int.reduceSub, Int.reduceMul, Nat.reduceLT, Int.reduceLT, Int.reduceLE, Int.reduceToNat, Nat.reduceAdd, Nat.reduceSub, Nat.reduceMul, Nat.reduceLeDiff, reduceCtorEq, h3, h4, g]
        (refine hQ _ _ _ _ _ (by first | exact .inr rfl | exact .inl rfl) rfl (by first | exact FzH.refl _ | exact FzH.sub (by (repeat' (first | exact Sub.refl _ | assumption | (refine Sub.upd ?_ (by first | assumption | (simp only [*]; done) | exact Sub.isNone (by assumption) (by assumption) | exact Sub.isNone (by assumption) (by simp only [*]))))))) (FzL.refl _ _ _) ?_; try (simp only [go_sem, Int.reduceEq, Int.reduceAdd, Int.reduceSub, Int.reduceMul, Nat.reduceLT, Int.reduceLT, Int.reduceLE, Int.reduceToNat, Nat.reduceAdd, Nat.reduceSub, Nat.reduceMul, Nat.reduceLeDiff, reduceCtorEq, e]))
    have hb2 : b < 128 := by simpa [stB] using sb
    simp only [go_sem, Int.reduceEq, Int.reduceAdd, Int.reduceSub, Int.reduceMul, Nat.reduceLT, Int.reduceLT, Int.reduceLE, Int.reduceToNat, Nat.reduceAdd, Nat.reduceSub, Nat.reduceMul, Nat.reduceLeDiff, reduceCtorEq]
    refine (stick_spec a _).use ?_
    simp only [go_sem, Int.reduceEq, Int.reduceAdd, Int.reduceSub, Int.reduceMul, Nat.reduceLT, Int.reduceLT, Int.reduceLE, Int.reduceToNat, Nat.reduceAdd, Nat.reduceSub, Nat.reduceMul, Nat.reduceLeDiff, reduceCtorEq, sa]
    refine (stick_spec a _).use ?_
    simp only [go_sem, Int.reduceEq, Int.reduceAdd, Int.reduceSub, Int.reduceMul, Nat.reduceLT, Int.reduceLT, Int.reduceLE, Int.reduceToNat, Nat.reduceAdd, Nat.reduceSub, Nat.reduceMul, Nat.reduceLeDiff, reduceCtorEq, sa]
    refine (around_spec a b (by omega) (by omega) _).use ?_
    simp only [go_sem, Int.reduceEq, Int.reduceAdd, Int.reduceSub, Int.reduceMul, Nat.reduceLT, Int.reduceLT, Int.reduceLE, Int.reduceToNat, Nat.reduceAdd, Nat.reduceSub, Nat.reduceMul, Nat.reduceLeDiff, reduceCtorEq]
    refine (within_spec _ _).use ?_
    cases w1 : wdB (arN a b)
    rotate_left
    · have e : cmpL a b = 1 := by unfold cmpL; simp [e0', sa, sb, w1]
      simp only [go_sem, Int.reduceEq, Int.reduceAdd, Int.reduceSub, Int.reduceMul, Nat.reduceLT, Int.reduceLT, Int.reduceLE, Int.reduceToNat, Nat.reduceAdd, Nat.reduceSub, Nat.reduceMul, Nat.reduceLeDiff, reduceCtorEq]
      (refine hQ _ _ _ _ _ (by first | exact .inr rfl | exact .inl rfl) rfl (by first | exact FzH.refl _ | exact FzH.sub (by (repeat' (first | exact Sub.refl _ | assumption | (refine Sub.upd ?_ (by first | assumption | (simp only [*]; done) | exact Sub.isNone (by assumption) (by assumption) | exact Sub.isNone (by assumption) (by simp only [*]))))))) (FzL.refl _ _ _) ?_; try (simp only [go_sem, Int.reduceEq, Int.reduceAdd, Int.reduceSub, Int.reduceMul, Nat.reduceLT, Int.reduceLT, Int.reduceLE, Int.reduceToNat, Nat.reduceAdd, Nat.reduceSub, Nat.reduceMul, Nat.reduceLeDiff, reduceCtorEq, e]))
    simp only [go_sem, Int.reduceEq, Int.reduceAdd, Int.reduceSub, Int.reduceMul, Nat.reduceLT, Int.reduceLT, Int.reduceLE, Int.reduceToNat, Nat.reduceAdd, Nat.reduceSub, Nat.reduceMul, Nat.reduceLeDiff, reduceCtorEq]
    refine (stick_spec a _).use ?_
    simp only [go_sem, Int.reduceEq, Int.reduceAdd, Int.reduceSub, Int.reduceMul, Nat.reduceLT, Int.reduceLT, Int.reduceLE, Int.reduceToNat, Nat.reduceAdd, Nat.reduceSub, Nat.reduceMul, Nat.reduceLeDiff, reduceCtorEq, sa]
    refine (stick_spec a _).use ?_
    simp only [go_sem, Int.reduceEq, Int.reduceAdd, Int.reduceSub, Int.reduceMul, Nat.reduceLT, Int.reduceLT, Int.reduceLE, Int.reduceToNat, Nat.reduceAdd, Nat.reduceSub, Nat.reduceMul, Nat.reduceLeDiff, reduceCtorEq, sa]
    refine (around_spec b a (by omega) (by omega) _).use ?_
    simp only [go_sem, Int.reduceEq, Int.reduceAdd, Int.reduceSub, Int.reduceMul, Nat.reduceLT, Int.reduceLT, Int.reduceLE, Int.reduceToNat, Nat.reduceAdd, Nat.reduceSub, Nat.reduceMul, Nat.reduceLeDiff, reduceCtorEq]
    refine (within_spec _ _).use ?_
    cases w2 : wdB (arN b a)
    · have e : cmpL a b = 3 := by unfold cmpL; simp [e0', sa, sb, w1, w2]
      simp only [go_sem, Int.reduceEq, Int.reduceAdd, Int.reduceSub, Int.reduceMul, Nat.reduceLT, Int.reduceLT, Int.reduceLE, Int.reduceToNat, Nat.reduceAdd, Nat.reduceSub, Nat.reduceMul, Nat.reduceLeDiff, reduceCtorEq]
      (refine hQ _ _ _ _ _ (by first | exact .inr rfl | exact .inl rfl) rfl (by first | exact FzH.refl _ | exact FzH.sub (by (repeat' (first | exact Sub.refl _ | assumption | (refine Sub.upd ?_ (by first | assumption | (simp only [*]; done) | exact Sub.isNone (by assumption) (by assumption) | exact Sub.isNone (by assumption) (by simp only [*]))))))) (FzL.refl _ _ _) ?_; try (simp only [go_sem, Int.reduceEq, Int.reduceAdd, Int.reduceSub, Int.reduceMul, Nat.reduceLT, Int.reduceLT, Int.reduceLE, Int.reduceToNat, Nat.reduceAdd, Nat.reduceSub, Nat.reduceMul, Nat.reduceLeDiff, reduceCtorEq, e]))
    · have e : cmpL a b = 2 := by unfold cmpL; simp [e0', sa, sb, w1, w2]
      simp only [go_sem, Int.reduceEq, Int.reduceAdd, Int.reduceSub, Int.reduceMul, Nat.reduceLT, Int.reduceLT, Int.reduceLE, Int.reduceToNat, Nat.reduceAdd, Nat.reduceSub, Nat.reduceMul, Nat.reduceLeDiff, reduceCtorEq]
      (refine hQ _ _ _ _ _ (by first | exact .inr rfl | exact .inl rfl) rfl (by first | exact FzH.refl _ | exact FzH.sub (by (repeat' (first | exact Sub.refl _ | assumption | (refine Sub.upd ?_ (by first | assumption | (simp only [*]; done) | exact Sub.isNone (by assumption) (by assumption) | exact Sub.isNone (by assumption) (by simp only [*]))))))) (FzL.refl _ _ _) ?_; try (simp only [go_sem, Int.reduceEq, Int.reduceAdd, Int.reduceSub, Int.reduceMul, Nat.reduceLT, Int.reduceLT, Int.reduceLE, Int.reduceToNat, Nat.reduceAdd, Nat.reduceSub, Nat.reduceMul, Nat.reduceLeDiff, reduceCtorEq, e]))
  · simp only [go_sem, Int.reduceEq, Int.reduceAdd, Int.reduceSub, Int.reduceMul, Nat.reduceLT, Int.reduceLT, Int.reduceLE, Int.reduceToNat, Nat.reduceAdd, Nat.reduceSub, Nat.reduceMul, Nat.reduceLeDiff, reduceCtorEq]
    refine (stick_spec b _).use ?_
    cases sb : stB b
    · have e : cmpL a b = if 256 - a + b ≤ 16 then 1 else 2 := by unfold cmpL; simp [e0', sa, sb]
      by_cases g : 256 - a + b ≤ 16
      · rw [if_pos g] at e
        simp only [go_sem, Int.reduceEq, Int.reduceAdd, Int.reduceSub, Int.reduceMul, Nat.reduceLT, Int.reduceLT, Int.reduceLE, Int.reduceToNat, Nat.reduceAdd, Nat.reduceSub, Nat.reduceMul, Nat.reduceLeDiff, reduceCtorEq, h1, h2, g]
        (refine hQ _ _ _ _ _ (by first | exact .inr rfl | exact .inl rfl) rfl (by first | exact FzH.refl _ | exact FzH.sub (by (repeat' (first | exact Sub.refl _ | assumption | (refine Sub.upd ?_ (by first | assumption | (simp only [*]; done) | exact Sub.isNone (by assumption) (by assumption) | exact Sub.isNone (by assumption) (by simp only [*]))))))) (FzL.refl _ _ _) ?_; try (simp only [go_sem, Int.reduceEq, Int.reduceAdd, Int.reduceSub, Int.reduceMul, Nat.reduceLT, Int.reduceLT, Int.reduceLE, Int.reduceToNat, Nat.reduceAdd, Nat.reduceSub, Nat.reduceMul, Nat.reduceLeDiff, reduceCtorEq, e]))
      · rw [if_neg g] at e
        simp only [go_sem, Int.reduceEq, Int.reduceAdd, Int.reduceSub, Int.reduceMul, Nat.reduceLT, Int.reduceLT, Int.reduceLE, Int.reduceToNat, Nat.reduceAdd, Nat.reduceSub, Nat.reduceMul, Nat.reduceLeDiff, reduceCtorEq, h1, h2, g]
        (refine hQ _ _ _ _ _ (by first | exact .inr rfl | exact .inl rfl) rfl (by first | exact FzH.refl _ | exact FzH.sub (by (repeat' (first | exact Sub.refl _ | assumption | (refine Sub.upd ?_ (by first | assumption | (simp only [*]; done) | exact Sub.isNone (by assumption) (by assumption) | exact Sub.isNone (by assumption) (by simp only [*]))))))) (FzL.refl _ _ _) ?_; try (simp only [go_sem, Int.reduceEq, Int.reduceAdd, Int.reduceSub, Int.reduceMul, Nat.reduceLT, Int.reduceLT, Int.reduceLE, Int.reduceToNat, Nat.reduceAdd, Nat.reduceSub, Nat.reduceMul, Nat.reduceLeDiff, reduceCtorEq, e]))
    simp only [go_sem, Int.reduceEq, Int.reduceAdd, Int.reduceSub, Int.reduceMul, Nat.reduceLT, Int.reduceLT, Int.reduceLE, Int.reduceToNat, Nat.reduceAdd, Nat.reduceSub, Nat.reduceMul, Nat.reduceLeDiff, reduceCtorEq]
    refine (stick_spec a _).use ?_
    simp only [go_sem, Int.reduceEq, Int.reduceAdd, Int.reduceSub, Int.reduceMul, Nat.reduceLT, Int.reduceLT, Int.reduceLE, Int.reduceToNat, Nat.reduceAdd, Nat.reduceSub, Nat.reduceMul, Nat.reduceLeDiff, reduceCtorEq, sa]
    refine (stick_spec a _).use ?_
    simp only [go_sem, Int.reduceEq, Int.reduceAdd, Int.reduceSub, Int.reduceMul, Nat.reduceLT, Int.reduceLT, Int.reduceLE, Int.reduceToNat, Nat.reduceAdd, Nat.reduceSub, Nat.reduceMul, Nat.reduceLeDiff, reduceCtorEq, sa, h5]
    refine (within_spec _ _).use ?_
    cases w1 : wdB (b - a)
    rotate_left
    · have e : cmpL a b = 1 := by unfold cmpL; simp [e0', sa, sb, w1]
      simp only [go_sem, Int.reduceEq, Int.reduceAdd, Int.reduceSub, Int.reduceMul, Nat.reduceLT, Int.reduceLT, Int.reduceLE, Int.reduceToNat, Nat.reduceAdd, Nat.reduceSub, Nat.reduceMul, Nat.reduceLeDiff, reduceCtorEq]
      (refine hQ _ _ _ _ _ (by first | exact .inr rfl | exact .inl rfl) rfl (by first | exact FzH.refl _ | exact FzH.sub (by (repeat' (first | exact Sub.refl _ | assumption | (refine Sub.upd ?_ (by first | assumption | (simp only [*]; done) | exact Sub.isNone (by assumption) (by assumption) | exact Sub.isNone (by assumption) (by simp only [*]))))))) (FzL.refl _ _ _) ?_; try (simp only [go_sem, Int.reduceEq, Int.reduceAdd, Int.reduceSub, Int.reduceMul, Nat.reduceLT, Int.reduceLT, Int.reduceLE, Int.reduceToNat, Nat.reduceAdd, Nat.reduceSub, Nat.reduceMul, Nat.reduceLeDiff, reduceCtorEq, e]))
    simp only [go_sem, Int.reduceEq, Int.reduceAdd, Int.reduceSub, Int.reduceMul, Nat.reduceLT, Int.reduceLT, Int.reduceLE, Int.reduceToNat, Nat.reduceAdd, Nat.reduceSub, Nat.reduceMul, Nat.reduceLeDiff, reduceCtorEq]
    refine (stick_spec a _).use ?_
    simp only [go_sem, Int.reduceEq, Int.reduceAdd, Int.reduceSub, Int.reduceMul, Nat.reduceLT, Int.reduceLT, Int.reduceLE, Int.reduceToNat, Nat.reduceAdd, Nat.reduceSub, Nat.reduceMul, Nat.reduceLeDiff, reduceCtorEq, sa]
    refine (stick_spec a _).use ?_
    simp only [go_sem, Int.reduceEq, Int.reduceAdd, Int.reduceSub, Int.reduceMul, Nat.reduceLT, Int.reduceLT, Int.reduceLE, Int.reduceToNat, Nat.reduceAdd, Nat.reduceSub, Nat.reduceMul, Nat.reduceLeDiff, reduceCtorEq, sa, h6]
    refine (within_spec _ _).use ?_
    cases w2 : wdB (a - b)
    · simp only [go_sem, Int.reduceEq, Int.reduceAdd, Int.reduceSub, Int.reduceMul, Nat.reduceLT, Int.reduceLT, Int.reduceLE, Int.reduceToNat, Nat.reduceAdd, Nat.reduceSub, Nat.reduceMul, Nat.reduceLeDiff, reduceCtorEq]
      refine (stick_spec a _).use ?_
      have e : cmpL a b = 3 := by unfold cmpL; simp [e0', sa, sb, w1, w2]
      simp only [go_sem, Int.reduceEq, Int.reduceAdd, Int.reduceSub, Int.reduceMul, Nat.reduceLT, Int.reduceLT, Int.reduceLE, Int.reduceToNat, Nat.reduceAdd, Nat.reduceSub, Nat.reduceMul, Nat.reduceLeDiff, reduceCtorEq, sa]
      (refine hQ _ _ _ _ _ (by first | exact .inr rfl | exact .inl rfl) rfl (by first | exact FzH.refl _ | exact FzH.sub (by (repeat' (first | exact Sub.refl _ | assumption | (refine Sub.upd ?_ (by first | assumption | (simp only [*]; done) | exact Sub.isNone (by assumption) (by assumption) | exact Sub.isNone (by assumption) (by simp only [*]))))))) (FzL.refl _ _ _) ?_; try (simp only [go_sem, Int.reduceEq, Int.reduceAdd, Int.reduceSub, Int.reduceMul, Nat.reduceLT, Int.reduceLT, Int.reduceLE, Int.reduceToNat, Nat.reduceAdd, Nat.reduceSub, Nat.reduceMul, Nat.reduceLeDiff, reduceCtorEq, e]))
    · have e : cmpL a b = 2 := by unfold cmpL; simp [e0', sa, sb, w1, w2]
      simp only [go_sem, Int.reduceEq, Int.reduceAdd, Int.reduceSub, Int.reduceMul, Nat.reduceLT, Int.reduceLT, Int.reduceLE, Int.reduceToNat, Nat.reduceAdd, Nat.reduceSub, Nat.reduceMul, Nat.reduceLeDiff, reduceCtorEq]
      (refine hQ _ _ _ _ _ (by first | exact .inr rfl | exact .inl rfl) rfl (by first | exact FzH.refl _ | exact FzH.sub (by (repeat' (first | exact Sub.refl _ | assumption | (refine Sub.upd ?_ (by first | assumption | (simp only [*]; done) | exact Sub.isNone (by assumption) (by assumption) | exact Sub.isNone (by assumption) (by simp only [*]))))))) (FzL.refl _ _ _) ?_; try (simp only [go_sem, Int.reduceEq, Int.reduceAdd, Int.reduceSub, Int.reduceMul, Nat.reduceLT, Int.reduceLT, Int.reduceLE, Int.reduceToNat, Nat.reduceAdd, Nat.reduceSub, Nat.reduceMul, Nat.reduceLeDiff, reduceCtorEq, e]))

def newerB (a b : Int) : Bool := isCtr a && isCtr b && decide (cmpL a b = 2)
theorem newer_spec (a b : Int) (h : AHeap) : PureA Try.prog 29 [.int .i64 a, .int .i64 b] h (.bool (newerB a b)) := by
  (refine PureA.enter (ac := c29) (rs := r29) Try.func29 rfl (by decide) c29_ok r29_ok ?_; intro Q hQ; simp only [go_sem, Int.reduceEq, Int.reduceAdd, Int.reduceSub, Int.reduceMul, Nat.reduceLT, Int.reduceLT, Int.reduceLE, Int.reduceToNat, Nat.reduceAdd, Nat.reduceSub, Nat.reduceMul, Nat.reduceLeDiff, reduceCtorEq, c29, Try.ntmps29])
  refine (valid2 a b _ _).use ?_
  cases g : isCtr a && isCtr b
  · simp only [go_sem, Int.reduceEq, Int.reduceAdd, Int.reduceSub, Int.reduceMul, Nat.reduceLT, Int.reduceLT, Int.reduceLE, Int.reduceToNat, Nat.reduceAdd, Nat.reduceSub, Nat.reduceMul, Nat.reduceLeDiff, reduceCtorEq]
    (refine hQ _ _ _ _ _ (by first | exact .inr rfl | exact .inl rfl) rfl (by first | exact FzH.refl _ | exact FzH.sub (by (repeat' (first | exact Sub.refl _ | assumption | (refine Sub.upd ?_ (by first | assumption | (simp only [*]; done) | exact Sub.isNone (by assumption) (by assumption) | exact Sub.isNone (by assumption) (by simp only [*]))))))) (FzL.refl _ _ _) ?_; try (simp only [go_sem, Int.reduceEq, Int.reduceAdd, Int.reduceSub, Int.reduceMul, Nat.reduceLT, Int.reduceLT, Int.reduceLE, Int.reduceToNat, Nat.reduceAdd, Nat.reduceSub, Nat.reduceMul, Nat.reduceLeDiff, reduceCtorEq, newerB, g, Bool.false_and]))
  · have g' := Bool.and_eq_true_iff.1 g
    simp only [go_sem, Int.reduceEq, Int.reduceAdd, Int.reduceSub, Int.reduceMul, Nat.reduceLT, Int.reduceLT, Int.reduceLE, Int.reduceToNat, Nat.reduceAdd, Nat.reduceSub, Nat.reduceMul, Nat.reduceLeDiff, reduceCtorEq]
    refine (compare_spec a b g'.1 g'.2 _).use ?_
    simp only [go_sem, Int.reduceEq, Int.reduceAdd, Int.reduceSub, Int.reduceMul, Nat.reduceLT, Int.reduceLT, Int.reduceLE, Int.reduceToNat, Nat.reduceAdd, Nat.reduceSub, Nat.reduceMul, Nat.reduceLeDiff, reduceCtorEq]
    (refine hQ _ _ _ _ _ (by first | exact .inr rfl | exact .inl rfl) rfl (by first | exact FzH.refl _ | exact FzH.sub (by (repeat' (first | exact Sub.refl _ | assumption | (refine Sub.upd ?_ (by first | assumption | (simp only [*]; done) | exact Sub.isNone (by assumption) (by assumption) | exact Sub.isNone (by assumption) (by simp only [*]))))))) (FzL.refl _ _ _) ?_; try (simp only [go_sem, Int.reduceEq, Int.reduceAdd, Int.reduceSub, Int.reduceMul, Nat.reduceLT, Int.reduceLT, Int.reduceLE, Int.reduceToNat, Nat.reduceAdd, Nat.reduceSub, Nat.reduceMul, Nat.reduceLeDiff, reduceCtorEq, newerB, g]))

theorem intF_idx (p : Int → Bool) (l : List (Int)) (ex : Bool) (f : FuncId) (caps : List AV) (h : AHeap) (hn : l.length ≤ 4611686018427387904) (hp : ∀ x ∈ l, PureA Try.prog f ((.int .i64 x) :: caps) h (.bool (p x))) :
    PureA Try.prog 50 [.ro (cat i1 l) l.length ex, .fn f caps] h (.int .i64 (idxP p l)) := by
  (refine PureA.enter (ac := c50) (rs := r50) Try.func50 rfl (by decide) c50_ok r50_ok ?_; intro Q hQ; simp only [go_sem, Int.reduceEq, Int.reduceAdd, Int.reduceSub, Int.reduceMul, Nat.reduceLT, Int.reduceLT, Int.reduceLE, Int.reduceToNat, Nat.reduceAdd, Nat.reduceSub, Nat.reduceMul, Nat.reduceLeDiff, reduceCtorEq, c50, Try.ntmps50])
  refine loop_range d50_0 (l.length) (fun k s => s.set 8 (.int .i64 k)) (fun k h' => ((l.take k).any p = false) ∧ h' = h) ?_ ⟨rfl, rfl⟩ ?_
  · (simp only [go_sem, Int.reduceEq, Int.reduceAdd, Int.reduceSub, Int.reduceMul, Nat.reduceLT, Int.reduceLT, Int.reduceLE, Int.reduceToNat, Nat.reduceAdd, Nat.reduceSub, Nat.reduceMul, Nat.reduceLeDiff, reduceCtorEq, d50_0] <;> rfl)
  rintro N k h' hk ⟨hall, rfl⟩ hN
  simp only [go_sem, Int.reduceEq, Int.reduceAdd, Int.reduceSub, Int.reduceMul, Nat.reduceLT, Int.reduceLT, Int.reduceLE, Int.reduceToNat, Nat.reduceAdd, Nat.reduceSub, Nat.reduceMul, Nat.reduceLeDiff, reduceCtorEq, d50_0]
  have hadd := wadd1 (k := k) (by omega)
  by_cases hlt : k < l.length
  · have ht := take_any hlt hall
    have hh := idx_hit hlt hall
    have hm := hp _ (List.getElem_mem hlt)
    simp only [go_sem, Int.reduceEq, Int.reduceAdd, Int.reduceSub, Int.reduceMul, Nat.reduceLT, Int.reduceLT, Int.reduceLE, Int.reduceToNat, Nat.reduceAdd, Nat.reduceSub, Nat.reduceMul, Nat.reduceLeDiff, reduceCtorEq, hlt, hadd, rdI hlt]
    refine hm.use ?_
    repeat' (first | (intro _ hf_; (try simp only [upd_none] at hf_); (try simp only [go_sem, Int.reduceEq, Int.reduceAdd, Int.reduceSub, Int.reduceMul, Nat.reduceLT, Int.reduceLT, Int.reduceLE, Int.reduceToNat, Nat.reduceAdd, Nat.reduceSub, Nat.reduceMul, Nat.reduceLeDiff, reduceCtorEq, upd_ne, ne_eq, not_false_eq_true, *])) | (refine guard_split (fun hb_ => ?_) (fun hb_ => ?_) <;> (try simp only [decide_eq_true_eq, decide_eq_false_iff_not, Bool.not_eq_true', Bool.not_eq_false'] at hb_) <;> (try simp only [go_sem, Int.reduceEq, Int.reduceAdd, Int.reduceSub, Int.reduceMul, Nat.reduceLT, Int.reduceLT, Int.reduceLE, Int.reduceToNat, Nat.reduceAdd, Nat.reduceSub, Nat.reduceMul, Nat.reduceLeDiff, reduceCtorEq, upd_ne, ne_eq, not_false_eq_true, *])) | (refine cond_split (fun hb_ => ?_) (fun hb_ => ?_) <;> (try simp only [decide_eq_true_eq, decide_eq_false_iff_not, Bool.not_eq_true', Bool.not_eq_false'] at hb_) <;> (try simp only [go_sem, Int.reduceEq, Int.reduceAdd, Int.reduceSub, Int.reduceMul, Nat.reduceLT, Int.reduceLT, Int.reduceLE, Int.reduceToNat, Nat.reduceAdd, Nat.reduceSub, Nat.reduceMul, Nat.reduceLeDiff, reduceCtorEq, upd_ne, ne_eq, not_false_eq_true, *])) | (refine readG_split (fun hb_ => ?_) (fun hb_ => ?_) <;> (try simp only [decide_eq_true_eq, decide_eq_false_iff_not, Bool.not_eq_true', Bool.not_eq_false'] at hb_) <;> (try simp only [go_sem, Int.reduceEq, Int.reduceAdd, Int.reduceSub, Int.reduceMul, Nat.reduceLT, Int.reduceLT, Int.reduceLE, Int.reduceToNat, Nat.reduceAdd, Nat.reduceSub, Nat.reduceMul, Nat.reduceLeDiff, reduceCtorEq, upd_ne, ne_eq, not_false_eq_true, *])) | (refine frz_id ?_ <;> (try simp only [go_sem, Int.reduceEq, Int.reduceAdd, Int.reduceSub, Int.reduceMul, Nat.reduceLT, Int.reduceLT, Int.reduceLE, Int.reduceToNat, Nat.reduceAdd, Nat.reduceSub, Nat.reduceMul, Nat.reduceLeDiff, reduceCtorEq, upd_ne, ne_eq, not_false_eq_true, *])))
    · refine hQ _ _ _ _ _ (by first | exact .inr rfl | exact .inl rfl) rfl (by first | exact FzH.refl _ | exact FzH.sub (by (repeat' (first | exact Sub.refl _ | assumption | (refine Sub.upd ?_ (by first | assumption | (simp only [*]; done) | exact Sub.isNone (by assumption) (by assumption) | exact Sub.isNone (by assumption) (by simp only [*]))))))) (FzL.refl _ _ _) ?_
      simp only [go_sem, Int.reduceEq, Int.reduceAdd, Int.reduceSub, Int.reduceMul, Nat.reduceLT, Int.reduceLT, Int.reduceLE, Int.reduceToNat, Nat.reduceAdd, Nat.reduceSub, Nat.reduceMul, Nat.reduceLeDiff, reduceCtorEq, hh (by assumption)]
    · (refine hN _ _ hlt ?_ ⟨?_, rfl⟩; (simp only [go_sem, Int.reduceEq, Int.reduceAdd, Int.reduceSub, Int.reduceMul, Nat.reduceLT, Int.reduceLT, Int.reduceLE, Int.reduceToNat, Nat.reduceAdd, Nat.reduceSub, Nat.reduceMul, Nat.reduceLeDiff, reduceCtorEq, d50_0]))
      rw [ht]; assumption
  · (simp only [go_sem, Int.reduceEq, Int.reduceAdd, Int.reduceSub, Int.reduceMul, Nat.reduceLT, Int.reduceLT, Int.reduceLE, Int.reduceToNat, Nat.reduceAdd, Nat.reduceSub, Nat.reduceMul, Nat.reduceLeDiff, reduceCtorEq, hlt]; refine frz_id ?_; simp only [go_sem, Int.reduceEq, Int.reduceAdd, Int.reduceSub, Int.reduceMul, Nat.reduceLT, Int.reduceLT, Int.reduceLE, Int.reduceToNat, Nat.reduceAdd, Nat.reduceSub, Nat.reduceMul, Nat.reduceLeDiff, reduceCtorEq])
    refine hQ _ _ _ _ _ (by first | exact .inr rfl | exact .inl rfl) rfl (by first | exact FzH.refl _ | exact FzH.sub (by (repeat' (first | exact Sub.refl _ | assumption | (refine Sub.upd ?_ (by first | assumption | (simp only [*]; done) | exact Sub.isNone (by assumption) (by assumption) | exact Sub.isNone (by assumption) (by simp only [*]))))))) (FzL.refl _ _ _) ?_
    rw [List.take_of_length_le (by omega)] at hall
    simp only [go_sem, Int.reduceEq, Int.reduceAdd, Int.reduceSub, Int.reduceMul, Nat.reduceLT, Int.reduceLT, Int.reduceLE, Int.reduceToNat, Nat.reduceAdd, Nat.reduceSub, Nat.reduceMul, Nat.reduceLeDiff, reduceCtorEq, idx_none hall]

theorem intF_any (p : Int → Bool) (l : List (Int)) (ex : Bool) (f : FuncId) (caps : List AV) (h : AHeap) (hn : l.length ≤ 4611686018427387904) (hp : ∀ x ∈ l, PureA Try.prog f ((.int .i64 x) :: caps) h (.bool (p x))) :
    PureA Try.prog 40 [.ro (cat i1 l) l.length ex, .fn f caps] h (.bool (l.any p)) := by
  (refine PureA.enter (ac := c40) (rs := r40) Try.func40 rfl (by decide) c40_ok r40_ok ?_; intro Q hQ; simp only [go_sem, Int.reduceEq, Int.reduceAdd, Int.reduceSub, Int.reduceMul, Nat.reduceLT, Int.reduceLT, Int.reduceLE, Int.reduceToNat, Nat.reduceAdd, Nat.reduceSub, Nat.reduceMul, Nat.reduceLeDiff, reduceCtorEq, c40, Try.ntmps40])
  refine (intF_idx p l ex f caps h hn hp).use ?_
  simp only [go_sem, Int.reduceEq, Int.reduceAdd, Int.reduceSub, Int.reduceMul, Nat.reduceLT, Int.reduceLT, Int.reduceLE, Int.reduceToNat, Nat.reduceAdd, Nat.reduceSub, Nat.reduceMul, Nat.reduceLeDiff, reduceCtorEq]
  refine hQ _ _ _ _ _ (by first | exact .inr rfl | exact .inl rfl) rfl (by first | exact FzH.refl _ | exact FzH.sub (by (repeat' (first | exact Sub.refl _ | assumption | (refine Sub.upd ?_ (by first | assumption | (simp only [*]; done) | exact Sub.isNone (by assumption) (by assumption) | exact Sub.isNone (by assumption) (by simp only [*]))))))) (FzL.refl _ _ _) ?_
  simp only [go_sem, Int.reduceEq, Int.reduceAdd, Int.reduceSub, Int.reduceMul, Nat.reduceLT, Int.reduceLT, Int.reduceLE, Int.reduceToNat, Nat.reduceAdd, Nat.reduceSub, Nat.reduceMul, Nat.reduceLeDiff, reduceCtorEq, idxP_any]


def isNode (n : Int) : Bool := decide (0 ≤ n ∧ n < 64)
theorem nodesc_spec (n : Int) (h : AHeap) : PureA Try.prog 41 [.int .i64 n] h (.bool (!isNode n)) := by
  (refine PureA.enter (ac := c41) (rs := r41) Try.func41 rfl (by decide) c41_ok r41_ok ?_; intro Q hQ; simp only [go_sem, Int.reduceEq, Int.reduceAdd, Int.reduceSub, Int.reduceMul, Nat.reduceLT, Int.reduceLT, Int.reduceLE, Int.reduceToNat, Nat.reduceAdd, Nat.reduceSub, Nat.reduceMul, Nat.reduceLeDiff, reduceCtorEq, c41, Try.ntmps41])
  by_cases g1 : n < 0
  · have e : isNode n = false := decide_eq_false (by omega)
    simp only [go_sem, Int.reduceEq, Int.reduceAdd, Int.reduceSub, Int.reduceMul, Nat.reduceLT, Int.reduceLT, Int.reduceLE, Int.reduceToNat, Nat.reduceAdd, Nat.reduceSub, Nat.reduceMul, Nat.reduceLeDiff, reduceCtorEq, g1]
    (refine hQ _ _ _ _ _ (by first | exact .inr rfl | exact .inl rfl) rfl (by first | exact FzH.refl _ | exact FzH.sub (by (repeat' (first | exact Sub.refl _ | assumption | (refine Sub.upd ?_ (by first | assumption | (simp only [*]; done) | exact Sub.isNone (by assumption) (by assumption) | exact Sub.isNone (by assumption) (by simp only [*]))))))) (FzL.refl _ _ _) ?_; try (simp only [go_sem, Int.reduceEq, Int.reduceAdd, Int.reduceSub, Int.reduceMul, Nat.reduceLT, Int.reduceLT, Int.reduceLE, Int.reduceToNat, Nat.reduceAdd, Nat.reduceSub, Nat.reduceMul, Nat.reduceLeDiff, reduceCtorEq, e]))
  · by_cases g2 : 64 ≤ n
    · have e : isNode n = false := decide_eq_false (by omega)
      simp only [go_sem, Int.reduceEq, Int.reduceAdd, Int.reduceSub, Int.reduceMul, Nat.reduceLT, Int.reduceLT, Int.reduceLE, Int.reduceToNat, Nat.reduceAdd, Nat.reduceSub, Nat.reduceMul, Nat.reduceLeDiff, reduceCtorEq, g1, g2]
      (refine hQ _ _ _ _ _ (by first | exact .inr rfl | exact .inl rfl) rfl (by first | exact FzH.refl _ | exact FzH.sub (by (repeat' (first | exact Sub.refl _ | assumption | (refine Sub.upd ?_ (by first | assumption | (simp only [*]; done) | exact Sub.isNone (by assumption) (by assumption) | exact Sub.isNone (by assumption) (by simp only [*]))))))) (FzL.refl _ _ _) ?_; try (simp only [go_sem, Int.reduceEq, Int.reduceAdd, Int.reduceSub, Int.reduceMul, Nat.reduceLT, Int.reduceLT, Int.reduceLE, Int.reduceToNat, Nat.reduceAdd, Nat.reduceSub, Nat.reduceMul, Nat.reduceLeDiff, reduceCtorEq, e]))
    · have e : isNode n = true := decide_eq_true (by omega)
      simp only [go_sem, Int.reduceEq, Int.reduceAdd, Int.reduceSub, Int.reduceMul, Nat.reduceLT, Int.reduceLT, Int.reduceLE, Int.reduceToNat, Nat.reduceAdd, Nat.reduceSub, Nat.reduceMul, Nat.reduceLeDiff, reduceCtorEq, g1, g2]
      (refine hQ _ _ _ _ _ (by first | exact .inr rfl | exact .inl rfl) rfl (by first | exact FzH.refl _ | exact FzH.sub (by (repeat' (first | exact Sub.refl _ | assumption | (refine Sub.upd ?_ (by first | assumption | (simp only [*]; done) | exact Sub.isNone (by assumption) (by assumption) | exact Sub.isNone (by assumption) (by simp only [*]))))))) (FzL.refl _ _ _) ?_; try (simp only [go_sem, Int.reduceEq, Int.reduceAdd, Int.reduceSub, Int.reduceMul, Nat.reduceLT, Int.reduceLT, Int.reduceLE, Int.reduceToNat, Nat.reduceAdd, Nat.reduceSub, Nat.reduceMul, Nat.reduceLeDiff, reduceCtorEq, e]))
theorem nodes2 (m n : Int) (ex : Bool) (h : AHeap) : PureA Try.prog 25 [.ro [.int .i64 m, .int .i64 n] 2 ex] h (.bool (isNode m && isNode n)) := by
  (refine PureA.enter (ac := c25) (rs := r25) Try.func25 rfl (by decide) c25_ok r25_ok ?_; intro Q hQ; simp only [go_sem, Int.reduceEq, Int.reduceAdd, Int.reduceSub, Int.reduceMul, Nat.reduceLT, Int.reduceLT, Int.reduceLE, Int.reduceToNat, Nat.reduceAdd, Nat.reduceSub, Nat.reduceMul, Nat.reduceLeDiff, reduceCtorEq, c25, Try.ntmps25])
  refine (intF_any (fun n => !isNode n) [m, n] ex 41 [] _ (by simp) (fun x hx => nodesc_spec x _)).use ?_
  have e : (!([m, n].any fun n => !isNode n)) = (isNode m && isNode n) := by simp
  simp only [go_sem, Int.reduceEq, Int.reduceAdd, Int.reduceSub, Int.reduceMul, Nat.reduceLT, Int.reduceLT, Int.reduceLE, Int.reduceToNat, Nat.reduceAdd, Nat.reduceSub, Nat.reduceMul, Nat.reduceLeDiff, reduceCtorEq, e]
  (refine hQ _ _ _ _ _ (by first | exact .inr rfl | exact .inl rfl) rfl (by first | exact FzH.refl _ | exact FzH.sub (by (repeat' (first | exact Sub.refl _ | assumption | (refine Sub.upd ?_ (by first | assumption | (simp only [*]; done) | exact Sub.isNone (by assumption) (by assumption) | exact Sub.isNone (by assumption) (by simp only [*]))))))) (FzL.refl _ _ _) ?_; try (simp only [go_sem, Int.reduceEq, Int.reduceAdd, Int.reduceSub, Int.reduceMul, Nat.reduceLT, Int.reduceLT, Int.reduceLE, Int.reduceToNat, Nat.reduceAdd, Nat.reduceSub, Nat.reduceMul, Nat.reduceLeDiff, reduceCtorEq]))

def okR (r : Rt) : Bool := isNode r.node && isNode r.via && isCtr r.sq && decide (0 ≤ r.til ∧ r.til ≤ 2305843009213693952)
theorem tcheck_spec (r : Rt) (h : AHeap) : PureA Try.prog 9 [.agg r.av] h (.int .i64 (if okR r then 0 else 1)) := by
  (refine PureA.enter (ac := c9) (rs := r9) Try.func9 rfl (by decide) c9_ok r9_ok ?_; intro Q hQ; simp only [go_sem, Int.reduceEq, Int.reduceAdd, Int.reduceSub, Int.reduceMul, Nat.reduceLT, Int.reduceLT, Int.reduceLE, Int.reduceToNat, Nat.reduceAdd, Nat.reduceSub, Nat.reduceMul, Nat.reduceLeDiff, reduceCtorEq, c9, Try.ntmps9, Rt.av])
  refine (nodes2 _ _ _ _).use ?_
  cases g1 : isNode r.node && isNode r.via
  · simp only [go_sem, Int.reduceEq, Int.reduceAdd, Int.reduceSub, Int.reduceMul, Nat.reduceLT, Int.reduceLT, Int.reduceLE, Int.reduceToNat, Nat.reduceAdd, Nat.reduceSub, Nat.reduceMul, Nat.reduceLeDiff, reduceCtorEq]
    (refine hQ _ _ _ _ _ (by first | exact .inr rfl | exact .inl rfl) rfl (by first | exact FzH.refl _ | exact FzH.sub (by (repeat' (first | exact Sub.refl _ | assumption | (refine Sub.upd ?_ (by first | assumption | (simp only [*]; done) | exact Sub.isNone (by assumption) (by assumption) | exact Sub.isNone (by assumption) (by simp only [*]))))))) (FzL.refl _ _ _) ?_; try (simp only [go_sem, Int.reduceEq, Int.reduceAdd, Int.reduceSub, Int.reduceMul, Nat.reduceLT, Int.reduceLT, Int.reduceLE, Int.reduceToNat, Nat.reduceAdd, Nat.reduceSub, Nat.reduceMul, Nat.reduceLeDiff, reduceCtorEq, okR, g1, Bool.false_and]))
  simp only [go_sem, Int.reduceEq, Int.reduceAdd, Int.reduceSub, Int.reduceMul, Nat.reduceLT, Int.reduceLT, Int.reduceLE, Int.reduceToNat, Nat.reduceAdd, Nat.reduceSub, Nat.reduceMul, Nat.reduceLeDiff, reduceCtorEq]
  refine (valid1 _ _ _).use ?_
  cases g2 : isCtr r.sq
  · simp only [go_sem, Int.reduceEq, Int.reduceAdd, Int.reduceSub, Int.reduceMul, Nat.reduceLT, Int.reduceLT, Int.reduceLE, Int.reduceToNat, Nat.reduceAdd, Nat.reduceSub, Nat.reduceMul, Nat.reduceLeDiff, reduceCtorEq]
    (refine hQ _ _ _ _ _ (by first | exact .inr rfl | exact .inl rfl) rfl (by first | exact FzH.refl _ | exact FzH.sub (by (repeat' (first | exact Sub.refl _ | assumption | (refine Sub.upd ?_ (by first | assumption | (simp only [*]; done) | exact Sub.isNone (by assumption) (by assumption) | exact Sub.isNone (by assumption) (by simp only [*]))))))) (FzL.refl _ _ _) ?_; try (simp only [go_sem, Int.reduceEq, Int.reduceAdd, Int.reduceSub, Int.reduceMul, Nat.reduceLT, Int.reduceLT, Int.reduceLE, Int.reduceToNat, Nat.reduceAdd, Nat.reduceSub, Nat.reduceMul, Nat.reduceLeDiff, reduceCtorEq, okR, g1, g2, Bool.false_and]))
  simp only [go_sem, Int.reduceEq, Int.reduceAdd, Int.reduceSub, Int.reduceMul, Nat.reduceLT, Int.reduceLT, Int.reduceLE, Int.reduceToNat, Nat.reduceAdd, Nat.reduceSub, Nat.reduceMul, Nat.reduceLeDiff, reduceCtorEq]
  by_cases g3 : r.til < 0
  · have e : decide (0 ≤ r.til ∧ r.til ≤ 2305843009213693952) = false := decide_eq_false (by omega)
    simp only [go_sem, Int.reduceEq, Int.reduceAdd, Int.reduceSub, Int.reduceMul, Nat.reduceLT, Int.reduceLT, Int.reduceLE, Int.reduceToNat, Nat.reduceAdd, Nat.reduceSub, Nat.reduceMul, Nat.reduceLeDiff, reduceCtorEq, g3]
    (refine hQ _ _ _ _ _ (by first | exact .inr rfl | exact .inl rfl) rfl (by first | exact FzH.refl _ | exact FzH.sub (by (repeat' (first | exact Sub.refl _ | assumption | (refine Sub.upd ?_ (by first | assumption | (simp only [*]; done) | exact Sub.isNone (by assumption) (by assumption) | exact Sub.isNone (by assumption) (by simp only [*]))))))) (FzL.refl _ _ _) ?_; try (simp only [go_sem, Int.reduceEq, Int.reduceAdd, Int.reduceSub, Int.reduceMul, Nat.reduceLT, Int.reduceLT, Int.reduceLE, Int.reduceToNat, Nat.reduceAdd, Nat.reduceSub, Nat.reduceMul, Nat.reduceLeDiff, reduceCtorEq, okR, g1, g2, e]))
  by_cases g4 : 2305843009213693952 < r.til
  · have e : decide (0 ≤ r.til ∧ r.til ≤ 2305843009213693952) = false := decide_eq_false (by omega)
    simp only [go_sem, Int.reduceEq, Int.reduceAdd, Int.reduceSub, Int.reduceMul, Nat.reduceLT, Int.reduceLT, Int.reduceLE, Int.reduceToNat, Nat.reduceAdd, Nat.reduceSub, Nat.reduceMul, Nat.reduceLeDiff, reduceCtorEq, g3, g4]
    (refine hQ _ _ _ _ _ (by first | exact .inr rfl | exact .inl rfl) rfl (by first | exact FzH.refl _ | exact FzH.sub (by (repeat' (first | exact Sub.refl _ | assumption | (refine Sub.upd ?_ (by first | assumption | (simp only [*]; done) | exact Sub.isNone (by assumption) (by assumption) | exact Sub.isNone (by assumption) (by simp only [*]))))))) (FzL.refl _ _ _) ?_; try (simp only [go_sem, Int.reduceEq, Int.reduceAdd, Int.reduceSub, Int.reduceMul, Nat.reduceLT, Int.reduceLT, Int.reduceLE, Int.reduceToNat, Nat.reduceAdd, Nat.reduceSub, Nat.reduceMul, Nat.reduceLeDiff, reduceCtorEq, okR, g1, g2, e]))
  · have e : decide (0 ≤ r.til ∧ r.til ≤ 2305843009213693952) = true := decide_eq_true (by omega)
    simp only [go_sem, Int.reduceEq, Int.reduceAdd, Int.reduceSub, Int.reduceMul, Nat.reduceLT, Int.reduceLT, Int.reduceLE, Int.reduceToNat, Nat.reduceAdd, Nat.reduceSub, Nat.reduceMul, Nat.reduceLeDiff, reduceCtorEq, g3, g4]
    (refine hQ _ _ _ _ _ (by first | exact .inr rfl | exact .inl rfl) rfl (by first | exact FzH.refl _ | exact FzH.sub (by (repeat' (first | exact Sub.refl _ | assumption | (refine Sub.upd ?_ (by first | assumption | (simp only [*]; done) | exact Sub.isNone (by assumption) (by assumption) | exact Sub.isNone (by assumption) (by simp only [*]))))))) (FzL.refl _ _ _) ?_; try (simp only [go_sem, Int.reduceEq, Int.reduceAdd, Int.reduceSub, Int.reduceMul, Nat.reduceLT, Int.reduceLT, Int.reduceLE, Int.reduceToNat, Nat.reduceAdd, Nat.reduceSub, Nat.reduceMul, Nat.reduceLeDiff, reduceCtorEq, okR, g1, g2, e]))

def freshB (r old : Rt) : Bool := newerB r.sq old.sq || decide (r.sq = old.sq) && decide (r.via = old.via)
theorem fresher_spec (r old : Rt) (h : AHeap) : PureA Try.prog 23 [.agg r.av, .agg old.av] h (.bool (freshB r old)) := by
  (refine PureA.enter (ac := c23) (rs := r23) Try.func23 rfl (by decide) c23_ok r23_ok ?_; intro Q hQ; simp only [go_sem, Int.reduceEq, Int.reduceAdd, Int.reduceSub, Int.reduceMul, Nat.reduceLT, Int.reduceLT, Int.reduceLE, Int.reduceToNat, Nat.reduceAdd, Nat.reduceSub, Nat.reduceMul, Nat.reduceLeDiff, reduceCtorEq, c23, Try.ntmps23, Rt.av])
  refine (newer_spec _ _ _).use ?_
  cases g : newerB r.sq old.sq
  · cases g2 : decide (r.sq = old.sq)
    · simp only [go_sem, Int.reduceEq, Int.reduceAdd, Int.reduceSub, Int.reduceMul, Nat.reduceLT, Int.reduceLT, Int.reduceLE, Int.reduceToNat, Nat.reduceAdd, Nat.reduceSub, Nat.reduceMul, Nat.reduceLeDiff, reduceCtorEq, g2]
      (refine hQ _ _ _ _ _ (by first | exact .inr rfl | exact .inl rfl) rfl (by first | exact FzH.refl _ | exact FzH.sub (by (repeat' (first | exact Sub.refl _ | assumption | (refine Sub.upd ?_ (by first | assumption | (simp only [*]; done) | exact Sub.isNone (by assumption) (by assumption) | exact Sub.isNone (by assumption) (by simp only [*]))))))) (FzL.refl _ _ _) ?_; try (simp only [go_sem, Int.reduceEq, Int.reduceAdd, Int.reduceSub, Int.reduceMul, Nat.reduceLT, Int.reduceLT, Int.reduceLE, Int.reduceToNat, Nat.reduceAdd, Nat.reduceSub, Nat.reduceMul, Nat.reduceLeDiff, reduceCtorEq, freshB, g, g2]))
    · simp only [go_sem, Int.reduceEq, Int.reduceAdd, Int.reduceSub, Int.reduceMul, Nat.reduceLT, Int.reduceLT, Int.reduceLE, Int.reduceToNat, Nat.reduceAdd, Nat.reduceSub, Nat.reduceMul, Nat.reduceLeDiff, reduceCtorEq, g2]
      (refine hQ _ _ _ _ _ (by first | exact .inr rfl | exact .inl rfl) rfl (by first | exact FzH.refl _ | exact FzH.sub (by (repeat' (first | exact Sub.refl _ | assumption | (refine Sub.upd ?_ (by first | assumption | (simp only [*]; done) | exact Sub.isNone (by assumption) (by assumption) | exact Sub.isNone (by assumption) (by simp only [*]))))))) (FzL.refl _ _ _) ?_; try (simp only [go_sem, Int.reduceEq, Int.reduceAdd, Int.reduceSub, Int.reduceMul, Nat.reduceLT, Int.reduceLT, Int.reduceLE, Int.reduceToNat, Nat.reduceAdd, Nat.reduceSub, Nat.reduceMul, Nat.reduceLeDiff, reduceCtorEq, freshB, g, g2]))
  · simp only [go_sem, Int.reduceEq, Int.reduceAdd, Int.reduceSub, Int.reduceMul, Nat.reduceLT, Int.reduceLT, Int.reduceLE, Int.reduceToNat, Nat.reduceAdd, Nat.reduceSub, Nat.reduceMul, Nat.reduceLeDiff, reduceCtorEq]
    (refine hQ _ _ _ _ _ (by first | exact .inr rfl | exact .inl rfl) rfl (by first | exact FzH.refl _ | exact FzH.sub (by (repeat' (first | exact Sub.refl _ | assumption | (refine Sub.upd ?_ (by first | assumption | (simp only [*]; done) | exact Sub.isNone (by assumption) (by assumption) | exact Sub.isNone (by assumption) (by simp only [*]))))))) (FzL.refl _ _ _) ?_; try (simp only [go_sem, Int.reduceEq, Int.reduceAdd, Int.reduceSub, Int.reduceMul, Nat.reduceLT, Int.reduceLT, Int.reduceLE, Int.reduceToNat, Nat.reduceAdd, Nat.reduceSub, Nat.reduceMul, Nat.reduceLeDiff, reduceCtorEq, freshB, g]))

/-- A table, with its map's block. -/
structure TB (h : AHeap) (p id : Nat) (most : Int) (f : List (Int × Rt)) (H : AHeap) : Prop where
  hp : h p = none
  hid : h id = none
  ne : p ≠ id
  keys : AKeys f
  how : ∃ es c, MapIs kI (fun r : Rt => .agg r.av) es f ∧ H = upd (upd h id (.map es c)) p (.cells [.int .i64 most, .map id] 2)

theorem TB.own {h H : AHeap} {p id : Nat} {most : Int} {f : List (Int × Rt)} (t : TB h p id most f H) : ∃ es c, MapIs kI (fun r : Rt => .agg r.av) es f ∧ H p = some (.cells [.int .i64 most, .map id] 2) ∧ H id = some (.map es c) := by
  obtain ⟨es, c, hm, rfl⟩ := t.how
  exact ⟨es, c, hm, upd_same, by rw [upd_ne t.ne.symm]; exact upd_same⟩
theorem TB.put {h H : AHeap} {p id : Nat} {most : Int} {f : List (Int × Rt)} (t : TB h p id most f H) {f' : List (Int × Rt)} (hk : AKeys f') {es : Ents} {c : Nat} (hm : MapIs kI (fun r : Rt => .agg r.av) es f') : TB h p id most f' (upd H id (.map es c)) := by
  obtain ⟨es0, c0, _, rfl⟩ := t.how
  refine ⟨t.hp, t.hid, t.ne, hk, es, c, hm, ?_⟩
  rw [upd_comm t.ne.symm, upd_upd]
  exact upd_comm t.ne
theorem TB.sub {h H : AHeap} {p id : Nat} {most : Int} {f : List (Int × Rt)} (t : TB h p id most f H) : E.Sub h H := by
  obtain ⟨es0, c0, _, rfl⟩ := t.how
  intro x o e
  rw [upd_ne (by rintro rfl; rw [t.hp] at e; cases e), upd_ne (by rintro rfl; rw [t.hid] at e; cases e)]; exact e

theorem tnew_spec (most : Int) (h1 : 1 ≤ most) (h2 : most ≤ 32) (h : AHeap) : CallsA Try.prog 4 [.int .i64 most] h (fun r H => ∃ p id, r = .tup [.ptr p 0, .int .i64 0] ∧ TB h p id most [] H) := by
  have g1 : decide (most < 1) = false := decide_eq_false (by omega)
  have g2 : decide (32 < most) = false := decide_eq_false (by omega)
  (refine CallsA.enterR (ac := c4) (rs := r4) Try.func4 rfl (by decide) c4_ok r4_ok ?_; intro Q hQ; simp only [go_sem, Int.reduceEq, Int.reduceAdd, Int.reduceSub, Int.reduceMul, Nat.reduceLT, Int.reduceLT, Int.reduceLE, Int.reduceToNat, Nat.reduceAdd, Nat.reduceSub, Nat.reduceMul, Nat.reduceLeDiff, reduceCtorEq, c4, Try.ntmps4, g1, g2])
  intro id hid p hp
  have hne : p ≠ id := by rintro rfl; rw [upd_same] at hp; cases hp
  rw [upd_ne hne] at hp
  refine hQ _ _ _ _ _ _ (.inr rfl) rfl (FzH.refl _) (FzL.refl _ _ _) ⟨p, id, rfl, hp, hid, hne, AKeys_nil, [], 0, rfl, rfl⟩

def rt0 : Rt := ⟨0, 0, 0, 0⟩
theorem tget_spec {h H : AHeap} {p id : Nat} {most : Int} {f : List (Int × Rt)} (t : TB h p id most f H) (n : Int) : PureA Try.prog 20 [.ptr p 0, .int .i64 n] H (.tup [.agg ((alook f n).getD rt0).av, .int .i64 (if (alook f n).isSome then 0 else 8)]) := by
  obtain ⟨es, c, hm, hP, hI⟩ := t.own
  (refine PureA.enter (ac := c20) (rs := r20) Try.func20 rfl (by decide) c20_ok r20_ok ?_; intro Q hQ; simp only [go_sem, Int.reduceEq, Int.reduceAdd, Int.reduceSub, Int.reduceMul, Nat.reduceLT, Int.reduceLT, Int.reduceLE, Int.reduceToNat, Nat.reduceAdd, Nat.reduceSub, Nat.reduceMul, Nat.reduceLeDiff, reduceCtorEq, c20, Try.ntmps20])
  intro q hq
  have hqp : p ≠ q := by rintro rfl; rw [hP] at hq; cases hq
  have hqi : id ≠ q := by rintro rfl; rw [hI] at hq; cases hq
  have e1 : ∀ Z, upd H q Z p = some (.cells [.int .i64 most, .map id] 2) := fun Z => by rw [upd_ne hqp]; exact hP
  have e2 : ∀ Z, upd H q Z id = some (.map es c) := fun Z => by rw [upd_ne hqi]; exact hI
  simp only [go_sem, Int.reduceEq, Int.reduceAdd, Int.reduceSub, Int.reduceMul, Nat.reduceLT, Int.reduceLT, Int.reduceLE, Int.reduceToNat, Nat.reduceAdd, Nat.reduceSub, Nat.reduceMul, Nat.reduceLeDiff, reduceCtorEq, e1]
  refine map_get (f := f) (ew := fun r : Rt => .agg r.av) (k := n) kI_fit (e2 _) hm ?_
  cases e : alook f n with
  | none =>
    simp only [go_sem, Int.reduceEq, Int.reduceAdd, Int.reduceSub, Int.reduceMul, Nat.reduceLT, Int.reduceLT, Int.reduceLE, Int.reduceToNat, Nat.reduceAdd, Nat.reduceSub, Nat.reduceMul, Nat.reduceLeDiff, reduceCtorEq, mres]
    intro u hu
    simp only [go_sem, Int.reduceEq, Int.reduceAdd, Int.reduceSub, Int.reduceMul, Nat.reduceLT, Int.reduceLT, Int.reduceLE, Int.reduceToNat, Nat.reduceAdd, Nat.reduceSub, Nat.reduceMul, Nat.reduceLeDiff, reduceCtorEq, del_same, del_none hu]
    refine hQ _ _ _ _ [_, _] (by first | exact .inr rfl | exact .inl rfl) (by first | rfl | (simp only [go_sem, Int.reduceEq, Int.reduceAdd, Int.reduceSub, Int.reduceMul, Nat.reduceLT, Int.reduceLT, Int.reduceLE, Int.reduceToNat, Nat.reduceAdd, Nat.reduceSub, Nat.reduceMul, Nat.reduceLeDiff, reduceCtorEq, r20]; rfl) | simp only [go_sem, Int.reduceEq, Int.reduceAdd, Int.reduceSub, Int.reduceMul, Nat.reduceLT, Int.reduceLT, Int.reduceLE, Int.reduceToNat, Nat.reduceAdd, Nat.reduceSub, Nat.reduceMul, Nat.reduceLeDiff, reduceCtorEq, r20]) (FzH.sub (by (repeat' (first | exact Sub.refl _ | assumption | (refine Sub.upd ?_ (by first | assumption | (simp only [*]; done) | exact Sub.isNone (by assumption) (by assumption) | exact Sub.isNone (by assumption) (by simp only [*]))))))) (by (repeat' (first | exact FzL.nil | exact Fz.refl _ | exact FzL.refl _ _ _ | exact Fz.nils | exact Grow.fz (by assumption) | refine FzL.cons ?_ ?_ | refine Fz.agg ?_ | refine Fz.tup ?_ | refine Fz.ro ?_ (by simp)))) ?_
    rw [e]
    rfl
  | some r =>
    simp only [go_sem, Int.reduceEq, Int.reduceAdd, Int.reduceSub, Int.reduceMul, Nat.reduceLT, Int.reduceLT, Int.reduceLE, Int.reduceToNat, Nat.reduceAdd, Nat.reduceSub, Nat.reduceMul, Nat.reduceLeDiff, reduceCtorEq, mres, Rt.av]
    intro u hu
    simp only [go_sem, Int.reduceEq, Int.reduceAdd, Int.reduceSub, Int.reduceMul, Nat.reduceLT, Int.reduceLT, Int.reduceLE, Int.reduceToNat, Nat.reduceAdd, Nat.reduceSub, Nat.reduceMul, Nat.reduceLeDiff, reduceCtorEq, del_same, del_none hu]
    refine hQ _ _ _ _ [_, _] (by first | exact .inr rfl | exact .inl rfl) (by first | rfl | (simp only [go_sem, Int.reduceEq, Int.reduceAdd, Int.reduceSub, Int.reduceMul, Nat.reduceLT, Int.reduceLT, Int.reduceLE, Int.reduceToNat, Nat.reduceAdd, Nat.reduceSub, Nat.reduceMul, Nat.reduceLeDiff, reduceCtorEq, r20]; rfl) | simp only [go_sem, Int.reduceEq, Int.reduceAdd, Int.reduceSub, Int.reduceMul, Nat.reduceLT, Int.reduceLT, Int.reduceLE, Int.reduceToNat, Nat.reduceAdd, Nat.reduceSub, Nat.reduceMul, Nat.reduceLeDiff, reduceCtorEq, r20]) (FzH.sub (by (repeat' (first | exact Sub.refl _ | assumption | (refine Sub.upd ?_ (by first | assumption | (simp only [*]; done) | exact Sub.isNone (by assumption) (by assumption) | exact Sub.isNone (by assumption) (by simp only [*]))))))) (by (repeat' (first | exact FzL.nil | exact Fz.refl _ | exact FzL.refl _ _ _ | exact Fz.nils | exact Grow.fz (by assumption) | refine FzL.cons ?_ ?_ | refine Fz.agg ?_ | refine Fz.tup ?_ | refine Fz.ro ?_ (by simp)))) ?_
    rw [e]
    rfl

theorem tlen_spec {h H : AHeap} {p id : Nat} {most : Int} {f : List (Int × Rt)} (t : TB h p id most f H) : PureA Try.prog 19 [.ptr p 0] H (.int .i64 (f.length : Int)) := by
  obtain ⟨es, c, hm, hP, hI⟩ := t.own
  (refine PureA.enter (ac := c19) (rs := r19) Try.func19 rfl (by decide) c19_ok r19_ok ?_; intro Q hQ; simp only [go_sem, Int.reduceEq, Int.reduceAdd, Int.reduceSub, Int.reduceMul, Nat.reduceLT, Int.reduceLT, Int.reduceLE, Int.reduceToNat, Nat.reduceAdd, Nat.reduceSub, Nat.reduceMul, Nat.reduceLeDiff, reduceCtorEq, c19, Try.ntmps19])
  simp only [go_sem, Int.reduceEq, Int.reduceAdd, Int.reduceSub, Int.reduceMul, Nat.reduceLT, Int.reduceLT, Int.reduceLE, Int.reduceToNat, Nat.reduceAdd, Nat.reduceSub, Nat.reduceMul, Nat.reduceLeDiff, reduceCtorEq, hP]
  refine map_len (f := f) (ek := kI) (ew := fun r : Rt => .agg r.av) hI hm ?_
  simp only [go_sem, Int.reduceEq, Int.reduceAdd, Int.reduceSub, Int.reduceMul, Nat.reduceLT, Int.reduceLT, Int.reduceLE, Int.reduceToNat, Nat.reduceAdd, Nat.reduceSub, Nat.reduceMul, Nat.reduceLeDiff, reduceCtorEq]
  (refine hQ _ _ _ _ _ (by first | exact .inr rfl | exact .inl rfl) rfl (by first | exact FzH.refl _ | exact FzH.sub (by (repeat' (first | exact Sub.refl _ | assumption | (refine Sub.upd ?_ (by first | assumption | (simp only [*]; done) | exact Sub.isNone (by assumption) (by assumption) | exact Sub.isNone (by assumption) (by simp only [*]))))))) (FzL.refl _ _ _) ?_; try (simp only [go_sem, Int.reduceEq, Int.reduceAdd, Int.reduceSub, Int.reduceMul, Nat.reduceLT, Int.reduceLT, Int.reduceLE, Int.reduceToNat, Nat.reduceAdd, Nat.reduceSub, Nat.reduceMul, Nat.reduceLeDiff, reduceCtorEq]))

/-- What is refused, and the routes behind a Learn. -/
def learnE (most : Int) (f : List (Int × Rt)) (r : Rt) : Int :=
  if okR r then (match alook f r.node with
    | some old => if freshB r old then 0 else 9
    | none => if most ≤ (f.length : Int) then 7 else 0) else 1
def learnF (most : Int) (f : List (Int × Rt)) (r : Rt) : List (Int × Rt) := if learnE most f r = 0 then aset f r.node r else f

theorem tlearn_spec {h H : AHeap} {p id : Nat} {most : Int} {f : List (Int × Rt)} (t : TB h p id most f H) (r : Rt) :
    CallsA Try.prog 6 [.ptr p 0, .agg r.av] H (fun v H' => v = .int .i64 (learnE most f r) ∧ TB h p id most (learnF most f r) H') := by
  obtain ⟨es, c, hm, hP, hI⟩ := t.own
  (refine CallsA.enterR (ac := c6) (rs := r6) Try.func6 rfl (by decide) c6_ok r6_ok ?_; intro Q hQ; simp only [go_sem, Int.reduceEq, Int.reduceAdd, Int.reduceSub, Int.reduceMul, Nat.reduceLT, Int.reduceLT, Int.reduceLE, Int.reduceToNat, Nat.reduceAdd, Nat.reduceSub, Nat.reduceMul, Nat.reduceLeDiff, reduceCtorEq, c6, Try.ntmps6, Rt.av])
  refine (tcheck_spec r _).use ?_
  cases g1 : okR r
  · have e : learnE most f r = 1 := by unfold learnE; rw [g1]; rfl
    have e2 : learnF most f r = f := by unfold learnF; rw [e]; rfl
    simp only [go_sem, Int.reduceEq, Int.reduceAdd, Int.reduceSub, Int.reduceMul, Nat.reduceLT, Int.reduceLT, Int.reduceLE, Int.reduceToNat, Nat.reduceAdd, Nat.reduceSub, Nat.reduceMul, Nat.reduceLeDiff, reduceCtorEq, show decide ((1 : Int) = 0) = false from rfl]
    refine hQ _ _ _ _ _ _ (.inr rfl) rfl (FzH.refl _) (FzL.refl _ _ _) ⟨by rw [e]; rfl, by rw [e2]; exact t⟩
  have done : learnE most f r = 0 → ∀ {es' : Ents} {c' : Nat}, MapIs kI (fun r : Rt => .agg r.av) es' (aset f r.node r) → TB h p id most (learnF most f r) (upd H id (.map es' c')) := fun e es' c' hm' => by
    have e2 : learnF most f r = aset f r.node r := by unfold learnF; rw [if_pos e]
    rw [e2]; exact t.put (AKeys_set t.keys) hm'
  simp only [go_sem, Int.reduceEq, Int.reduceAdd, Int.reduceSub, Int.reduceMul, Nat.reduceLT, Int.reduceLT, Int.reduceLE, Int.reduceToNat, Nat.reduceAdd, Nat.reduceSub, Nat.reduceMul, Nat.reduceLeDiff, reduceCtorEq, hP]
  refine map_get (f := f) (ew := fun r : Rt => .agg r.av) (k := r.node) kI_fit hI hm ?_
  cases e0 : alook f r.node with
  | some old =>
    simp only [go_sem, Int.reduceEq, Int.reduceAdd, Int.reduceSub, Int.reduceMul, Nat.reduceLT, Int.reduceLT, Int.reduceLE, Int.reduceToNat, Nat.reduceAdd, Nat.reduceSub, Nat.reduceMul, Nat.reduceLeDiff, reduceCtorEq, mres, Rt.av]
    intro u hu
    simp only [go_sem, Int.reduceEq, Int.reduceAdd, Int.reduceSub, Int.reduceMul, Nat.reduceLT, Int.reduceLT, Int.reduceLE, Int.reduceToNat, Nat.reduceAdd, Nat.reduceSub, Nat.reduceMul, Nat.reduceLeDiff, reduceCtorEq, del_same, del_none hu]
    refine (fresher_spec r old _).use ?_
    cases g2 : freshB r old
    · have e : learnE most f r = 9 := by unfold learnE; rw [g1, e0]; simp [g2]
      have e2 : learnF most f r = f := by unfold learnF; rw [e]; rfl
      simp only [go_sem, Int.reduceEq, Int.reduceAdd, Int.reduceSub, Int.reduceMul, Nat.reduceLT, Int.reduceLT, Int.reduceLE, Int.reduceToNat, Nat.reduceAdd, Nat.reduceSub, Nat.reduceMul, Nat.reduceLeDiff, reduceCtorEq]
      refine hQ _ _ _ _ _ _ (.inr rfl) rfl (FzH.refl _) (FzL.refl _ _ _) ⟨by rw [e]; rfl, by rw [e2]; exact t⟩
    · have e : learnE most f r = 0 := by unfold learnE; rw [g1, e0]; simp [g2]
      simp only [go_sem, Int.reduceEq, Int.reduceAdd, Int.reduceSub, Int.reduceMul, Nat.reduceLT, Int.reduceLT, Int.reduceLE, Int.reduceToNat, Nat.reduceAdd, Nat.reduceSub, Nat.reduceMul, Nat.reduceLeDiff, reduceCtorEq, hP]
      refine map_put (f := f) (ew := fun r : Rt => .agg r.av) (k := r.node) (v := r) kI_fit hI hm t.keys fun es' c' hm' => ?_
      simp only [go_sem, Int.reduceEq, Int.reduceAdd, Int.reduceSub, Int.reduceMul, Nat.reduceLT, Int.reduceLT, Int.reduceLE, Int.reduceToNat, Nat.reduceAdd, Nat.reduceSub, Nat.reduceMul, Nat.reduceLeDiff, reduceCtorEq]
      refine hQ _ _ _ _ _ _ (.inr rfl) rfl (FzH.refl _) (FzL.refl _ _ _) ⟨by rw [e]; rfl, done e hm'⟩
  | none =>
    simp only [go_sem, Int.reduceEq, Int.reduceAdd, Int.reduceSub, Int.reduceMul, Nat.reduceLT, Int.reduceLT, Int.reduceLE, Int.reduceToNat, Nat.reduceAdd, Nat.reduceSub, Nat.reduceMul, Nat.reduceLeDiff, reduceCtorEq, mres]
    intro u hu
    simp only [go_sem, Int.reduceEq, Int.reduceAdd, Int.reduceSub, Int.reduceMul, Nat.reduceLT, Int.reduceLT, Int.reduceLE, Int.reduceToNat, Nat.reduceAdd, Nat.reduceSub, Nat.reduceMul, Nat.reduceLeDiff, reduceCtorEq, del_same, del_none hu, hP]
    refine map_len (f := f) (ek := kI) (ew := fun r : Rt => .agg r.av) hI hm ?_
    by_cases g2 : most ≤ (f.length : Int)
    · have e : learnE most f r = 7 := by unfold learnE; rw [g1, e0]; simp [g2]
      have e2 : learnF most f r = f := by unfold learnF; rw [e]; rfl
      simp only [go_sem, Int.reduceEq, Int.reduceAdd, Int.reduceSub, Int.reduceMul, Nat.reduceLT, Int.reduceLT, Int.reduceLE, Int.reduceToNat, Nat.reduceAdd, Nat.reduceSub, Nat.reduceMul, Nat.reduceLeDiff, reduceCtorEq, hP, g2]
      refine hQ _ _ _ _ _ _ (.inr rfl) rfl (FzH.refl _) (FzL.refl _ _ _) ⟨by rw [e]; rfl, by rw [e2]; exact t⟩
    · have e : learnE most f r = 0 := by unfold learnE; rw [g1, e0]; simp [g2]
      simp only [go_sem, Int.reduceEq, Int.reduceAdd, Int.reduceSub, Int.reduceMul, Nat.reduceLT, Int.reduceLT, Int.reduceLE, Int.reduceToNat, Nat.reduceAdd, Nat.reduceSub, Nat.reduceMul, Nat.reduceLeDiff, reduceCtorEq, hP, g2]
      refine map_put (f := f) (ew := fun r : Rt => .agg r.av) (k := r.node) (v := r) kI_fit hI hm t.keys fun es' c' hm' => ?_
      simp only [go_sem, Int.reduceEq, Int.reduceAdd, Int.reduceSub, Int.reduceMul, Nat.reduceLT, Int.reduceLT, Int.reduceLE, Int.reduceToNat, Nat.reduceAdd, Nat.reduceSub, Nat.reduceMul, Nat.reduceLeDiff, reduceCtorEq]
      refine hQ _ _ _ _ _ _ (.inr rfl) rfl (FzH.refl _) (FzL.refl _ _ _) ⟨by rw [e]; rfl, done e hm'⟩

theorem to19_spec (r : Rt) (h : AHeap) : PureA Try.prog 7 [.agg r.av] h (.agg r.av) := by
  (refine PureA.enter (ac := c7) (rs := r7) Try.func7 rfl (by decide) c7_ok r7_ok ?_; intro Q hQ; simp only [go_sem, Int.reduceEq, Int.reduceAdd, Int.reduceSub, Int.reduceMul, Nat.reduceLT, Int.reduceLT, Int.reduceLE, Int.reduceToNat, Nat.reduceAdd, Nat.reduceSub, Nat.reduceMul, Nat.reduceLeDiff, reduceCtorEq, c7, Try.ntmps7, Rt.av])
  intro p hp
  simp only [go_sem, Int.reduceEq, Int.reduceAdd, Int.reduceSub, Int.reduceMul, Nat.reduceLT, Int.reduceLT, Int.reduceLE, Int.reduceToNat, Nat.reduceAdd, Nat.reduceSub, Nat.reduceMul, Nat.reduceLeDiff, reduceCtorEq, del_same, del_none hp]
  (refine hQ _ _ _ _ _ (by first | exact .inr rfl | exact .inl rfl) rfl (by first | exact FzH.refl _ | exact FzH.sub (by (repeat' (first | exact Sub.refl _ | assumption | (refine Sub.upd ?_ (by first | assumption | (simp only [*]; done) | exact Sub.isNone (by assumption) (by assumption) | exact Sub.isNone (by assumption) (by simp only [*]))))))) (FzL.refl _ _ _) ?_; try (simp only [go_sem, Int.reduceEq, Int.reduceAdd, Int.reduceSub, Int.reduceMul, Nat.reduceLT, Int.reduceLT, Int.reduceLE, Int.reduceToNat, Nat.reduceAdd, Nat.reduceSub, Nat.reduceMul, Nat.reduceLeDiff, reduceCtorEq, Rt.av]))
theorem of19_spec (r : Rt) (h : AHeap) : PureA Try.prog 21 [.agg r.av] h (.agg r.av) := by
  (refine PureA.enter (ac := c21) (rs := r21) Try.func21 rfl (by decide) c21_ok r21_ok ?_; intro Q hQ; simp only [go_sem, Int.reduceEq, Int.reduceAdd, Int.reduceSub, Int.reduceMul, Nat.reduceLT, Int.reduceLT, Int.reduceLE, Int.reduceToNat, Nat.reduceAdd, Nat.reduceSub, Nat.reduceMul, Nat.reduceLeDiff, reduceCtorEq, c21, Try.ntmps21, Rt.av])
  intro p hp
  simp only [go_sem, Int.reduceEq, Int.reduceAdd, Int.reduceSub, Int.reduceMul, Nat.reduceLT, Int.reduceLT, Int.reduceLE, Int.reduceToNat, Nat.reduceAdd, Nat.reduceSub, Nat.reduceMul, Nat.reduceLeDiff, reduceCtorEq, del_same, del_none hp]
  (refine hQ _ _ _ _ _ (by first | exact .inr rfl | exact .inl rfl) rfl (by first | exact FzH.refl _ | exact FzH.sub (by (repeat' (first | exact Sub.refl _ | assumption | (refine Sub.upd ?_ (by first | assumption | (simp only [*]; done) | exact Sub.isNone (by assumption) (by assumption) | exact Sub.isNone (by assumption) (by simp only [*]))))))) (FzL.refl _ _ _) ?_; try (simp only [go_sem, Int.reduceEq, Int.reduceAdd, Int.reduceSub, Int.reduceMul, Nat.reduceLT, Int.reduceLT, Int.reduceLE, Int.reduceToNat, Nat.reduceAdd, Nat.reduceSub, Nat.reduceMul, Nat.reduceLeDiff, reduceCtorEq, Rt.av]))

theorem known19_spec (h : AHeap) : PureA Try.prog 5 [] h (.bool true) := by
  (refine PureA.enter (ac := c5) (rs := r5) Try.func5 rfl (by decide) c5_ok r5_ok ?_; intro Q hQ; simp only [go_sem, Int.reduceEq, Int.reduceAdd, Int.reduceSub, Int.reduceMul, Nat.reduceLT, Int.reduceLT, Int.reduceLE, Int.reduceToNat, Nat.reduceAdd, Nat.reduceSub, Nat.reduceMul, Nat.reduceLeDiff, reduceCtorEq, c5, Try.ntmps5])
  refine (tnew_spec 4 (by decide) (by decide) _).use ?_
  rintro _ H ⟨p, id, rfl, t⟩
  simp only [go_sem, Int.reduceEq, Int.reduceAdd, Int.reduceSub, Int.reduceMul, Nat.reduceLT, Int.reduceLT, Int.reduceLE, Int.reduceToNat, Nat.reduceAdd, Nat.reduceSub, Nat.reduceMul, Nat.reduceLeDiff, reduceCtorEq]
  refine (tlearn_spec t ⟨5, 2, 240, 9⟩).use ?_
  rintro _ H1 ⟨rfl, t1⟩
  simp only [go_sem, Int.reduceEq, Int.reduceAdd, Int.reduceSub, Int.reduceMul, Nat.reduceLT, Int.reduceLT, Int.reduceLE, Int.reduceToNat, Nat.reduceAdd, Nat.reduceSub, Nat.reduceMul, Nat.reduceLeDiff, reduceCtorEq, show learnE 4 [] ⟨5, 2, 240, 9⟩ = 0 from by decide]
  refine (tlearn_spec t1 ⟨5, 3, 240, 9⟩).use ?_
  rintro _ H2 ⟨rfl, t2⟩
  simp only [go_sem, Int.reduceEq, Int.reduceAdd, Int.reduceSub, Int.reduceMul, Nat.reduceLT, Int.reduceLT, Int.reduceLE, Int.reduceToNat, Nat.reduceAdd, Nat.reduceSub, Nat.reduceMul, Nat.reduceLeDiff, reduceCtorEq, show learnE 4 (learnF 4 [] ⟨5, 2, 240, 9⟩) ⟨5, 3, 240, 9⟩ = 9 from by decide]
  refine (tlearn_spec t2 ⟨5, 3, 241, 9⟩).use ?_
  rintro _ H3 ⟨rfl, t3⟩
  simp only [go_sem, Int.reduceEq, Int.reduceAdd, Int.reduceSub, Int.reduceMul, Nat.reduceLT, Int.reduceLT, Int.reduceLE, Int.reduceToNat, Nat.reduceAdd, Nat.reduceSub, Nat.reduceMul, Nat.reduceLeDiff, reduceCtorEq, show learnE 4 (learnF 4 (learnF 4 [] ⟨5, 2, 240, 9⟩) ⟨5, 3, 240, 9⟩) ⟨5, 3, 241, 9⟩ = 0 from by decide]
  refine (tlen_spec t3).use ?_
  simp only [go_sem, Int.reduceEq, Int.reduceAdd, Int.reduceSub, Int.reduceMul, Nat.reduceLT, Int.reduceLT, Int.reduceLE, Int.reduceToNat, Nat.reduceAdd, Nat.reduceSub, Nat.reduceMul, Nat.reduceLeDiff, reduceCtorEq, show (learnF 4 (learnF 4 (learnF 4 [] ⟨5, 2, 240, 9⟩) ⟨5, 3, 240, 9⟩) ⟨5, 3, 241, 9⟩).length = 1 from by decide]
  refine hQ _ _ _ _ _ (by first | exact .inr rfl | exact .inl rfl) rfl (FzH.sub t3.sub) (FzL.refl _ _ _) ?_
  simp only [go_sem, Int.reduceEq, Int.reduceAdd, Int.reduceSub, Int.reduceMul, Nat.reduceLT, Int.reduceLT, Int.reduceLE, Int.reduceToNat, Nat.reduceAdd, Nat.reduceSub, Nat.reduceMul, Nat.reduceLeDiff, reduceCtorEq]

theorem learnF_len {most : Int} {f : List (Int × Rt)} {r : Rt} (h : (f.length : Int) ≤ most) : ((learnF most f r).length : Int) ≤ most := by
  unfold learnF
  split
  · rename_i e
    rw [aset_len]
    cases e0 : alook f r.node with
    | some old => simpa using h
    | none =>
      unfold learnE at e
      rw [e0] at e
      simp only [Option.isSome_none, Bool.false_eq_true, if_false]
      split at e
      · simp only at e
        split at e
        · cases e
        · omega
      · cases e
  · exact h

end Go.Proofs.Ytaifdlegjhncaaa
