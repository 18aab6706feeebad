/-
  ideal.by.
-/
import Derived.Test.YtaeppifdbcoipaaZe
import Derived.Test.YtaeppifdbcoipaaIc
import Derived.Test.YtaeppifdbcoipaaIf
namespace Go.Proofs.Ytaeppifdbcoipaa
open Go E
set_option linter.unusedVariables false
set_option linter.unusedSimpArgs false
set_option maxRecDepth 100000

/-- By a neighbour of rank r over links f: 65535 where there is none. -/
def byS (zf zs least : Int) (f : Lk) (a : Nat) (r : Int) (b : Nat) : Int :=
  match E.alook f (ofP a b) with
  | some c => min (r + incN zf zs c least) 65535
  | none => 65535

theorem incN_pos {zf zs c least : Int} (h1 : okFn zf zs = true) (h2 : isLeast least = true) : 1 ≤ incN zf zs c least := by
  have h3 := stepN_bd c
  unfold incN
  simp only [okFn, isLeast, decide_eq_true_eq, Bool.and_eq_true] at h1 h2
  have h5 : 1 * 1 ≤ zf * stepN c := Int.mul_le_mul (by omega) h3.1 (by omega) (by omega)
  have h6 : 1 * 1 ≤ (zf * stepN c + zs) * least := Int.mul_le_mul (by omega) (by omega) (by omega) (by omega)
  omega

theorem byS_ok {N : Nat} {zf zs least : Int} {f : Lk} (h : ∀ c, 1 ≤ incN zf zs c least) : Step2 N (byS zf zs least f) := by
  refine ⟨⟨fun a r b => ?_, fun a r s b hrs => ?_⟩, fun a b => ?_, fun a r b hr => ?_⟩
  · unfold byS; split <;> omega
  · unfold byS; split <;> omega
  · unfold byS; split
    · rename_i c _; have := h c; omega
    · rfl
  · unfold byS at hr ⊢; split at hr
    · rename_i c e; have := h c; omega
    · exact absurd rfl hr

theorem iby_spec {x id : Nat} {n : Int} {f : Lk} {H : AHeap} (k : LIn x id n f H) (hp : ∀ p c, alook f p = some c → 128 ≤ c ∧ c < 65535) {code least inc zf zs a5 a6 a7 a8 : Int} (h1 : okFn zf zs = true) (h2 : isLeast least = true)
    {a b : Nat} (ha : (a : Int) < n) (hb : (b : Int) < n) (r : Int) (hr : 0 ≤ r ∧ r ≤ 65535) (hone : ∀ c, 128 ≤ c → c < 65535 → oneB ⟨a, r, c⟩ = true) :
    PureA Try.prog 79 [.ptr x 0, .agg [.int .i64 code, .int .i64 least, .int .i64 inc, .int .i64 zf, .int .i64 zs, .int .i64 a5, .int .i64 a6, .int .i64 a7, .int .i64 a8], .int .i64 (a : Int), .int .i64 r, .int .i64 (b : Int)] H (.int .i64 (byS zf zs least f a r b)) := by
  have g1 : inN n (a : Int) = true := decide_eq_true (by omega)
  have g2 : inN n (b : Int) = true := decide_eq_true (by omega)
  (refine PureA.enter (ac := c79) (rs := r79) Try.func79 rfl (by decide) c79_ok r79_ok ?_; intro Q hQ; simp only [go_sem, Int.reduceEq, Int.reduceAdd, Int.reduceSub, Int.reduceMul, Nat.reduceLT, Int.reduceLT, Int.reduceLE, Int.reduceToNat, Nat.reduceAdd, Nat.reduceSub, Nat.reduceMul, Nat.reduceLeDiff, reduceCtorEq, c79, Try.ntmps79])
  refine (kCost_spec k (a : Int) (b : Int)).use ?_
  cases g : alook f (ofP (a : Int) (b : Int)) with
  | none =>
    have e : costE n f (a : Int) (b : Int) = (0, 8) := by unfold costE; rw [g1, g2, g]; rfl
    have e2 : byS zf zs least f a r b = 65535 := by unfold byS; rw [g]
    simp only [go_sem, Int.reduceEq, Int.reduceAdd, Int.reduceSub, Int.reduceMul, Nat.reduceLT, Int.reduceLT, Int.reduceLE, Int.reduceToNat, Nat.reduceAdd, Nat.reduceSub, Nat.reduceMul, Nat.reduceLeDiff, reduceCtorEq, e, show decide ((8 : Int) = 0) = false from rfl]
    (refine hQ _ _ _ _ _ (by first | exact .inr rfl | exact .inl rfl) rfl (by first | exact FzH.refl _ | exact FzH.sub (by (repeat' (first | exact Sub.refl _ | assumption | (refine Sub.upd ?_ (by first | assumption | (simp only [*]; done) | exact Sub.isNone (by assumption) (by assumption) | exact Sub.isNone (by assumption) (by simp only [*]))))))) (FzL.refl _ _ _) ?_; try (simp only [go_sem, Int.reduceEq, Int.reduceAdd, Int.reduceSub, Int.reduceMul, Nat.reduceLT, Int.reduceLT, Int.reduceLE, Int.reduceToNat, Nat.reduceAdd, Nat.reduceSub, Nat.reduceMul, Nat.reduceLeDiff, reduceCtorEq, e2]))
  | some c =>
    obtain ⟨c1, c2⟩ := hp _ _ g
    have e : costE n f (a : Int) (b : Int) = (c, 0) := by unfold costE; rw [g1, g2, g]; rfl
    have e2 : byS zf zs least f a r b = min (r + incN zf zs c least) 65535 := by unfold byS; rw [g]
    have ok : okRank zf zs least ⟨(a : Int), r, c⟩ = true := by
      have hcst : isCost c = true := by unfold isCost; rw [decide_eq_true c1, decide_eq_true (by omega)]; rfl
      unfold okRank okInc
      rw [h1, h2, hcst, hone c c1 c2]; rfl
    have e3 : rankN zf zs least ⟨(a : Int), r, c⟩ = min (r + incN zf zs c least) 65535 := by unfold rankN; rw [if_neg (by simp only; omega)]
    have hz := zrank_spec zf zs least ⟨(a : Int), r, c⟩ H
    rw [if_pos ok, if_pos ok, e3] at hz
    simp only [go_sem, Int.reduceEq, Int.reduceAdd, Int.reduceSub, Int.reduceMul, Nat.reduceLT, Int.reduceLT, Int.reduceLE, Int.reduceToNat, Nat.reduceAdd, Nat.reduceSub, Nat.reduceMul, Nat.reduceLeDiff, reduceCtorEq, e]
    refine (show PureA Try.prog 50 [.agg [.int .i64 zf, .int .i64 zs], .agg [.int .i64 (a : Int), .int .i64 r, .int .i64 c], .int .i64 least] H _ from hz).use ?_
    simp only [go_sem, Int.reduceEq, Int.reduceAdd, Int.reduceSub, Int.reduceMul, Nat.reduceLT, Int.reduceLT, Int.reduceLE, Int.reduceToNat, Nat.reduceAdd, Nat.reduceSub, Nat.reduceMul, Nat.reduceLeDiff, reduceCtorEq]
    (refine hQ _ _ _ _ _ (by first | exact .inr rfl | exact .inl rfl) rfl (by first | exact FzH.refl _ | exact FzH.sub (by (repeat' (first | exact Sub.refl _ | assumption | (refine Sub.upd ?_ (by first | assumption | (simp only [*]; done) | exact Sub.isNone (by assumption) (by assumption) | exact Sub.isNone (by assumption) (by simp only [*]))))))) (FzL.refl _ _ _) ?_; try (simp only [go_sem, Int.reduceEq, Int.reduceAdd, Int.reduceSub, Int.reduceMul, Nat.reduceLT, Int.reduceLT, Int.reduceLE, Int.reduceToNat, Nat.reduceAdd, Nat.reduceSub, Nat.reduceMul, Nat.reduceLeDiff, reduceCtorEq, e2]))

end Go.Proofs.Ytaeppifdbcoipaa
