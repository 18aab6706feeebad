/-
  Package rank and zero: contracts.
-/
import Derived.Test.YtlbpmgkfekeaeaaC1
import Derived.Test.YtlbpmgkfekeaeaaE12
namespace Go.Proofs.Ytlbpmgkfekeaeaa
open Go E
set_option linter.unusedVariables false
set_option linter.unusedSimpArgs false
set_option maxRecDepth 100000

theorem w64 {n : Int} (h : -9223372036854775808 ≤ n ∧ n ≤ 9223372036854775807) : IntKind.i64.wrap n = n := IntWalk.i64_in _ h

def inRank (n : Int) : Bool := decide (0 ≤ n) && decide (n ≤ 65535)

set_option maxHeartbeats 400000 in
theorem valid_spec (ns : List Int) (id cap tot : Nat) (h : AHeap) (hid : h id = some (.cells (ns.map (.int .i64)) tot)) (hn : ns.length ≤ 1000000) :
    PureA Try.prog 85 [.sl id 0 ns.length cap] h (.bool (ns.all inRank)) := by
  refine CallsA.enter (ac := c85) (rs := r85) Try.func85 rfl (by decide) c85_ok r85_ok ?_
  simp only [go_sem, Nat.reduceAdd, Nat.reduceSub, Nat.reduceMul, Nat.reduceLeDiff, decide_true, decide_false, Bool.not_true, Bool.not_false, Bool.false_eq_true, if_true, if_false, true_and, and_true, and_self, reduceCtorEq, Bool.and_true, Bool.true_and, Bool.and_self, upd_upd, c85, Try.ntmps85]
  refine ⟨fun n s' h' => ∃ k : Nat, n = ns.length - k ∧ k ≤ ns.length ∧ (ns.take k).all inRank = true ∧ h' = h ∧
    s' = [.sl id 0 ns.length cap, .undef, .undef, .undef, .undef, .sl id 0 ns.length cap, .int .i64 ns.length, .int .i64 k, .undef, .undef, .undef, .undef, .undef, .undef, .undef, .undef, .undef, .undef], ns.length, d85_0, ?_, ?_⟩
  · refine ⟨0, by omega, by omega, by simp, rfl, ?_⟩
    simp only [go_sem, Nat.reduceAdd, Nat.reduceSub, Nat.reduceMul, Nat.reduceLeDiff, decide_true, decide_false, Bool.not_true, Bool.not_false, Bool.false_eq_true, if_true, if_false, true_and, and_true, and_self, reduceCtorEq, Bool.and_true, Bool.true_and, Bool.and_self, upd_upd, d85_0]
    rfl
  · rintro n s' h' ⟨k, rfl, hk, hall, rfl, rfl⟩
    by_cases hlt : k < ns.length
    · have h1 : (k : Int) < (ns.length : Int) := by omega
      have h2 : (0 : Int) ≤ k := by omega
      have hg : ns[k]? = some ns[k] := List.getElem?_eq_getElem hlt
      simp only [go_sem, Nat.reduceAdd, Nat.reduceSub, Nat.reduceMul, Nat.reduceLeDiff, decide_true, decide_false, Bool.not_true, Bool.not_false, Bool.false_eq_true, if_true, if_false, true_and, and_true, and_self, reduceCtorEq, Bool.and_true, Bool.true_and, Bool.and_self, upd_upd, h1, h2, hid, Int.toNat_natCast, Nat.mul_one, List.getElem?_map, hg, Option.map_some]
      have hadd : IntKind.i64.wrap ((k : Int) + 1) = ((k + 1 : Nat) : Int) := by rw [w64 (by omega)]; rfl
      have htake : (ns.take (k + 1)).all inRank = inRank ns[k] := by rw [List.take_succ_eq_append_getElem hlt, List.all_append, hall]; simp
      by_cases g1 : ns[k] < 0
      · simp only [go_sem, Nat.reduceAdd, Nat.reduceSub, Nat.reduceMul, Nat.reduceLeDiff, decide_true, decide_false, Bool.not_true, Bool.not_false, Bool.false_eq_true, if_true, if_false, true_and, and_true, and_self, reduceCtorEq, Bool.and_true, Bool.true_and, Bool.and_self, upd_upd, g1]
        refine ⟨.inr rfl, _, _, rfl, Sub.refl _, ?_, rfl⟩
        have : ns.all inRank = false := by
          rw [List.all_eq_false]; exact ⟨ns[k], List.getElem_mem _, by simp [inRank]; omega⟩
        rw [this]; rfl
      · by_cases g2 : 65535 < ns[k]
        · simp only [go_sem, Nat.reduceAdd, Nat.reduceSub, Nat.reduceMul, Nat.reduceLeDiff, decide_true, decide_false, Bool.not_true, Bool.not_false, Bool.false_eq_true, if_true, if_false, true_and, and_true, and_self, reduceCtorEq, Bool.and_true, Bool.true_and, Bool.and_self, upd_upd, g1, g2]
          refine ⟨.inr rfl, _, _, rfl, Sub.refl _, ?_, rfl⟩
          have : ns.all inRank = false := by
            rw [List.all_eq_false]; exact ⟨ns[k], List.getElem_mem _, by simp [inRank]; omega⟩
          rw [this]; rfl
        · simp only [go_sem, Nat.reduceAdd, Nat.reduceSub, Nat.reduceMul, Nat.reduceLeDiff, decide_true, decide_false, Bool.not_true, Bool.not_false, Bool.false_eq_true, if_true, if_false, true_and, and_true, and_self, reduceCtorEq, Bool.and_true, Bool.true_and, Bool.and_self, upd_upd, g1, g2, hadd]
          simp only [go_sem, Nat.reduceAdd, Nat.reduceSub, Nat.reduceMul, Nat.reduceLeDiff, decide_true, decide_false, Bool.not_true, Bool.not_false, Bool.false_eq_true, if_true, if_false, true_and, and_true, and_self, reduceCtorEq, Bool.and_true, Bool.true_and, Bool.and_self, upd_upd, d85_0]
          refine ⟨ns.length - (k + 1), by omega, k + 1, by trivial, by omega, ?_⟩
          rw [htake]; simp [inRank]; omega
    · have h1 : ¬ (k : Int) < (ns.length : Int) := by omega
      simp only [go_sem, Nat.reduceAdd, Nat.reduceSub, Nat.reduceMul, Nat.reduceLeDiff, decide_true, decide_false, Bool.not_true, Bool.not_false, Bool.false_eq_true, if_true, if_false, true_and, and_true, and_self, reduceCtorEq, Bool.and_true, Bool.true_and, Bool.and_self, upd_upd, h1]
      refine ⟨.inr rfl, _, _, rfl, Sub.refl _, ?_, rfl⟩
      rw [List.take_of_length_le (by omega)] at hall
      rw [hall]; rfl

set_option maxHeartbeats 400000 in
theorem valid1 (n : Int) (id cap tot : Nat) (h : AHeap) (hid : h id = some (.cells [.int .i64 n] tot)) : PureA Try.prog 85 [.sl id 0 1 cap] h (.bool (inRank n)) := by
  have := valid_spec [n] id cap tot h (by simpa using hid) (by simp)
  simpa using this

def isCost (n : Int) : Bool := decide (128 ≤ n) && decide (n ≤ 65535)

theorem cost_spec (n : Int) (h : AHeap) : PureA Try.prog 59 [.int .i64 n] h (.bool (isCost n)) := by
  refine CallsA.enter (ac := c59) (rs := r59) Try.func59 rfl (by decide) c59_ok r59_ok ?_
  simp only [go_sem, Nat.reduceAdd, Nat.reduceSub, Nat.reduceMul, Nat.reduceLeDiff, decide_true, decide_false, Bool.not_true, Bool.not_false, Bool.false_eq_true, if_true, if_false, true_and, and_true, and_self, reduceCtorEq, Bool.and_true, Bool.true_and, Bool.and_self, upd_upd, c59, Try.ntmps59]
  intro id hid
  refine (valid1 n id _ _ _ upd_same).use ?_
  cases g : inRank n
  · simp only [go_sem, Nat.reduceAdd, Nat.reduceSub, Nat.reduceMul, Nat.reduceLeDiff, decide_true, decide_false, Bool.not_true, Bool.not_false, Bool.false_eq_true, if_true, if_false, true_and, and_true, and_self, reduceCtorEq, Bool.and_true, Bool.true_and, Bool.and_self, upd_upd]
    refine ⟨.inr rfl, _, _, rfl, Sub.fresh (Sub.refl _) hid, ?_, rfl⟩
    simp only [go_sem, Nat.reduceAdd, Nat.reduceSub, Nat.reduceMul, Nat.reduceLeDiff, decide_true, decide_false, Bool.not_true, Bool.not_false, Bool.false_eq_true, if_true, if_false, true_and, and_true, and_self, reduceCtorEq, Bool.and_true, Bool.true_and, Bool.and_self, upd_upd, r59]
    simp [inRank] at g; simp [isCost]; omega
  · simp only [go_sem, Nat.reduceAdd, Nat.reduceSub, Nat.reduceMul, Nat.reduceLeDiff, decide_true, decide_false, Bool.not_true, Bool.not_false, Bool.false_eq_true, if_true, if_false, true_and, and_true, and_self, reduceCtorEq, Bool.and_true, Bool.true_and, Bool.and_self, upd_upd]
    refine ⟨.inr rfl, _, _, rfl, Sub.fresh (Sub.refl _) hid, ?_, rfl⟩
    simp only [go_sem, Nat.reduceAdd, Nat.reduceSub, Nat.reduceMul, Nat.reduceLeDiff, decide_true, decide_false, Bool.not_true, Bool.not_false, Bool.false_eq_true, if_true, if_false, true_and, and_true, and_self, reduceCtorEq, Bool.and_true, Bool.true_and, Bool.and_self, upd_upd, r59]
    simp [inRank] at g; simp [isCost]; omega

def isLeast (n : Int) : Bool := decide (1 ≤ n) && decide (n ≤ 65535)

theorem least_spec (n : Int) (h : AHeap) : PureA Try.prog 58 [.int .i64 n] h (.bool (isLeast n)) := by
  refine CallsA.enter (ac := c58) (rs := r58) Try.func58 rfl (by decide) c58_ok r58_ok ?_
  by_cases g : 0 < n
  · simp only [go_sem, Nat.reduceAdd, Nat.reduceSub, Nat.reduceMul, Nat.reduceLeDiff, decide_true, decide_false, Bool.not_true, Bool.not_false, Bool.false_eq_true, if_true, if_false, true_and, and_true, and_self, reduceCtorEq, Bool.and_true, Bool.true_and, Bool.and_self, upd_upd, c58, Try.ntmps58, g]
    intro id hid
    refine (valid1 n id _ _ _ upd_same).use ?_
    simp only [go_sem, Nat.reduceAdd, Nat.reduceSub, Nat.reduceMul, Nat.reduceLeDiff, decide_true, decide_false, Bool.not_true, Bool.not_false, Bool.false_eq_true, if_true, if_false, true_and, and_true, and_self, reduceCtorEq, Bool.and_true, Bool.true_and, Bool.and_self, upd_upd]
    refine ⟨.inr rfl, _, _, rfl, Sub.fresh (Sub.refl _) hid, ?_, rfl⟩
    simp only [go_sem, Nat.reduceAdd, Nat.reduceSub, Nat.reduceMul, Nat.reduceLeDiff, decide_true, decide_false, Bool.not_true, Bool.not_false, Bool.false_eq_true, if_true, if_false, true_and, and_true, and_self, reduceCtorEq, Bool.and_true, Bool.true_and, Bool.and_self, upd_upd, r58, isLeast, inRank]
    congr 2; exact decide_eq_decide.2 (by omega)
  · simp only [go_sem, Nat.reduceAdd, Nat.reduceSub, Nat.reduceMul, Nat.reduceLeDiff, decide_true, decide_false, Bool.not_true, Bool.not_false, Bool.false_eq_true, if_true, if_false, true_and, and_true, and_self, reduceCtorEq, Bool.and_true, Bool.true_and, Bool.and_self, upd_upd, c58, Try.ntmps58, g]
    refine ⟨.inr rfl, _, _, rfl, Sub.refl _, ?_, rfl⟩
    simp only [go_sem, Nat.reduceAdd, Nat.reduceSub, Nat.reduceMul, Nat.reduceLeDiff, decide_true, decide_false, Bool.not_true, Bool.not_false, Bool.false_eq_true, if_true, if_false, true_and, and_true, and_self, reduceCtorEq, Bool.and_true, Bool.true_and, Bool.and_self, upd_upd, r58, isLeast]
    rw [decide_eq_false (by omega)]; rfl

def stepN (n : Int) : Int := min (max (3 * n / 128 - 2) 1) 9

theorem step_spec (n : Int) (h : AHeap) : PureA Try.prog 15 [.int .i64 n] h (.tup [.int .i64 (if isCost n then stepN n else 0), .int .i64 (if isCost n then 0 else 1)]) := by
  refine CallsA.enter (ac := c15) (rs := r15) Try.func15 rfl (by decide) c15_ok r15_ok ?_
  simp only [go_sem, Nat.reduceAdd, Nat.reduceSub, Nat.reduceMul, Nat.reduceLeDiff, decide_true, decide_false, Bool.not_true, Bool.not_false, Bool.false_eq_true, if_true, if_false, true_and, and_true, and_self, reduceCtorEq, Bool.and_true, Bool.true_and, Bool.and_self, upd_upd, c15, Try.ntmps15]
  refine (cost_spec n h).use ?_
  cases g : isCost n
  · simp only [go_sem, Nat.reduceAdd, Nat.reduceSub, Nat.reduceMul, Nat.reduceLeDiff, decide_true, decide_false, Bool.not_true, Bool.not_false, Bool.false_eq_true, if_true, if_false, true_and, and_true, and_self, reduceCtorEq, Bool.and_true, Bool.true_and, Bool.and_self, upd_upd]
    exact ⟨.inr rfl, _, _, rfl, Sub.refl _, rfl, rfl⟩
  · have hb : 128 ≤ n ∧ n ≤ 65535 := by simp [isCost] at g; exact g
    have h1 : IntKind.i64.wrap (3 * n) = 3 * n := w64 (by omega)
    have h2 : IntKind.i64.wrap ((3 * n).tdiv 128) = 3 * n / 128 := IntWalk.i64_quo _ _ (by omega)
    have h3 : IntKind.i64.wrap (3 * n / 128 - 2) = 3 * n / 128 - 2 := w64 (by omega)
    simp only [go_sem, Nat.reduceAdd, Nat.reduceSub, Nat.reduceMul, Nat.reduceLeDiff, decide_true, decide_false, Bool.not_true, Bool.not_false, Bool.false_eq_true, if_true, if_false, true_and, and_true, and_self, reduceCtorEq, Bool.and_true, Bool.true_and, Bool.and_self, upd_upd, h1, h2, h3, show ((128 : Int) == 0) = false from rfl]
    refine ⟨.inr rfl, _, _, rfl, Sub.refl _, ?_, rfl⟩
    simp only [go_sem, Nat.reduceAdd, Nat.reduceSub, Nat.reduceMul, Nat.reduceLeDiff, decide_true, decide_false, Bool.not_true, Bool.not_false, Bool.false_eq_true, if_true, if_false, true_and, and_true, and_self, reduceCtorEq, Bool.and_true, Bool.true_and, Bool.and_self, upd_upd, r15, stepN]
    congr 3
    omega

def okFn (a b : Int) : Bool := decide (1 ≤ a ∧ a ≤ 4 ∧ 0 ≤ b ∧ b ≤ 5)

theorem zcheck_spec (a b : Int) (h : AHeap) : PureA Try.prog 18 [.agg [.int .i64 a, .int .i64 b]] h (.int .i64 (if okFn a b then 0 else 1)) := by
  refine CallsA.enter (ac := c18) (rs := r18) Try.func18 rfl (by decide) c18_ok r18_ok ?_
  simp only [go_sem, Nat.reduceAdd, Nat.reduceSub, Nat.reduceMul, Nat.reduceLeDiff, decide_true, decide_false, Bool.not_true, Bool.not_false, Bool.false_eq_true, if_true, if_false, true_and, and_true, and_self, reduceCtorEq, Bool.and_true, Bool.true_and, Bool.and_self, upd_upd, c18, Try.ntmps18]
  intro id hid
  by_cases g1 : a < 1
  · simp only [go_sem, Nat.reduceAdd, Nat.reduceSub, Nat.reduceMul, Nat.reduceLeDiff, decide_true, decide_false, Bool.not_true, Bool.not_false, Bool.false_eq_true, if_true, if_false, true_and, and_true, and_self, reduceCtorEq, Bool.and_true, Bool.true_and, Bool.and_self, upd_upd, g1]
    refine ⟨.inr rfl, _, _, rfl, Sub.fresh (Sub.refl _) hid, ?_, rfl⟩
    have e : okFn a b = false := decide_eq_false (by omega)
    simp only [go_sem, Nat.reduceAdd, Nat.reduceSub, Nat.reduceMul, Nat.reduceLeDiff, decide_true, decide_false, Bool.not_true, Bool.not_false, Bool.false_eq_true, if_true, if_false, true_and, and_true, and_self, reduceCtorEq, Bool.and_true, Bool.true_and, Bool.and_self, upd_upd, r18, e]
  by_cases g2 : 4 < a
  · simp only [go_sem, Nat.reduceAdd, Nat.reduceSub, Nat.reduceMul, Nat.reduceLeDiff, decide_true, decide_false, Bool.not_true, Bool.not_false, Bool.false_eq_true, if_true, if_false, true_and, and_true, and_self, reduceCtorEq, Bool.and_true, Bool.true_and, Bool.and_self, upd_upd, g1, g2]
    refine ⟨.inr rfl, _, _, rfl, Sub.fresh (Sub.refl _) hid, ?_, rfl⟩
    have e : okFn a b = false := decide_eq_false (by omega)
    simp only [go_sem, Nat.reduceAdd, Nat.reduceSub, Nat.reduceMul, Nat.reduceLeDiff, decide_true, decide_false, Bool.not_true, Bool.not_false, Bool.false_eq_true, if_true, if_false, true_and, and_true, and_self, reduceCtorEq, Bool.and_true, Bool.true_and, Bool.and_self, upd_upd, r18, e]
  by_cases g3 : b < 0
  · simp only [go_sem, Nat.reduceAdd, Nat.reduceSub, Nat.reduceMul, Nat.reduceLeDiff, decide_true, decide_false, Bool.not_true, Bool.not_false, Bool.false_eq_true, if_true, if_false, true_and, and_true, and_self, reduceCtorEq, Bool.and_true, Bool.true_and, Bool.and_self, upd_upd, g1, g2, g3]
    refine ⟨.inr rfl, _, _, rfl, Sub.fresh (Sub.refl _) hid, ?_, rfl⟩
    have e : okFn a b = false := decide_eq_false (by omega)
    simp only [go_sem, Nat.reduceAdd, Nat.reduceSub, Nat.reduceMul, Nat.reduceLeDiff, decide_true, decide_false, Bool.not_true, Bool.not_false, Bool.false_eq_true, if_true, if_false, true_and, and_true, and_self, reduceCtorEq, Bool.and_true, Bool.true_and, Bool.and_self, upd_upd, r18, e]
  by_cases g4 : 5 < b
  · simp only [go_sem, Nat.reduceAdd, Nat.reduceSub, Nat.reduceMul, Nat.reduceLeDiff, decide_true, decide_false, Bool.not_true, Bool.not_false, Bool.false_eq_true, if_true, if_false, true_and, and_true, and_self, reduceCtorEq, Bool.and_true, Bool.true_and, Bool.and_self, upd_upd, g1, g2, g3, g4]
    refine ⟨.inr rfl, _, _, rfl, Sub.fresh (Sub.refl _) hid, ?_, rfl⟩
    have e : okFn a b = false := decide_eq_false (by omega)
    simp only [go_sem, Nat.reduceAdd, Nat.reduceSub, Nat.reduceMul, Nat.reduceLeDiff, decide_true, decide_false, Bool.not_true, Bool.not_false, Bool.false_eq_true, if_true, if_false, true_and, and_true, and_self, reduceCtorEq, Bool.and_true, Bool.true_and, Bool.and_self, upd_upd, r18, e]
  · simp only [go_sem, Nat.reduceAdd, Nat.reduceSub, Nat.reduceMul, Nat.reduceLeDiff, decide_true, decide_false, Bool.not_true, Bool.not_false, Bool.false_eq_true, if_true, if_false, true_and, and_true, and_self, reduceCtorEq, Bool.and_true, Bool.true_and, Bool.and_self, upd_upd, g1, g2, g3, g4]
    refine ⟨.inr rfl, _, _, rfl, Sub.fresh (Sub.refl _) hid, ?_, rfl⟩
    have e : okFn a b = true := decide_eq_true (by omega)
    simp only [go_sem, Nat.reduceAdd, Nat.reduceSub, Nat.reduceMul, Nat.reduceLeDiff, decide_true, decide_false, Bool.not_true, Bool.not_false, Bool.false_eq_true, if_true, if_false, true_and, and_true, and_self, reduceCtorEq, Bool.and_true, Bool.true_and, Bool.and_self, upd_upd, r18, e]

def okInc (a b n by_ : Int) : Bool := okFn a b && isCost n && isLeast by_
def incN (a b n by_ : Int) : Int := min ((a * stepN n + b) * by_) 65535

theorem stepN_bd (n : Int) : 1 ≤ stepN n ∧ stepN n ≤ 9 := by unfold stepN; omega

theorem inc_bd {a b n by_ : Int} (ho : okInc a b n by_ = true) : (1 ≤ a ∧ a ≤ 4 ∧ 0 ≤ b ∧ b ≤ 5) ∧ (1 ≤ by_ ∧ by_ ≤ 65535) ∧ (1 ≤ a * stepN n ∧ a * stepN n ≤ 36) ∧ (1 ≤ (a * stepN n + b) * by_ ∧ (a * stepN n + b) * by_ ≤ 2686935) := by
  simp only [okInc, okFn, isLeast, Bool.and_eq_true, decide_eq_true_eq] at ho
  obtain ⟨⟨h1, _⟩, h2⟩ := ho
  have h3 := stepN_bd n
  have e1 : 1 * 1 ≤ a * stepN n := Int.mul_le_mul (by omega) (by omega) (by omega) (by omega)
  have e2 : a * stepN n ≤ 4 * 9 := Int.mul_le_mul (by omega) (by omega) (by omega) (by omega)
  have e3 : 1 * 1 ≤ (a * stepN n + b) * by_ := Int.mul_le_mul (by omega) (by omega) (by omega) (by omega)
  have e4 : (a * stepN n + b) * by_ ≤ 41 * 65535 := Int.mul_le_mul (by omega) (by omega) (by omega) (by omega)
  omega

theorem increase_spec (a b n by_ : Int) (h : AHeap) : PureA Try.prog 13 [.agg [.int .i64 a, .int .i64 b], .int .i64 n, .int .i64 by_] h
    (.tup [.int .i64 (if okInc a b n by_ then incN a b n by_ else 0), .int .i64 (if okInc a b n by_ then 0 else 1)]) := by
  refine CallsA.enter (ac := c13) (rs := r13) Try.func13 rfl (by decide) c13_ok r13_ok ?_
  simp only [go_sem, Nat.reduceAdd, Nat.reduceSub, Nat.reduceMul, Nat.reduceLeDiff, decide_true, decide_false, Bool.not_true, Bool.not_false, Bool.false_eq_true, if_true, if_false, true_and, and_true, and_self, reduceCtorEq, Bool.and_true, Bool.true_and, Bool.and_self, upd_upd, c13, Try.ntmps13]
  intro id hid
  refine (zcheck_spec a b _).use ?_
  cases g1 : okFn a b
  · simp only [go_sem, Nat.reduceAdd, Nat.reduceSub, Nat.reduceMul, Nat.reduceLeDiff, decide_true, decide_false, Bool.not_true, Bool.not_false, Bool.false_eq_true, if_true, if_false, true_and, and_true, and_self, reduceCtorEq, Bool.and_true, Bool.true_and, Bool.and_self, upd_upd, show decide ((1 : Int) = 0) = false from rfl]
    refine ⟨.inr rfl, _, _, rfl, Sub.fresh (Sub.refl _) hid, ?_, rfl⟩
    simp only [go_sem, Nat.reduceAdd, Nat.reduceSub, Nat.reduceMul, Nat.reduceLeDiff, decide_true, decide_false, Bool.not_true, Bool.not_false, Bool.false_eq_true, if_true, if_false, true_and, and_true, and_self, reduceCtorEq, Bool.and_true, Bool.true_and, Bool.and_self, upd_upd, r13, okInc, g1, Bool.false_and]
  simp only [go_sem, Nat.reduceAdd, Nat.reduceSub, Nat.reduceMul, Nat.reduceLeDiff, decide_true, decide_false, Bool.not_true, Bool.not_false, Bool.false_eq_true, if_true, if_false, true_and, and_true, and_self, reduceCtorEq, Bool.and_true, Bool.true_and, Bool.and_self, upd_upd]
  refine (step_spec n _).use ?_
  cases g2 : isCost n
  · simp only [go_sem, Nat.reduceAdd, Nat.reduceSub, Nat.reduceMul, Nat.reduceLeDiff, decide_true, decide_false, Bool.not_true, Bool.not_false, Bool.false_eq_true, if_true, if_false, true_and, and_true, and_self, reduceCtorEq, Bool.and_true, Bool.true_and, Bool.and_self, upd_upd, show decide ((1 : Int) = 0) = false from rfl]
    refine ⟨.inr rfl, _, _, rfl, Sub.fresh (Sub.refl _) hid, ?_, rfl⟩
    simp only [go_sem, Nat.reduceAdd, Nat.reduceSub, Nat.reduceMul, Nat.reduceLeDiff, decide_true, decide_false, Bool.not_true, Bool.not_false, Bool.false_eq_true, if_true, if_false, true_and, and_true, and_self, reduceCtorEq, Bool.and_true, Bool.true_and, Bool.and_self, upd_upd, r13, okInc, g2, Bool.and_false, Bool.false_and]
  simp only [go_sem, Nat.reduceAdd, Nat.reduceSub, Nat.reduceMul, Nat.reduceLeDiff, decide_true, decide_false, Bool.not_true, Bool.not_false, Bool.false_eq_true, if_true, if_false, true_and, and_true, and_self, reduceCtorEq, Bool.and_true, Bool.true_and, Bool.and_self, upd_upd]
  refine (least_spec by_ _).use ?_
  cases g3 : isLeast by_
  · simp only [go_sem, Nat.reduceAdd, Nat.reduceSub, Nat.reduceMul, Nat.reduceLeDiff, decide_true, decide_false, Bool.not_true, Bool.not_false, Bool.false_eq_true, if_true, if_false, true_and, and_true, and_self, reduceCtorEq, Bool.and_true, Bool.true_and, Bool.and_self, upd_upd]
    refine ⟨.inr rfl, _, _, rfl, Sub.fresh (Sub.refl _) hid, ?_, rfl⟩
    simp only [go_sem, Nat.reduceAdd, Nat.reduceSub, Nat.reduceMul, Nat.reduceLeDiff, decide_true, decide_false, Bool.not_true, Bool.not_false, Bool.false_eq_true, if_true, if_false, true_and, and_true, and_self, reduceCtorEq, Bool.and_true, Bool.true_and, Bool.and_self, upd_upd, r13, okInc, g3, Bool.and_false]
  have ho : okInc a b n by_ = true := by simp only [okInc, g1, g2, g3, Bool.and_self]
  obtain ⟨b1, b2, b3, b4⟩ := inc_bd ho
  have h1 : IntKind.i64.wrap (a * stepN n) = a * stepN n := w64 (by omega)
  have h2 : IntKind.i64.wrap (a * stepN n + b) = a * stepN n + b := w64 (by omega)
  have h3 : IntKind.i64.wrap ((a * stepN n + b) * by_) = (a * stepN n + b) * by_ := w64 (by omega)
  simp only [go_sem, Nat.reduceAdd, Nat.reduceSub, Nat.reduceMul, Nat.reduceLeDiff, decide_true, decide_false, Bool.not_true, Bool.not_false, Bool.false_eq_true, if_true, if_false, true_and, and_true, and_self, reduceCtorEq, Bool.and_true, Bool.true_and, Bool.and_self, upd_upd, h1, h2, h3]
  refine ⟨.inr rfl, _, _, rfl, Sub.fresh (Sub.refl _) hid, ?_, rfl⟩
  simp only [go_sem, Nat.reduceAdd, Nat.reduceSub, Nat.reduceMul, Nat.reduceLeDiff, decide_true, decide_false, Bool.not_true, Bool.not_false, Bool.false_eq_true, if_true, if_false, true_and, and_true, and_self, reduceCtorEq, Bool.and_true, Bool.true_and, Bool.and_self, upd_upd, r13, ho, incN]
  congr 3
  omega

theorem known15_spec (h : AHeap) : PureA Try.prog 14 [] h (.bool true) := by
  refine CallsA.enter (ac := c14) (rs := r14) Try.func14 rfl (by decide) c14_ok r14_ok ?_
  simp only [go_sem, Nat.reduceAdd, Nat.reduceSub, Nat.reduceMul, Nat.reduceLeDiff, decide_true, decide_false, Bool.not_true, Bool.not_false, Bool.false_eq_true, if_true, if_false, true_and, and_true, and_self, reduceCtorEq, Bool.and_true, Bool.true_and, Bool.and_self, upd_upd, c14, Try.ntmps14]
  intro id hid
  refine (increase_spec 1 0 128 256 _).use ?_
  simp only [go_sem, Nat.reduceAdd, Nat.reduceSub, Nat.reduceMul, Nat.reduceLeDiff, decide_true, decide_false, Bool.not_true, Bool.not_false, Bool.false_eq_true, if_true, if_false, true_and, and_true, and_self, reduceCtorEq, Bool.and_true, Bool.true_and, Bool.and_self, upd_upd, show okInc 1 0 128 256 = true from by decide, show incN 1 0 128 256 = 256 from by decide]
  refine (step_spec 256 _).use ?_
  simp only [go_sem, Nat.reduceAdd, Nat.reduceSub, Nat.reduceMul, Nat.reduceLeDiff, decide_true, decide_false, Bool.not_true, Bool.not_false, Bool.false_eq_true, if_true, if_false, true_and, and_true, and_self, reduceCtorEq, Bool.and_true, Bool.true_and, Bool.and_self, upd_upd, show isCost 256 = true from by decide, show stepN 256 = 4 from by decide]
  refine (increase_spec 1 0 256 256 _).use ?_
  simp only [go_sem, Nat.reduceAdd, Nat.reduceSub, Nat.reduceMul, Nat.reduceLeDiff, decide_true, decide_false, Bool.not_true, Bool.not_false, Bool.false_eq_true, if_true, if_false, true_and, and_true, and_self, reduceCtorEq, Bool.and_true, Bool.true_and, Bool.and_self, upd_upd, show okInc 1 0 256 256 = true from by decide, show incN 1 0 256 256 = 1024 from by decide]
  exact ⟨.inr rfl, _, _, rfl, Sub.fresh (Sub.refl _) hid, rfl, rfl⟩

theorem okInc_up {a b n by_ : Int} (h : okInc a b n by_ = true) : okInc (min (a + 1) 4) (min (b + 1) 5) n by_ = true := by
  simp only [okInc, okFn, Bool.and_eq_true, decide_eq_true_eq] at h ⊢
  obtain ⟨⟨h1, h2⟩, h3⟩ := h
  exact ⟨⟨by omega, h2⟩, h3⟩

theorem step_mono {m n : Int} (h : m ≤ n) : stepN m ≤ stepN n := by unfold stepN; omega

theorem inc_mono {a b m n by_ : Int} (h : m ≤ n) (h1 : okInc a b m by_ = true) (h2 : okInc a b n by_ = true) : incN a b m by_ ≤ incN a b n by_ := by
  obtain ⟨c1, c2, c3, c4⟩ := inc_bd h1
  obtain ⟨d1, d2, d3, d4⟩ := inc_bd h2
  have e1 : a * stepN m ≤ a * stepN n := Int.mul_le_mul_of_nonneg_left (step_mono h) (by omega)
  have e2 : (a * stepN m + b) * by_ ≤ (a * stepN n + b) * by_ := Int.mul_le_mul_of_nonneg_right (by omega) (by omega)
  unfold incN; omega

theorem inc_up {a b n by_ : Int} (h : okInc a b n by_ = true) : incN a b n by_ ≤ incN (min (a + 1) 4) (min (b + 1) 5) n by_ := by
  obtain ⟨c1, c2, c3, c4⟩ := inc_bd h
  have h3 := stepN_bd n
  have e1 : a * stepN n ≤ (min (a + 1) 4) * stepN n := Int.mul_le_mul_of_nonneg_right (by omega) (by omega)
  have e2 : (a * stepN n + b) * by_ ≤ ((min (a + 1) 4) * stepN n + (min (b + 1) 5)) * by_ := Int.mul_le_mul_of_nonneg_right (by omega) (by omega)
  unfold incN; omega

theorem inc_least {a b n by_ : Int} (h : okInc a b n by_ = true) : min by_ 65535 ≤ incN a b n by_ := by
  obtain ⟨c1, c2, c3, c4⟩ := inc_bd h
  have e2 : 1 * by_ ≤ (a * stepN n + b) * by_ := Int.mul_le_mul_of_nonneg_right (by omega) (by omega)
  unfold incN; omega

theorem inc_le {a b n by_ : Int} : incN a b n by_ ≤ 65535 := by unfold incN; omega

theorem if_min (x y : Int) : (if y < x then y else x) = min x y := by omega
theorem if_max (x y : Int) : (if x < y then y else x) = max x y := by omega

theorem rises_spec (a b x y by_ : Int) (h : AHeap) (ha : -9223372036854775808 ≤ a ∧ a ≤ 9223372036854775807) (hb : -9223372036854775808 ≤ b ∧ b ≤ 9223372036854775807) :
    PureA Try.prog 3 [.agg [.int .i64 a, .int .i64 b], .int .i64 x, .int .i64 y, .int .i64 by_] h (.bool true) := by
  refine CallsA.enter (ac := c3) (rs := r3) Try.func3 rfl (by decide) c3_ok r3_ok ?_
  simp only [go_sem, Nat.reduceAdd, Nat.reduceSub, Nat.reduceMul, Nat.reduceLeDiff, decide_true, decide_false, Bool.not_true, Bool.not_false, Bool.false_eq_true, if_true, if_false, true_and, and_true, and_self, reduceCtorEq, Bool.and_true, Bool.true_and, Bool.and_self, upd_upd, c3, Try.ntmps3]
  intro id hid i2 hi2
  have hne : id ≠ i2 := by rintro rfl; rw [upd_same] at hi2; cases hi2
  have hsub : Sub h (upd (upd h id (.cells [.int .i64 a, .int .i64 b] 2)) i2 (.cells [.int .i64 a, .int .i64 b] 2)) := Sub.fresh (Sub.fresh (Sub.refl _) hid) hi2
  refine (increase_spec a b _ by_ _).use ?_
  simp only [go_sem, Nat.reduceAdd, Nat.reduceSub, Nat.reduceMul, Nat.reduceLeDiff, decide_true, decide_false, Bool.not_true, Bool.not_false, Bool.false_eq_true, if_true, if_false, true_and, and_true, and_self, reduceCtorEq, Bool.and_true, Bool.true_and, Bool.and_self, upd_upd, if_min, if_max]
  refine (increase_spec a b _ by_ _).use ?_
  simp only [go_sem, Nat.reduceAdd, Nat.reduceSub, Nat.reduceMul, Nat.reduceLeDiff, decide_true, decide_false, Bool.not_true, Bool.not_false, Bool.false_eq_true, if_true, if_false, true_and, and_true, and_self, reduceCtorEq, Bool.and_true, Bool.true_and, Bool.and_self, upd_upd, if_min, if_max]
  have kn := fun h => known15_spec h
  cases g1 : okInc a b (min x y) by_
  · simp only [go_sem, Nat.reduceAdd, Nat.reduceSub, Nat.reduceMul, Nat.reduceLeDiff, decide_true, decide_false, Bool.not_true, Bool.not_false, Bool.false_eq_true, if_true, if_false, true_and, and_true, and_self, reduceCtorEq, Bool.and_true, Bool.true_and, Bool.and_self, upd_upd, show decide ((1 : Int) = 0) = false from rfl]
    refine (kn _).use ?_
    simp only [go_sem, Nat.reduceAdd, Nat.reduceSub, Nat.reduceMul, Nat.reduceLeDiff, decide_true, decide_false, Bool.not_true, Bool.not_false, Bool.false_eq_true, if_true, if_false, true_and, and_true, and_self, reduceCtorEq, Bool.and_true, Bool.true_and, Bool.and_self, upd_upd]
    exact ⟨.inr rfl, _, _, rfl, hsub, rfl, rfl⟩
  cases g2 : okInc a b (max x y) by_
  · simp only [go_sem, Nat.reduceAdd, Nat.reduceSub, Nat.reduceMul, Nat.reduceLeDiff, decide_true, decide_false, Bool.not_true, Bool.not_false, Bool.false_eq_true, if_true, if_false, true_and, and_true, and_self, reduceCtorEq, Bool.and_true, Bool.true_and, Bool.and_self, upd_upd, show decide ((1 : Int) = 0) = false from rfl]
    refine (kn _).use ?_
    simp only [go_sem, Nat.reduceAdd, Nat.reduceSub, Nat.reduceMul, Nat.reduceLeDiff, decide_true, decide_false, Bool.not_true, Bool.not_false, Bool.false_eq_true, if_true, if_false, true_and, and_true, and_self, reduceCtorEq, Bool.and_true, Bool.true_and, Bool.and_self, upd_upd]
    exact ⟨.inr rfl, _, _, rfl, hsub, rfl, rfl⟩
  obtain ⟨c1, c2, c3, c4⟩ := inc_bd g1
  have w1 : IntKind.i64.wrap (a + 1) = a + 1 := w64 (by omega)
  have w2 : IntKind.i64.wrap (b + 1) = b + 1 := w64 (by omega)
  simp only [go_sem, Nat.reduceAdd, Nat.reduceSub, Nat.reduceMul, Nat.reduceLeDiff, decide_true, decide_false, Bool.not_true, Bool.not_false, Bool.false_eq_true, if_true, if_false, true_and, and_true, and_self, reduceCtorEq, Bool.and_true, Bool.true_and, Bool.and_self, upd_upd, upd_ne hne, w1, w2, if_min, if_max]
  intro i3 hi3
  refine (increase_spec _ _ _ by_ _).use ?_
  simp only [go_sem, Nat.reduceAdd, Nat.reduceSub, Nat.reduceMul, Nat.reduceLeDiff, decide_true, decide_false, Bool.not_true, Bool.not_false, Bool.false_eq_true, if_true, if_false, true_and, and_true, and_self, reduceCtorEq, Bool.and_true, Bool.true_and, Bool.and_self, upd_upd, okInc_up g1, if_min]
  refine (kn _).use ?_
  simp only [go_sem, Nat.reduceAdd, Nat.reduceSub, Nat.reduceMul, Nat.reduceLeDiff, decide_true, decide_false, Bool.not_true, Bool.not_false, Bool.false_eq_true, if_true, if_false, true_and, and_true, and_self, reduceCtorEq, Bool.and_true, Bool.true_and, Bool.and_self, upd_upd, okInc_up g1, inc_mono (show min x y ≤ max x y by omega) g1 g2, inc_up g1, if_min, inc_least g1]
  exact ⟨.inr rfl, _, _, rfl, Sub.fresh hsub hi3, rfl, rfl⟩

theorem wf64 {n : Int} (h : (Lit.int .i64 n).wf = true) : -9223372036854775808 ≤ n ∧ n ≤ 9223372036854775807 := bounds_i64 h

theorem rises_law (xs : List AV) (h : ArgsSh Try.prog 6 Try.f3.params.toList xs) : PureA Try.prog 3 xs emp (.bool true) := by
  rw [Try.params3] at h
  simp only [ArgsSh, ArgSh, Try.underlying23, Try.underlying3, ShC, ShFs] at h
  obtain ⟨x, _, rfl, ⟨_, rfl, _, _, rfl, _, ⟨a, rfl, ha⟩, _, _, rfl, _, ⟨b, rfl, hb⟩, rfl⟩, y, _, rfl, ⟨m, hm, hmw⟩, z, _, rfl, ⟨n, hn, hnw⟩, u, _, rfl, ⟨l, hl, hlw⟩, rfl⟩ := h
  cases hm; cases hn; cases hl
  exact rises_spec a b m n l emp (wf64 ha) (wf64 hb)

end Go.Proofs.Ytlbpmgkfekeaeaa
