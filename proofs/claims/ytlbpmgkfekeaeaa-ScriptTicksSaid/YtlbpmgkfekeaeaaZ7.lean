/-
  ScriptTicks.
-/
import Derived.Test.YtlbpmgkfekeaeaaZ6
import Derived.Test.YtlbpmgkfekeaeaaE12
namespace Go.Proofs.Ytlbpmgkfekeaeaa
open Go E
set_option linter.unusedVariables false
set_option linter.unusedSimpArgs false
set_option maxRecDepth 100000

def ex28 : List Int := [0, 10, 128, 3, 128, 0, 0, 0, 0, 0, 128, 0]

set_option maxHeartbeats 1000000 in
theorem known28_spec (h : AHeap) : PureA Try.prog 28 [] h (.bool true) := by
  (refine PureA.enter (ac := c28) (rs := r28) Try.func28 rfl (by decide) c28_ok r28_ok ?_; intro Q hQ; simp only [go_sem, Nat.reduceAdd, Nat.reduceSub, Nat.reduceMul, Nat.reduceLeDiff, decide_true, decide_false, Bool.not_true, Bool.not_false, Bool.false_eq_true, if_true, if_false, true_and, and_true, and_self, reduceCtorEq, Bool.and_true, Bool.true_and, Bool.and_self, upd_upd, c28, Try.ntmps28])
  intro id hid
  have s1 : Sub h (upd h id (.cells [.int .i64 0, .int .i64 3, .int .i64 0, .int .i64 0, .int .i64 0, .nils] 6)) := Sub.fresh (Sub.refl _) hid
  refine (encode_spec (.sl id 0 1 1) [⟨⟨0, 3, 0, 0, 0⟩, .nils, []⟩] _ (Sl.lit1 upd_same rfl (Nat.le_refl _)) (by simp; exact Sl.nil) (by simp)).mono ?_
  intro r h1 hr
  rw [if_pos (by decide)] at hr
  obtain ⟨v', rfl, ow⟩ := hr
  have e : ([⟨⟨0, 3, 0, 0, 0⟩, .nils, []⟩] : List Sx).flatMap Sx.line = ex28 := by decide
  rw [e] at ow
  simp only [go_sem, Nat.reduceAdd, Nat.reduceSub, Nat.reduceMul, Nat.reduceLeDiff, decide_true, decide_false, Bool.not_true, Bool.not_false, Bool.false_eq_true, if_true, if_false, true_and, and_true, and_self, reduceCtorEq, Bool.and_true, Bool.true_and, Bool.and_self, upd_upd]
  intro i2 hi2
  have s2 : Sub h1 (upd h1 i2 (.cells (ex28.map (.int .u8)) 12)) := Sub.fresh (Sub.refl _) hi2
  refine (same2_spec _ _ ex28 ex28 _ (ow.sl.sub s2) (Sl.litB upd_same (Nat.le_refl _)) (by decide)).use ?_
  simp only [go_sem, Nat.reduceAdd, Nat.reduceSub, Nat.reduceMul, Nat.reduceLeDiff, decide_true, decide_false, Bool.not_true, Bool.not_false, Bool.false_eq_true, if_true, if_false, true_and, and_true, and_self, reduceCtorEq, Bool.and_true, Bool.true_and, Bool.and_self, upd_upd]
  refine (ticks_spec 2 1 _).mono ?_
  intro r h3 ow3
  have hl : lenA false r = some (.int .i64 4) := by rw [ow3.sl.len, ticksL_len]; rfl
  simp only [go_sem, Nat.reduceAdd, Nat.reduceSub, Nat.reduceMul, Nat.reduceLeDiff, decide_true, decide_false, Bool.not_true, Bool.not_false, Bool.false_eq_true, if_true, if_false, true_and, and_true, and_self, reduceCtorEq, Bool.and_true, Bool.true_and, Bool.and_self, upd_upd, hl]
  refine hQ _ _ _ _ (.inr rfl) rfl ?_ (((s1.trans ow.sub).trans s2).trans ow3.sub)
  rfl

set_option maxHeartbeats 1000000 in
theorem lticks_spec (n d : Int) (h : AHeap) : PureA Try.prog 5 [.int .i64 n, .int .i64 d] h (.bool true) := by
  have hm : max (min n 1000) 0 = (ticksM n : Int) := by unfold ticksM; omega
  have hm2 : ticksM n ≤ 1000 := by unfold ticksM; omega
  have hw : IntKind.i64.wrap (2 * (ticksM n : Int)) = 2 * ticksM n := w64 (by omega)
  (refine PureA.enter (ac := c5) (rs := r5) Try.func5 rfl (by decide) c5_ok r5_ok ?_; intro Q hQ; simp only [go_sem, Nat.reduceAdd, Nat.reduceSub, Nat.reduceMul, Nat.reduceLeDiff, decide_true, decide_false, Bool.not_true, Bool.not_false, Bool.false_eq_true, if_true, if_false, true_and, and_true, and_self, reduceCtorEq, Bool.and_true, Bool.true_and, Bool.and_self, upd_upd, c5, Try.ntmps5])
  refine (ticks_spec n d h).mono ?_
  intro v h0 ow
  have hlen : lenA false v = some (.int .i64 (2 * (ticksM n : Int))) := by rw [ow.sl.len, ticksL_len]; simp
  simp only [go_sem, Nat.reduceAdd, Nat.reduceSub, Nat.reduceMul, Nat.reduceLeDiff, decide_true, decide_false, Bool.not_true, Bool.not_false, Bool.false_eq_true, if_true, if_false, true_and, and_true, and_self, reduceCtorEq, Bool.and_true, Bool.true_and, Bool.and_self, upd_upd, hlen, if_min, if_max, hm, hw]
  refine loop_range d5_0 (2 * ticksM n) (fun k s => s.set 6 (.int .i64 k)) (fun k h' => Sub h0 h') ?_ (Sub.refl _) ?_
  · simp only [go_sem, Nat.reduceAdd, Nat.reduceSub, Nat.reduceMul, Nat.reduceLeDiff, decide_true, decide_false, Bool.not_true, Bool.not_false, Bool.false_eq_true, if_true, if_false, true_and, and_true, and_self, reduceCtorEq, Bool.and_true, Bool.true_and, Bool.and_self, upd_upd, d5_0]; rfl
  rintro N k h' hk hsub hN
  simp only [go_sem, Nat.reduceAdd, Nat.reduceSub, Nat.reduceMul, Nat.reduceLeDiff, decide_true, decide_false, Bool.not_true, Bool.not_false, Bool.false_eq_true, if_true, if_false, true_and, and_true, and_self, reduceCtorEq, Bool.and_true, Bool.true_and, Bool.and_self, upd_upd, d5_0, hlen]
  by_cases hlt : k < 2 * ticksM n
  · have h1 : (k : Int) < 2 * (ticksM n : Int) := by omega
    have h2 : (0 : Int) ≤ k := by omega
    have hadd : IntKind.i64.wrap ((k : Int) + 1) = ((k + 1 : Nat) : Int) := by rw [w64 (by omega)]; rfl
    have hr : (k : Int).tmod 2 = ((k % 2 : Nat) : Int) := by rw [Int.tmod_eq_emod_of_nonneg h2]; omega
    have hlt2 : k < (ticksL d (ticksM n)).length := by rw [ticksL_len]; exact hlt
    have hld := (ow.sl.sub hsub).loads hlt2
    rw [ticksL_at] at hld
    have hlen2 : (((ticksL d (ticksM n)).length : Nat) : Int) = 2 * (ticksM n : Int) := by rw [ticksL_len]; simp
    simp only [go_sem, Nat.reduceAdd, Nat.reduceSub, Nat.reduceMul, Nat.reduceLeDiff, decide_true, decide_false, Bool.not_true, Bool.not_false, Bool.false_eq_true, if_true, if_false, true_and, and_true, and_self, reduceCtorEq, Bool.and_true, Bool.true_and, Bool.and_self, upd_upd, h1, binA_rem _ _ _ (show ((2 : Int) == 0) = false from rfl), hr]
    intro id hid
    have sid : ∀ ob, Sub h0 (upd h' id ob) := fun ob => hsub.upd (hsub.isNone hid)
    by_cases g : k % 2 = 1
    · rw [if_pos g] at hld
      have hld2 : ∀ ob, aloads (upd h' id ob) 6 (elemA 6 v k) = some settleA := fun ob => by
        have := (ow.sl.sub (sid ob)).loads hlt2
        rw [ticksL_at, if_pos g] at this; exact this
      simp only [go_sem, Nat.reduceAdd, Nat.reduceSub, Nat.reduceMul, Nat.reduceLeDiff, decide_true, decide_false, Bool.not_true, Bool.not_false, Bool.false_eq_true, if_true, if_false, true_and, and_true, and_self, reduceCtorEq, Bool.and_true, Bool.true_and, Bool.and_self, upd_upd, g, show decide (((1 : Nat) : Int) = 1) = true from rfl, (ow.sl.sub hsub).idx, h1, h2, hlen2, Int.toNat_natCast, hld2]
      refine (of28_spec ⟨12, 1000, 0, 0, 0⟩ .nils _ rfl rfl).use ?_
      simp only [go_sem, Nat.reduceAdd, Nat.reduceSub, Nat.reduceMul, Nat.reduceLeDiff, decide_true, decide_false, Bool.not_true, Bool.not_false, Bool.false_eq_true, if_true, if_false, true_and, and_true, and_self, reduceCtorEq, Bool.and_true, Bool.true_and, Bool.and_self, upd_upd]
      refine (same28_spec ⟨12, 1000, 0, 0, 0⟩ ⟨12, 1000, 0, 0, 0⟩ .nils .nils [] [] _ Sl.nil Sl.nil (by simp)).use ?_
      simp only [go_sem, Nat.reduceAdd, Nat.reduceSub, Nat.reduceMul, Nat.reduceLeDiff, decide_true, decide_false, Bool.not_true, Bool.not_false, Bool.false_eq_true, if_true, if_false, true_and, and_true, and_self, reduceCtorEq, Bool.and_true, Bool.true_and, Bool.and_self, upd_upd, hadd]
      refine hN _ _ hlt ?_ (sid _)
      simp only [go_sem, Nat.reduceAdd, Nat.reduceSub, Nat.reduceMul, Nat.reduceLeDiff, decide_true, decide_false, Bool.not_true, Bool.not_false, Bool.false_eq_true, if_true, if_false, true_and, and_true, and_self, reduceCtorEq, Bool.and_true, Bool.true_and, Bool.and_self, upd_upd, d5_0, hlen]
    · have g0 : k % 2 = 0 := by omega
      rw [if_neg g] at hld
      have hld2 : ∀ ob, aloads (upd h' id ob) 6 (elemA 6 v k) = some (tickA d) := fun ob => by
        have := (ow.sl.sub (sid ob)).loads hlt2
        rw [ticksL_at, if_neg g] at this; exact this
      simp only [go_sem, Nat.reduceAdd, Nat.reduceSub, Nat.reduceMul, Nat.reduceLeDiff, decide_true, decide_false, Bool.not_true, Bool.not_false, Bool.false_eq_true, if_true, if_false, true_and, and_true, and_self, reduceCtorEq, Bool.and_true, Bool.true_and, Bool.and_self, upd_upd, g0, show decide (((0 : Nat) : Int) = 1) = false from rfl, (ow.sl.sub hsub).idx, h1, h2, hlen2, Int.toNat_natCast, hld2]
      refine (of28_spec ⟨0, d, 0, 0, 0⟩ .nils _ rfl rfl).use ?_
      simp only [go_sem, Nat.reduceAdd, Nat.reduceSub, Nat.reduceMul, Nat.reduceLeDiff, decide_true, decide_false, Bool.not_true, Bool.not_false, Bool.false_eq_true, if_true, if_false, true_and, and_true, and_self, reduceCtorEq, Bool.and_true, Bool.true_and, Bool.and_self, upd_upd]
      refine (same28_spec ⟨0, d, 0, 0, 0⟩ ⟨0, d, 0, 0, 0⟩ .nils .nils [] [] _ Sl.nil Sl.nil (by simp)).use ?_
      simp only [go_sem, Nat.reduceAdd, Nat.reduceSub, Nat.reduceMul, Nat.reduceLeDiff, decide_true, decide_false, Bool.not_true, Bool.not_false, Bool.false_eq_true, if_true, if_false, true_and, and_true, and_self, reduceCtorEq, Bool.and_true, Bool.true_and, Bool.and_self, upd_upd, hadd]
      refine hN _ _ hlt ?_ (sid _)
      simp only [go_sem, Nat.reduceAdd, Nat.reduceSub, Nat.reduceMul, Nat.reduceLeDiff, decide_true, decide_false, Bool.not_true, Bool.not_false, Bool.false_eq_true, if_true, if_false, true_and, and_true, and_self, reduceCtorEq, Bool.and_true, Bool.true_and, Bool.and_self, upd_upd, d5_0, hlen]
  · have h1 : ¬ (k : Int) < 2 * (ticksM n : Int) := by omega
    simp only [go_sem, Nat.reduceAdd, Nat.reduceSub, Nat.reduceMul, Nat.reduceLeDiff, decide_true, decide_false, Bool.not_true, Bool.not_false, Bool.false_eq_true, if_true, if_false, true_and, and_true, and_self, reduceCtorEq, Bool.and_true, Bool.true_and, Bool.and_self, upd_upd, h1]
    refine (known28_spec _).use ?_
    simp only [go_sem, Nat.reduceAdd, Nat.reduceSub, Nat.reduceMul, Nat.reduceLeDiff, decide_true, decide_false, Bool.not_true, Bool.not_false, Bool.false_eq_true, if_true, if_false, true_and, and_true, and_self, reduceCtorEq, Bool.and_true, Bool.true_and, Bool.and_self, upd_upd]
    exact hQ _ _ _ _ (.inr rfl) rfl rfl (ow.sub.trans hsub)

theorem lticks_law (xs : List AV) (h : ArgsSh Try.prog 6 Try.f5.params.toList xs) : PureA Try.prog 5 xs emp (.bool true) := by
  rw [Try.params5] at h
  simp only [ArgsSh, ArgSh, Try.underlying3, ShC, ShFs] at h
  obtain ⟨x, _, rfl, ⟨m, hm, hmw⟩, u, _, rfl, ⟨l, hl, hlw⟩, rfl⟩ := h
  cases hm; cases hl
  exact lticks_spec m l emp

end Go.Proofs.Ytlbpmgkfekeaeaa
