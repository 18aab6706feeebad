/-
  The document's work list: which one is taken.
-/
import Derived.Test.YtaeppifdbcoipaaId
import Derived.Test.YtaeppifdbcoipaaIb
namespace Go.Proofs.Ytaeppifdbcoipaa
open Go E
set_option linter.unusedVariables false
set_option linter.unusedSimpArgs false
set_option maxRecDepth 100000

/-- A node, and a rank. -/
abbrev Rj := Int × Int
def encR (x : Rj) : List AV := [.int .i64 x.1, .int .i64 x.2]
theorem encR_len (x : Rj) : (encR x).length = 2 := rfl
def ltR (a b : Rj) : Prop := a.2 < b.2 ∨ (a.2 = b.2 ∧ a.1 < b.1)

theorem rtake_spec (l : List Rj) (ex : Bool) (h : AHeap) (hn : l.length ≤ 1000000) :
    CallsA Try.prog 27 [.ro (cat encR l) l.length ex] h (fun r H => H = h ∧ ((l = [] ∧ r = .int .i64 (-1)) ∨ ∃ A : Nat, ∃ hA : A < l.length, r = .int .i64 (A : Int) ∧ ∀ x ∈ l, ¬ ltR x l[A])) := by
  (refine CallsA.enterR (ac := c27) (rs := r27) Try.func27 rfl (by decide) c27_ok r27_ok ?_; intro Q hQ; simp only [go_sem, Int.reduceEq, Int.reduceAdd, Int.reduceSub, Int.reduceMul, Nat.reduceLT, Int.reduceLT, Int.reduceLE, Int.reduceToNat, Nat.reduceAdd, Nat.reduceSub, Nat.reduceMul, Nat.reduceLeDiff, reduceCtorEq, c27, Try.ntmps27])
  refine loop_st d27_0 (fun x : Nat × Int => l.length - x.1) (fun x s => (s.set 4 (.int .i64 (x.1 : Int))).set 3 (.int .i64 x.2)) (fun x H => x.1 ≤ l.length ∧ H = h ∧ ((x.1 = 0 ∧ x.2 = -1) ∨ ∃ A : Nat, ∃ hA : A < l.length, x.2 = (A : Int) ∧ A < x.1 ∧ ∀ j (hj : j < l.length), j < x.1 → ¬ ltR l[j] l[A])) (0, -1) ?_ ⟨Nat.zero_le _, rfl, .inl ⟨rfl, rfl⟩⟩ ?_
  · (simp only [go_sem, Int.reduceEq, Int.reduceAdd, Int.reduceSub, Int.reduceMul, Nat.reduceLT, Int.reduceLT, Int.reduceLE, Int.reduceToNat, Nat.reduceAdd, Nat.reduceSub, Nat.reduceMul, Nat.reduceLeDiff, reduceCtorEq, d27_0] <;> rfl)
  rintro N ⟨k, a⟩ H1 ⟨hk, eH, ha⟩ hN
  simp only at hk ha hN
  rw [eH]
  simp only [go_sem, Int.reduceEq, Int.reduceAdd, Int.reduceSub, Int.reduceMul, Nat.reduceLT, Int.reduceLT, Int.reduceLE, Int.reduceToNat, Nat.reduceAdd, Nat.reduceSub, Nat.reduceMul, Nat.reduceLeDiff, reduceCtorEq, d27_0]
  have hadd := wadd1 (k := k) (by omega)
  by_cases hlt : k < l.length
  · have q0 : ∀ t : Rj, (encR t)[0]? = some (.int .i64 t.1) := fun _ => rfl
    have q1 : ∀ t : Rj, (encR t)[1]? = some (.int .i64 t.2) := fun _ => rfl
    have rd0 : ∀ (i : Nat) (hi : i < l.length), aload h (.rp ((cat encR l).drop (i * 2))) = some (.int .i64 l[i].1) := fun i hi => (rd_first (h := h) encR_len (by omega) hi).trans (q0 _)
    have rd1 : ∀ (i : Nat) (hi : i < l.length), aload h (.rp (((cat encR l).drop (i * 2)).drop 1)) = some (.int .i64 l[i].2) := fun i hi => (rd_cell (h := h) (off := 1) encR_len hi (by omega)).trans (q1 _)
    rcases ha with ⟨rfl, rfl⟩ | ⟨A, hA, rfl, hAk, hall⟩
    · simp only [go_sem, Int.reduceEq, Int.reduceAdd, Int.reduceSub, Int.reduceMul, Nat.reduceLT, Int.reduceLT, Int.reduceLE, Int.reduceToNat, Nat.reduceAdd, Nat.reduceSub, Nat.reduceMul, Nat.reduceLeDiff, reduceCtorEq, hlt, hadd]
      refine hN (1, 0) _ _ (by simp only; omega) ?_ ⟨by simp only; omega, rfl, .inr ⟨0, hlt, rfl, by simp, fun j hj hj1 => ?_⟩⟩
      · simp only [go_sem, Int.reduceEq, Int.reduceAdd, Int.reduceSub, Int.reduceMul, Nat.reduceLT, Int.reduceLT, Int.reduceLE, Int.reduceToNat, Nat.reduceAdd, Nat.reduceSub, Nat.reduceMul, Nat.reduceLeDiff, reduceCtorEq, d27_0]
      · have : j = 0 := by simp only at hj1; omega
        subst this
        unfold ltR; omega
    · have hneg : ¬ (A : Int) < 0 := by omega
      have a0 := rd0 A hA
      have a1 := rd1 A hA
      have k0 := rd0 k hlt
      have k1 := rd1 k hlt
      have keep : ¬ ltR l[k] l[A] → ∀ j (hj : j < l.length), j < k + 1 → ¬ ltR l[j] l[A] := fun hn j hj hj1 => by
        by_cases e : j = k
        · subst e; exact hn
        · exact hall j hj (by omega)
      have take : ltR l[k] l[A] → ∀ j (hj : j < l.length), j < k + 1 → ¬ ltR l[j] l[k] := fun hy j hj hj1 => by
        by_cases e : j = k
        · subst e; unfold ltR; omega
        · have := hall j hj (by omega)
          unfold ltR at *; omega
      by_cases c1 : l[k].2 < l[A].2
      · simp only [go_sem, Int.reduceEq, Int.reduceAdd, Int.reduceSub, Int.reduceMul, Nat.reduceLT, Int.reduceLT, Int.reduceLE, Int.reduceToNat, Nat.reduceAdd, Nat.reduceSub, Nat.reduceMul, Nat.reduceLeDiff, reduceCtorEq, hlt, hA, hneg, a0, a1, k0, k1, c1, hadd]
        refine hN (k + 1, (k : Int)) _ _ (by simp only; omega) ?_ ⟨by simp only; omega, rfl, .inr ⟨k, hlt, rfl, by simp, take (.inl c1)⟩⟩
        simp only [go_sem, Int.reduceEq, Int.reduceAdd, Int.reduceSub, Int.reduceMul, Nat.reduceLT, Int.reduceLT, Int.reduceLE, Int.reduceToNat, Nat.reduceAdd, Nat.reduceSub, Nat.reduceMul, Nat.reduceLeDiff, reduceCtorEq, d27_0]
      · by_cases c2 : l[k].2 = l[A].2
        · have c2' : decide (l[k].2 = l[A].2) = true := decide_eq_true c2
          by_cases c3 : l[k].1 < l[A].1
          · simp only [go_sem, Int.reduceEq, Int.reduceAdd, Int.reduceSub, Int.reduceMul, Nat.reduceLT, Int.reduceLT, Int.reduceLE, Int.reduceToNat, Nat.reduceAdd, Nat.reduceSub, Nat.reduceMul, Nat.reduceLeDiff, reduceCtorEq, hlt, hA, hneg, a0, a1, k0, k1, c1, c2', c3, hadd]
            refine hN (k + 1, (k : Int)) _ _ (by simp only; omega) ?_ ⟨by simp only; omega, rfl, .inr ⟨k, hlt, rfl, by simp, take (.inr ⟨c2, c3⟩)⟩⟩
            simp only [go_sem, Int.reduceEq, Int.reduceAdd, Int.reduceSub, Int.reduceMul, Nat.reduceLT, Int.reduceLT, Int.reduceLE, Int.reduceToNat, Nat.reduceAdd, Nat.reduceSub, Nat.reduceMul, Nat.reduceLeDiff, reduceCtorEq, d27_0]
          · simp only [go_sem, Int.reduceEq, Int.reduceAdd, Int.reduceSub, Int.reduceMul, Nat.reduceLT, Int.reduceLT, Int.reduceLE, Int.reduceToNat, Nat.reduceAdd, Nat.reduceSub, Nat.reduceMul, Nat.reduceLeDiff, reduceCtorEq, hlt, hA, hneg, a0, a1, k0, k1, c1, c2', c3, hadd]
            refine hN (k + 1, (A : Int)) _ _ (by simp only; omega) ?_ ⟨by simp only; omega, rfl, .inr ⟨A, hA, rfl, by simp only; omega, keep (by unfold ltR; omega)⟩⟩
            simp only [go_sem, Int.reduceEq, Int.reduceAdd, Int.reduceSub, Int.reduceMul, Nat.reduceLT, Int.reduceLT, Int.reduceLE, Int.reduceToNat, Nat.reduceAdd, Nat.reduceSub, Nat.reduceMul, Nat.reduceLeDiff, reduceCtorEq, d27_0]
        · have c2' : decide (l[k].2 = l[A].2) = false := decide_eq_false c2
          simp only [go_sem, Int.reduceEq, Int.reduceAdd, Int.reduceSub, Int.reduceMul, Nat.reduceLT, Int.reduceLT, Int.reduceLE, Int.reduceToNat, Nat.reduceAdd, Nat.reduceSub, Nat.reduceMul, Nat.reduceLeDiff, reduceCtorEq, hlt, hA, hneg, a0, a1, k0, k1, c1, c2', hadd]
          refine hN (k + 1, (A : Int)) _ _ (by simp only; omega) ?_ ⟨by simp only; omega, rfl, .inr ⟨A, hA, rfl, by simp only; omega, keep (by unfold ltR; omega)⟩⟩
          simp only [go_sem, Int.reduceEq, Int.reduceAdd, Int.reduceSub, Int.reduceMul, Nat.reduceLT, Int.reduceLT, Int.reduceLE, Int.reduceToNat, Nat.reduceAdd, Nat.reduceSub, Nat.reduceMul, Nat.reduceLeDiff, reduceCtorEq, d27_0]
  · have hkl : k = l.length := by omega
    simp only [go_sem, Int.reduceEq, Int.reduceAdd, Int.reduceSub, Int.reduceMul, Nat.reduceLT, Int.reduceLT, Int.reduceLE, Int.reduceToNat, Nat.reduceAdd, Nat.reduceSub, Nat.reduceMul, Nat.reduceLeDiff, reduceCtorEq, hlt]
    refine frz_id ?_
    simp only [go_sem, Int.reduceEq, Int.reduceAdd, Int.reduceSub, Int.reduceMul, Nat.reduceLT, Int.reduceLT, Int.reduceLE, Int.reduceToNat, Nat.reduceAdd, Nat.reduceSub, Nat.reduceMul, Nat.reduceLeDiff, reduceCtorEq]
    refine hQ _ _ _ _ _ _ (.inr rfl) rfl (FzH.refl _) (FzL.refl _ _ _) ⟨rfl, ?_⟩
    rcases ha with ⟨h0, rfl⟩ | ⟨A, hA, rfl, hAk, hall⟩
    · exact .inl ⟨List.length_eq_zero_iff.1 (by omega), rfl⟩
    · refine .inr ⟨A, hA, rfl, fun x hx => ?_⟩
      obtain ⟨j, hj, rfl⟩ := List.mem_iff_getElem.1 hx
      exact hall j hj (by omega)

end Go.Proofs.Ytaeppifdbcoipaa
