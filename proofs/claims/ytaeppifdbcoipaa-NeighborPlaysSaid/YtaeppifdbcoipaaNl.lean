/-
  Neighbours: the document's table.
-/
import Derived.Test.YtaeppifdbcoipaaNk
namespace Go.Proofs.Ytaeppifdbcoipaa
open Go E
set_option linter.unusedVariables false
set_option linter.unusedSimpArgs false
set_option maxRecDepth 100000

/-- The document's table, as cells. -/
def dT (most : Int) (L : List En) (K : List Int) : AObj := .cells [.int .i64 most, .ro (cat encE L) L.length false, .ro (cat i1 K) K.length false] 3

theorem rright_spec (e : En) (h : AHeap) : PureA Try.prog 63 [.agg (encE e)] h (.bool (rightE e)) := by
  (refine PureA.enter (ac := c63) (rs := r63) Try.func63 rfl (by decide) c63_ok r63_ok ?_; intro Q hQ; simp only [go_sem, Int.reduceEq, Int.reduceAdd, Int.reduceSub, Int.reduceMul, Nat.reduceLT, Int.reduceLT, Int.reduceLE, Int.reduceToNat, Nat.reduceAdd, Nat.reduceSub, Nat.reduceMul, Nat.reduceLeDiff, reduceCtorEq, c63, Try.ntmps63, encE])
  repeat' (first | (intro _ hf_; (try simp only [upd_none] at hf_); (try simp only [go_sem, Int.reduceEq, Int.reduceAdd, Int.reduceSub, Int.reduceMul, Nat.reduceLT, Int.reduceLT, Int.reduceLE, Int.reduceToNat, Nat.reduceAdd, Nat.reduceSub, Nat.reduceMul, Nat.reduceLeDiff, reduceCtorEq, upd_ne, ne_eq, not_false_eq_true, *])) | (refine guard_split (fun hb_ => ?_) (fun hb_ => ?_) <;> (try simp only [decide_eq_true_eq, decide_eq_false_iff_not, Bool.not_eq_true', Bool.not_eq_false'] at hb_) <;> (try simp only [go_sem, Int.reduceEq, Int.reduceAdd, Int.reduceSub, Int.reduceMul, Nat.reduceLT, Int.reduceLT, Int.reduceLE, Int.reduceToNat, Nat.reduceAdd, Nat.reduceSub, Nat.reduceMul, Nat.reduceLeDiff, reduceCtorEq, upd_ne, ne_eq, not_false_eq_true, *])) | (refine cond_split (fun hb_ => ?_) (fun hb_ => ?_) <;> (try simp only [decide_eq_true_eq, decide_eq_false_iff_not, Bool.not_eq_true', Bool.not_eq_false'] at hb_) <;> (try simp only [go_sem, Int.reduceEq, Int.reduceAdd, Int.reduceSub, Int.reduceMul, Nat.reduceLT, Int.reduceLT, Int.reduceLE, Int.reduceToNat, Nat.reduceAdd, Nat.reduceSub, Nat.reduceMul, Nat.reduceLeDiff, reduceCtorEq, upd_ne, ne_eq, not_false_eq_true, *])) | (refine readG_split (fun hb_ => ?_) (fun hb_ => ?_) <;> (try simp only [decide_eq_true_eq, decide_eq_false_iff_not, Bool.not_eq_true', Bool.not_eq_false'] at hb_) <;> (try simp only [go_sem, Int.reduceEq, Int.reduceAdd, Int.reduceSub, Int.reduceMul, Nat.reduceLT, Int.reduceLT, Int.reduceLE, Int.reduceToNat, Nat.reduceAdd, Nat.reduceSub, Nat.reduceMul, Nat.reduceLeDiff, reduceCtorEq, upd_ne, ne_eq, not_false_eq_true, *])) | (refine frz_id ?_ <;> (try simp only [go_sem, Int.reduceEq, Int.reduceAdd, Int.reduceSub, Int.reduceMul, Nat.reduceLT, Int.reduceLT, Int.reduceLE, Int.reduceToNat, Nat.reduceAdd, Nat.reduceSub, Nat.reduceMul, Nat.reduceLeDiff, reduceCtorEq, upd_ne, ne_eq, not_false_eq_true, *])))
  all_goals (refine hQ _ _ _ _ _ (by first | exact .inr rfl | exact .inl rfl) rfl (by first | exact FzH.refl _ | exact FzH.sub (by (repeat' (first | exact Sub.refl _ | assumption | (refine Sub.upd ?_ (by first | assumption | (simp only [*]; done) | exact Sub.isNone (by assumption) (by assumption) | exact Sub.isNone (by assumption) (by simp only [*]))))))) (FzL.refl _ _ _) ?_; simp only [go_sem, Int.reduceEq, Int.reduceAdd, Int.reduceSub, Int.reduceMul, Nat.reduceLT, Int.reduceLT, Int.reduceLE, Int.reduceToNat, Nat.reduceAdd, Nat.reduceSub, Nat.reduceMul, Nat.reduceLeDiff, reduceCtorEq, rightE]; (first | rfl | ((try simp only [tupA_one]); congr 1; first | rfl | (refine decide_eq_decide.2 ?_; omega) | (symm; refine decide_eq_true ?_; omega) | (symm; refine decide_eq_false ?_; omega) | (refine decide_eq_true ?_; omega) | (refine decide_eq_false ?_; omega))))

theorem rworse_spec (a b : En) (h : AHeap) : PureA Try.prog 154 [.agg (encE a), .agg (encE b)] h (.bool (decide (0 < worseE a b))) := by
  have e : decide (0 < worseE a b) = if a.cost = b.cost then (if a.rank = b.rank then (if a.heard = b.heard then decide (b.node < a.node) else decide (a.heard < b.heard)) else decide (b.rank < a.rank)) else decide (b.cost < a.cost) := by
    simp only [worseE, orZ, cmpZ]
    rcases Int.lt_trichotomy a.cost b.cost with h1 | h1 | h1
    · simp [h1, show ¬ a.cost = b.cost by omega, show ¬ b.cost < a.cost by omega]
    · rcases Int.lt_trichotomy a.rank b.rank with h2 | h2 | h2
      · simp [h1, h2, show ¬ a.rank = b.rank by omega, show ¬ b.rank < a.rank by omega]
      · rcases Int.lt_trichotomy a.heard b.heard with h3 | h3 | h3
        · simp [h1, h2, h3, show ¬ a.heard = b.heard by omega, show ¬ b.heard < a.heard by omega]
        · rcases Int.lt_trichotomy a.node b.node with h4 | h4 | h4
          · simp [h1, h2, h3, h4, show ¬ b.node < a.node by omega]
          · simp [h1, h2, h3, h4]
          · simp [h1, h2, h3, h4, show ¬ a.node < b.node by omega]
        · simp [h1, h2, h3, show ¬ a.heard = b.heard by omega, show ¬ a.heard < b.heard by omega]
      · simp [h1, h2, show ¬ a.rank = b.rank by omega, show ¬ a.rank < b.rank by omega]
    · simp [h1, show ¬ a.cost = b.cost by omega, show ¬ a.cost < b.cost by omega]
  (refine PureA.enter (ac := c154) (rs := r154) Try.func154 rfl (by decide) c154_ok r154_ok ?_; intro Q hQ; simp only [go_sem, Int.reduceEq, Int.reduceAdd, Int.reduceSub, Int.reduceMul, Nat.reduceLT, Int.reduceLT, Int.reduceLE, Int.reduceToNat, Nat.reduceAdd, Nat.reduceSub, Nat.reduceMul, Nat.reduceLeDiff, reduceCtorEq, c154, Try.ntmps154, encE])
  rw [e] at hQ
  cases h1 : decide (a.cost = b.cost)
  · rw [if_neg (of_decide_eq_false h1)] at hQ
    simp only [go_sem, Int.reduceEq, Int.reduceAdd, Int.reduceSub, Int.reduceMul, Nat.reduceLT, Int.reduceLT, Int.reduceLE, Int.reduceToNat, Nat.reduceAdd, Nat.reduceSub, Nat.reduceMul, Nat.reduceLeDiff, reduceCtorEq, h1]
    (refine hQ _ _ _ _ _ (by first | exact .inr rfl | exact .inl rfl) rfl (by first | exact FzH.refl _ | exact FzH.sub (by (repeat' (first | exact Sub.refl _ | assumption | (refine Sub.upd ?_ (by first | assumption | (simp only [*]; done) | exact Sub.isNone (by assumption) (by assumption) | exact Sub.isNone (by assumption) (by simp only [*]))))))) (FzL.refl _ _ _) ?_; try (simp only [go_sem, Int.reduceEq, Int.reduceAdd, Int.reduceSub, Int.reduceMul, Nat.reduceLT, Int.reduceLT, Int.reduceLE, Int.reduceToNat, Nat.reduceAdd, Nat.reduceSub, Nat.reduceMul, Nat.reduceLeDiff, reduceCtorEq]))
  · rw [if_pos (of_decide_eq_true h1)] at hQ
    cases h2 : decide (a.rank = b.rank)
    · rw [if_neg (of_decide_eq_false h2)] at hQ
      simp only [go_sem, Int.reduceEq, Int.reduceAdd, Int.reduceSub, Int.reduceMul, Nat.reduceLT, Int.reduceLT, Int.reduceLE, Int.reduceToNat, Nat.reduceAdd, Nat.reduceSub, Nat.reduceMul, Nat.reduceLeDiff, reduceCtorEq, h1, h2]
      (refine hQ _ _ _ _ _ (by first | exact .inr rfl | exact .inl rfl) rfl (by first | exact FzH.refl _ | exact FzH.sub (by (repeat' (first | exact Sub.refl _ | assumption | (refine Sub.upd ?_ (by first | assumption | (simp only [*]; done) | exact Sub.isNone (by assumption) (by assumption) | exact Sub.isNone (by assumption) (by simp only [*]))))))) (FzL.refl _ _ _) ?_; try (simp only [go_sem, Int.reduceEq, Int.reduceAdd, Int.reduceSub, Int.reduceMul, Nat.reduceLT, Int.reduceLT, Int.reduceLE, Int.reduceToNat, Nat.reduceAdd, Nat.reduceSub, Nat.reduceMul, Nat.reduceLeDiff, reduceCtorEq]))
    · rw [if_pos (of_decide_eq_true h2)] at hQ
      cases h3 : decide (a.heard = b.heard)
      · rw [if_neg (of_decide_eq_false h3)] at hQ
        simp only [go_sem, Int.reduceEq, Int.reduceAdd, Int.reduceSub, Int.reduceMul, Nat.reduceLT, Int.reduceLT, Int.reduceLE, Int.reduceToNat, Nat.reduceAdd, Nat.reduceSub, Nat.reduceMul, Nat.reduceLeDiff, reduceCtorEq, h1, h2, h3]
        (refine hQ _ _ _ _ _ (by first | exact .inr rfl | exact .inl rfl) rfl (by first | exact FzH.refl _ | exact FzH.sub (by (repeat' (first | exact Sub.refl _ | assumption | (refine Sub.upd ?_ (by first | assumption | (simp only [*]; done) | exact Sub.isNone (by assumption) (by assumption) | exact Sub.isNone (by assumption) (by simp only [*]))))))) (FzL.refl _ _ _) ?_; try (simp only [go_sem, Int.reduceEq, Int.reduceAdd, Int.reduceSub, Int.reduceMul, Nat.reduceLT, Int.reduceLT, Int.reduceLE, Int.reduceToNat, Nat.reduceAdd, Nat.reduceSub, Nat.reduceMul, Nat.reduceLeDiff, reduceCtorEq]))
      · rw [if_pos (of_decide_eq_true h3)] at hQ
        simp only [go_sem, Int.reduceEq, Int.reduceAdd, Int.reduceSub, Int.reduceMul, Nat.reduceLT, Int.reduceLT, Int.reduceLE, Int.reduceToNat, Nat.reduceAdd, Nat.reduceSub, Nat.reduceMul, Nat.reduceLeDiff, reduceCtorEq, h1, h2, h3]
        (refine hQ _ _ _ _ _ (by first | exact .inr rfl | exact .inl rfl) rfl (by first | exact FzH.refl _ | exact FzH.sub (by (repeat' (first | exact Sub.refl _ | assumption | (refine Sub.upd ?_ (by first | assumption | (simp only [*]; done) | exact Sub.isNone (by assumption) (by assumption) | exact Sub.isNone (by assumption) (by simp only [*]))))))) (FzL.refl _ _ _) ?_; try (simp only [go_sem, Int.reduceEq, Int.reduceAdd, Int.reduceSub, Int.reduceMul, Nat.reduceLT, Int.reduceLT, Int.reduceLE, Int.reduceToNat, Nat.reduceAdd, Nat.reduceSub, Nat.reduceMul, Nat.reduceLeDiff, reduceCtorEq]))

theorem rhasR_spec (l : List Int) (x : Int) (ex : Bool) (h : AHeap) (hn : l.length ≤ 1000000) : PureA Try.prog 52 [.ro (cat i1 l) l.length ex, .int .i64 x] h (.bool (l.contains x)) := by
  have ac : l.any (fun y => decide (y = x)) = l.contains x := by
    rw [← any_contains]
    congr 1; funext y; exact decide_eq_decide.2 ⟨Eq.symm, Eq.symm⟩
  (refine PureA.enter (ac := c52) (rs := r52) Try.func52 rfl (by decide) c52_ok r52_ok ?_; intro Q hQ; simp only [go_sem, Int.reduceEq, Int.reduceAdd, Int.reduceSub, Int.reduceMul, Nat.reduceLT, Int.reduceLT, Int.reduceLE, Int.reduceToNat, Nat.reduceAdd, Nat.reduceSub, Nat.reduceMul, Nat.reduceLeDiff, reduceCtorEq, c52, Try.ntmps52])
  refine loop_range d52_0 (l.length) (fun k s => s.set 5 (.int .i64 k)) (fun k h' => ((l.take k).any (fun y => decide (y = x)) = false) ∧ h' = h) ?_ ⟨rfl, rfl⟩ ?_
  · (simp only [go_sem, Int.reduceEq, Int.reduceAdd, Int.reduceSub, Int.reduceMul, Nat.reduceLT, Int.reduceLT, Int.reduceLE, Int.reduceToNat, Nat.reduceAdd, Nat.reduceSub, Nat.reduceMul, Nat.reduceLeDiff, reduceCtorEq, d52_0] <;> rfl)
  rintro N k h' hk ⟨hall, rfl⟩ hN
  simp only [go_sem, Int.reduceEq, Int.reduceAdd, Int.reduceSub, Int.reduceMul, Nat.reduceLT, Int.reduceLT, Int.reduceLE, Int.reduceToNat, Nat.reduceAdd, Nat.reduceSub, Nat.reduceMul, Nat.reduceLeDiff, reduceCtorEq, d52_0]
  have hadd := wadd1 (k := k) (by omega)
  by_cases hlt : k < l.length
  · have ht := take_any hlt hall
    have hg := fun h => any_good (p := fun y => decide (y = x)) hlt h
    simp only [go_sem, Int.reduceEq, Int.reduceAdd, Int.reduceSub, Int.reduceMul, Nat.reduceLT, Int.reduceLT, Int.reduceLE, Int.reduceToNat, Nat.reduceAdd, Nat.reduceSub, Nat.reduceMul, Nat.reduceLeDiff, reduceCtorEq, hlt, hadd, rdI hlt]
    cases e : decide (l[k] = x)
    · simp only [go_sem, Int.reduceEq, Int.reduceAdd, Int.reduceSub, Int.reduceMul, Nat.reduceLT, Int.reduceLT, Int.reduceLE, Int.reduceToNat, Nat.reduceAdd, Nat.reduceSub, Nat.reduceMul, Nat.reduceLeDiff, reduceCtorEq, e]
      (refine hN _ _ hlt ?_ ⟨?_, rfl⟩; (simp only [go_sem, Int.reduceEq, Int.reduceAdd, Int.reduceSub, Int.reduceMul, Nat.reduceLT, Int.reduceLT, Int.reduceLE, Int.reduceToNat, Nat.reduceAdd, Nat.reduceSub, Nat.reduceMul, Nat.reduceLeDiff, reduceCtorEq, d52_0, hadd]))
      rw [ht]; exact e
    · simp only [go_sem, Int.reduceEq, Int.reduceAdd, Int.reduceSub, Int.reduceMul, Nat.reduceLT, Int.reduceLT, Int.reduceLE, Int.reduceToNat, Nat.reduceAdd, Nat.reduceSub, Nat.reduceMul, Nat.reduceLeDiff, reduceCtorEq, e]
      refine hQ _ _ _ _ _ (by first | exact .inr rfl | exact .inl rfl) rfl (by first | exact FzH.refl _ | exact FzH.sub (by (repeat' (first | exact Sub.refl _ | assumption | (refine Sub.upd ?_ (by first | assumption | (simp only [*]; done) | exact Sub.isNone (by assumption) (by assumption) | exact Sub.isNone (by assumption) (by simp only [*]))))))) (FzL.refl _ _ _) ?_
      rw [← ac, hg e]; rfl
  · (simp only [go_sem, Int.reduceEq, Int.reduceAdd, Int.reduceSub, Int.reduceMul, Nat.reduceLT, Int.reduceLT, Int.reduceLE, Int.reduceToNat, Nat.reduceAdd, Nat.reduceSub, Nat.reduceMul, Nat.reduceLeDiff, reduceCtorEq, hlt]; refine frz_id ?_; simp only [go_sem, Int.reduceEq, Int.reduceAdd, Int.reduceSub, Int.reduceMul, Nat.reduceLT, Int.reduceLT, Int.reduceLE, Int.reduceToNat, Nat.reduceAdd, Nat.reduceSub, Nat.reduceMul, Nat.reduceLeDiff, reduceCtorEq])
    refine hQ _ _ _ _ _ (by first | exact .inr rfl | exact .inl rfl) rfl (by first | exact FzH.refl _ | exact FzH.sub (by (repeat' (first | exact Sub.refl _ | assumption | (refine Sub.upd ?_ (by first | assumption | (simp only [*]; done) | exact Sub.isNone (by assumption) (by assumption) | exact Sub.isNone (by assumption) (by simp only [*]))))))) (FzL.refl _ _ _) ?_
    rw [List.take_of_length_le (by omega)] at hall
    rw [← ac, hall]; rfl

theorem of14_spec (e : En) (h : AHeap) : PureA Try.prog 122 [.agg (encE e)] h (.agg (encE e)) := by
  (refine PureA.enter (ac := c122) (rs := r122) Try.func122 rfl (by decide) c122_ok r122_ok ?_; intro Q hQ; simp only [go_sem, Int.reduceEq, Int.reduceAdd, Int.reduceSub, Int.reduceMul, Nat.reduceLT, Int.reduceLT, Int.reduceLE, Int.reduceToNat, Nat.reduceAdd, Nat.reduceSub, Nat.reduceMul, Nat.reduceLeDiff, reduceCtorEq, c122, Try.ntmps122, encE])
  intro p hp
  simp only [go_sem, Int.reduceEq, Int.reduceAdd, Int.reduceSub, Int.reduceMul, Nat.reduceLT, Int.reduceLT, Int.reduceLE, Int.reduceToNat, Nat.reduceAdd, Nat.reduceSub, Nat.reduceMul, Nat.reduceLeDiff, reduceCtorEq, del_same, del_none hp]
  (refine hQ _ _ _ _ _ (by first | exact .inr rfl | exact .inl rfl) rfl (by first | exact FzH.refl _ | exact FzH.sub (by (repeat' (first | exact Sub.refl _ | assumption | (refine Sub.upd ?_ (by first | assumption | (simp only [*]; done) | exact Sub.isNone (by assumption) (by assumption) | exact Sub.isNone (by assumption) (by simp only [*]))))))) (FzL.refl _ _ _) ?_; try (simp only [go_sem, Int.reduceEq, Int.reduceAdd, Int.reduceSub, Int.reduceMul, Nat.reduceLT, Int.reduceLT, Int.reduceLE, Int.reduceToNat, Nat.reduceAdd, Nat.reduceSub, Nat.reduceMul, Nat.reduceLeDiff, reduceCtorEq, encE]))

theorem rfind_spec {q : Nat} {most : Int} {L : List En} {K : List Int} {h : AHeap} (hd : h q = some (dT most L K)) (hn : L.length ≤ 1000000) (n : Int) : PureA Try.prog 115 [.ptr q 0, .int .i64 n] h (.int .i64 (idxP (fun e => decide (e.node = n)) L)) := by
  unfold dT at hd
  (refine PureA.enter (ac := c115) (rs := r115) Try.func115 rfl (by decide) c115_ok r115_ok ?_; intro Q hQ; simp only [go_sem, Int.reduceEq, Int.reduceAdd, Int.reduceSub, Int.reduceMul, Nat.reduceLT, Int.reduceLT, Int.reduceLE, Int.reduceToNat, Nat.reduceAdd, Nat.reduceSub, Nat.reduceMul, Nat.reduceLeDiff, reduceCtorEq, c115, Try.ntmps115])
  refine loop_range d115_0 (L.length) (fun k s => s.set 5 (.int .i64 k)) (fun k h' => ((L.take k).any (fun e => decide (e.node = n)) = false) ∧ h' = h) ?_ ⟨rfl, rfl⟩ ?_
  · (simp only [go_sem, Int.reduceEq, Int.reduceAdd, Int.reduceSub, Int.reduceMul, Nat.reduceLT, Int.reduceLT, Int.reduceLE, Int.reduceToNat, Nat.reduceAdd, Nat.reduceSub, Nat.reduceMul, Nat.reduceLeDiff, reduceCtorEq, d115_0] <;> rfl)
  rintro N k h' hk ⟨hall, rfl⟩ hN
  simp only [go_sem, Int.reduceEq, Int.reduceAdd, Int.reduceSub, Int.reduceMul, Nat.reduceLT, Int.reduceLT, Int.reduceLE, Int.reduceToNat, Nat.reduceAdd, Nat.reduceSub, Nat.reduceMul, Nat.reduceLeDiff, reduceCtorEq, d115_0]
  have hadd := wadd1 (k := k) (by omega)
  by_cases hlt : k < L.length
  · have ht := take_any hlt hall
    have hh := idx_hit hlt hall
    have q0 : ∀ t : En, (encE t)[0]? = some (.int .i64 t.node) := fun _ => rfl
    have r0 := fun h' => (rd_first (h := h') encE_len (by omega) hlt).trans (q0 _)
    simp only [go_sem, Int.reduceEq, Int.reduceAdd, Int.reduceSub, Int.reduceMul, Nat.reduceLT, Int.reduceLT, Int.reduceLE, Int.reduceToNat, Nat.reduceAdd, Nat.reduceSub, Nat.reduceMul, Nat.reduceLeDiff, reduceCtorEq, hd, hlt, hadd, r0]
    cases e : decide (L[k].node = n)
    · simp only [go_sem, Int.reduceEq, Int.reduceAdd, Int.reduceSub, Int.reduceMul, Nat.reduceLT, Int.reduceLT, Int.reduceLE, Int.reduceToNat, Nat.reduceAdd, Nat.reduceSub, Nat.reduceMul, Nat.reduceLeDiff, reduceCtorEq, e]
      (refine hN _ _ hlt ?_ ⟨?_, rfl⟩; (simp only [go_sem, Int.reduceEq, Int.reduceAdd, Int.reduceSub, Int.reduceMul, Nat.reduceLT, Int.reduceLT, Int.reduceLE, Int.reduceToNat, Nat.reduceAdd, Nat.reduceSub, Nat.reduceMul, Nat.reduceLeDiff, reduceCtorEq, d115_0, hadd]))
      rw [ht]; exact e
    · simp only [go_sem, Int.reduceEq, Int.reduceAdd, Int.reduceSub, Int.reduceMul, Nat.reduceLT, Int.reduceLT, Int.reduceLE, Int.reduceToNat, Nat.reduceAdd, Nat.reduceSub, Nat.reduceMul, Nat.reduceLeDiff, reduceCtorEq, e]
      (refine hQ _ _ _ _ _ (by first | exact .inr rfl | exact .inl rfl) rfl (by first | exact FzH.refl _ | exact FzH.sub (by (repeat' (first | exact Sub.refl _ | assumption | (refine Sub.upd ?_ (by first | assumption | (simp only [*]; done) | exact Sub.isNone (by assumption) (by assumption) | exact Sub.isNone (by assumption) (by simp only [*]))))))) (FzL.refl _ _ _) ?_; try (simp only [go_sem, Int.reduceEq, Int.reduceAdd, Int.reduceSub, Int.reduceMul, Nat.reduceLT, Int.reduceLT, Int.reduceLE, Int.reduceToNat, Nat.reduceAdd, Nat.reduceSub, Nat.reduceMul, Nat.reduceLeDiff, reduceCtorEq, hh e]))
  · simp only [go_sem, Int.reduceEq, Int.reduceAdd, Int.reduceSub, Int.reduceMul, Nat.reduceLT, Int.reduceLT, Int.reduceLE, Int.reduceToNat, Nat.reduceAdd, Nat.reduceSub, Nat.reduceMul, Nat.reduceLeDiff, reduceCtorEq, hd, hlt]
    refine frz_id ?_
    simp only [go_sem, Int.reduceEq, Int.reduceAdd, Int.reduceSub, Int.reduceMul, Nat.reduceLT, Int.reduceLT, Int.reduceLE, Int.reduceToNat, Nat.reduceAdd, Nat.reduceSub, Nat.reduceMul, Nat.reduceLeDiff, reduceCtorEq]
    refine hQ _ _ _ _ _ (by first | exact .inr rfl | exact .inl rfl) rfl (by first | exact FzH.refl _ | exact FzH.sub (by (repeat' (first | exact Sub.refl _ | assumption | (refine Sub.upd ?_ (by first | assumption | (simp only [*]; done) | exact Sub.isNone (by assumption) (by assumption) | exact Sub.isNone (by assumption) (by simp only [*]))))))) (FzL.refl _ _ _) ?_
    rw [List.take_of_length_le (by omega)] at hall
    simp only [go_sem, Int.reduceEq, Int.reduceAdd, Int.reduceSub, Int.reduceMul, Nat.reduceLT, Int.reduceLT, Int.reduceLE, Int.reduceToNat, Nat.reduceAdd, Nat.reduceSub, Nat.reduceMul, Nat.reduceLeDiff, reduceCtorEq, idx_none hall]

theorem idx_allN {f : Tb} (ok : tbOk f) (n : Int) : (alook f n = none ∧ idxP (fun e => decide (e.node = n)) (allN f) = -1) ∨ ∃ i, ∃ hi : i < (allN f).length, (allN f)[i].node = n ∧ alook f n = some (allN f)[i] ∧ idxP (fun e => decide (e.node = n)) (allN f) = (i : Int) := by
  rcases look_idx ok n with ⟨h1, h2⟩ | ⟨i, hi, h1, h2⟩
  · exact .inl ⟨h1, idx_none (List.any_eq_false.2 fun x hx => by simpa using h2 x hx)⟩
  · refine .inr ⟨i, hi, h1, h2, idx_hit hi ?_ (decide_eq_true h1)⟩
    rw [List.any_eq_false]
    intro x hx
    obtain ⟨j, hj, rfl⟩ := List.mem_iff_getElem.1 hx
    rw [List.length_take] at hj
    rw [List.getElem_take]
    simp only [decide_eq_true_eq]
    intro e
    have := sort_inj (allN_sort ok) (i := j) (j := i) (by omega) hi (by rw [e, h1])
    omega

theorem upd_self {H : AHeap} {q : Nat} {o : AObj} (h : H q = some o) : upd H q o = H := by
  funext x
  unfold upd
  split
  · rename_i e; rw [e, h]
  · rfl

/-- A list that one built is laid into the table. -/
theorem still_dT {H h2 : AHeap} {q n : Nat} {v : AV} {cs : List AV} {most kx : AV} {p : AObj} (g : Grow H 5 v cs n h2) (hq : H q = some p) : FzH (upd h2 q (.cells [most, v, kx] 3)) (upd H q (.cells [most, .ro cs n false, kx] 3)) := by
  intro x o hx
  by_cases e : x = q
  · subst e
    rw [upd_same] at hx ⊢
    cases hx
    refine ⟨_, rfl, .cells (.cons (.refl _) (.cons (g.fzd (fun y o h1 h2 => ?_) fun y h1 => ?_) (.cons (.refl _) .nil)))⟩
    · have hy : y ≠ x := fun e => by rw [e, hq] at h1; cases h1
      rw [upd_ne hy]; exact h2
    · have hy : y ≠ x := fun e => by rw [e, hq] at h1; cases h1
      rw [upd_ne hy]; exact h1
  · rw [upd_ne e] at hx ⊢
    exact ⟨o, g.keep hx, .refl _⟩

theorem rdrop_spec {q : Nat} {most : Int} {f : Tb} {K : List Int} {H : AHeap} (ok : tbOk f) (hd : H q = some (dT most (allN f) K)) (hn : f.length ≤ 1000) (n : Int) :
    CallsA Try.prog 64 [.ptr q 0, .int .i64 n] H (fun r H' => r = .bool (alook f n).isSome ∧ H' = upd H q (dT most (allN (adel f n)) K)) := by
  have hal : (allN f).length = f.length := allN_len f
  have hdc := hd
  unfold dT at hdc
  (refine CallsA.enterR (ac := c64) (rs := r64) Try.func64 rfl (by decide) c64_ok r64_ok ?_; intro Q hQ; simp only [go_sem, Int.reduceEq, Int.reduceAdd, Int.reduceSub, Int.reduceMul, Nat.reduceLT, Int.reduceLT, Int.reduceLE, Int.reduceToNat, Nat.reduceAdd, Nat.reduceSub, Nat.reduceMul, Nat.reduceLeDiff, reduceCtorEq, c64, Try.ntmps64])
  refine (rfind_spec hd (by omega) n).use ?_
  rcases idx_allN ok n with ⟨h1, h2⟩ | ⟨i, hi, h1, h2, h3⟩
  · have hdel : adel f n = f := by
      refine adel_eq (by
        have := alook_none.1 h1
        exact this)
    rw [h1, hdel] at hQ
    simp only [go_sem, Int.reduceEq, Int.reduceAdd, Int.reduceSub, Int.reduceMul, Nat.reduceLT, Int.reduceLT, Int.reduceLE, Int.reduceToNat, Nat.reduceAdd, Nat.reduceSub, Nat.reduceMul, Nat.reduceLeDiff, reduceCtorEq, h2]
    refine hQ _ _ _ _ H _ (.inr rfl) rfl (FzH.refl _) (FzL.refl _ _ _) ⟨rfl, (upd_self hd).symm⟩
  · have hdr := dropD_allN ok n
    have hda := dropD_at (allN_sort ok) hi
    rw [h1, hdr] at hda
    rw [h2, hda] at hQ
    have haddi := wadd1 (k := i) (by omega)
    have s1 := sl_hi (ex := false) (k1 := .i64) encE_len (l := allN f) (b := i) (by omega)
    have s2 := sl_lo (ex := false) (k1 := .i64) encE_len (l := allN f) (a := i + 1) (by omega)
    generalize allN f = L at *
    have hneg : ¬ ((i : Int) < 0) := by omega
    simp only [go_sem, Int.reduceEq, Int.reduceAdd, Int.reduceSub, Int.reduceMul, Nat.reduceLT, Int.reduceLT, Int.reduceLE, Int.reduceToNat, Nat.reduceAdd, Nat.reduceSub, Nat.reduceMul, Nat.reduceLeDiff, reduceCtorEq, h3, hneg, hdc, haddi, s1, s2]
    refine (Grow.lit (h0 := H) (esz := 5) (cs := []) (n := 0) rfl rfl).addN (b := 40) (m := (L.take i).length) (by rw [cat_len encE_len]) (cat_sca encE_sca _) (by rw [List.length_take]; omega) fun v1 h1' g1 => ?_
    simp only [go_sem, Int.reduceEq, Int.reduceAdd, Int.reduceSub, Int.reduceMul, Nat.reduceLT, Int.reduceLT, Int.reduceLE, Int.reduceToNat, Nat.reduceAdd, Nat.reduceSub, Nat.reduceMul, Nat.reduceLeDiff, reduceCtorEq, g1.keep hdc]
    refine g1.addN (b := 40) (m := (L.drop (i + 1)).length) (by rw [cat_len encE_len]) (cat_sca encE_sca _) (by rw [List.length_take, List.length_drop]; omega) fun v2 h2' g2 => ?_
    have eo : [] ++ cat encE (L.take i) ++ cat encE (L.drop (i + 1)) = cat encE (L.take i ++ L.drop (i + 1)) := by rw [cat_append, List.nil_append]
    have en : 0 + (L.take i).length + (L.drop (i + 1)).length = (L.take i ++ L.drop (i + 1)).length := by rw [List.length_append]; omega
    rw [eo, en] at g2
    have hb := g2.box
    simp only [go_sem, Int.reduceEq, Int.reduceAdd, Int.reduceSub, Int.reduceMul, Nat.reduceLT, Int.reduceLT, Int.reduceLE, Int.reduceToNat, Nat.reduceAdd, Nat.reduceSub, Nat.reduceMul, Nat.reduceLeDiff, reduceCtorEq, g2.keep hdc, g1.keep hdc, hb.1, hb.2]
    refine hQ _ _ _ _ (upd H q (dT most (L.take i ++ L.drop (i + 1)) K)) _ (.inr rfl) rfl (still_dT g2 hd) (FzL.refl _ _ _) ⟨rfl, rfl⟩

end Go.Proofs.Ytaeppifdbcoipaa
