/-
  The bag: contracts.
-/
import Derived.Test.YtfgapneenpdnoaaBi
namespace Go.Proofs.Ytfgapneenpdnoaa
open Go E
set_option linter.unusedVariables false
set_option linter.unusedSimpArgs false
set_option maxRecDepth 100000

theorem intF_idx (p : Int → Bool) (l : List (Int)) (ex : Bool) (f : FuncId) (caps : List AV) (h : AHeap) (hn : l.length ≤ 4611686018427387904) (hp : ∀ x ∈ l, PureA Try.prog f ((.int .i64 x) :: caps) h (.bool (p x))) :
    PureA Try.prog 85 [.ro (cat i1 l) l.length ex, .fn f caps] h (.int .i64 (idxP p l)) := by
  (refine PureA.enter (ac := c85) (rs := r85) Try.func85 rfl (by decide) c85_ok r85_ok ?_; intro Q hQ; simp only [go_sem, Int.reduceEq, Int.reduceAdd, Int.reduceSub, Int.reduceMul, Nat.reduceLT, Int.reduceLT, Int.reduceLE, Int.reduceToNat, Nat.reduceAdd, Nat.reduceSub, Nat.reduceMul, Nat.reduceLeDiff, reduceCtorEq, c85, Try.ntmps85])
  refine loop_range d85_0 (l.length) (fun k s => s.set 8 (.int .i64 k)) (fun k h' => ((l.take k).any p = false) ∧ h' = h) ?_ ⟨rfl, rfl⟩ ?_
  · (simp only [go_sem, Int.reduceEq, Int.reduceAdd, Int.reduceSub, Int.reduceMul, Nat.reduceLT, Int.reduceLT, Int.reduceLE, Int.reduceToNat, Nat.reduceAdd, Nat.reduceSub, Nat.reduceMul, Nat.reduceLeDiff, reduceCtorEq, d85_0] <;> rfl)
  rintro N k h' hk ⟨hall, rfl⟩ hN
  simp only [go_sem, Int.reduceEq, Int.reduceAdd, Int.reduceSub, Int.reduceMul, Nat.reduceLT, Int.reduceLT, Int.reduceLE, Int.reduceToNat, Nat.reduceAdd, Nat.reduceSub, Nat.reduceMul, Nat.reduceLeDiff, reduceCtorEq, d85_0]
  have hadd := wadd1 (k := k) (by omega)
  by_cases hlt : k < l.length
  · have ht := take_any hlt hall
    have hh := idx_hit hlt hall
    have hm := hp _ (List.getElem_mem hlt)
    simp only [go_sem, Int.reduceEq, Int.reduceAdd, Int.reduceSub, Int.reduceMul, Nat.reduceLT, Int.reduceLT, Int.reduceLE, Int.reduceToNat, Nat.reduceAdd, Nat.reduceSub, Nat.reduceMul, Nat.reduceLeDiff, reduceCtorEq, hlt, hadd, rdI hlt]
    refine hm.use ?_
    repeat' (first | (intro _ hf_; (try simp only [upd_none] at hf_); (try simp only [go_sem, Int.reduceEq, Int.reduceAdd, Int.reduceSub, Int.reduceMul, Nat.reduceLT, Int.reduceLT, Int.reduceLE, Int.reduceToNat, Nat.reduceAdd, Nat.reduceSub, Nat.reduceMul, Nat.reduceLeDiff, reduceCtorEq, upd_ne, ne_eq, not_false_eq_true, *])) | (refine guard_split (fun hb_ => ?_) (fun hb_ => ?_) <;> (try simp only [decide_eq_true_eq, decide_eq_false_iff_not, Bool.not_eq_true', Bool.not_eq_false'] at hb_) <;> (try simp only [go_sem, Int.reduceEq, Int.reduceAdd, Int.reduceSub, Int.reduceMul, Nat.reduceLT, Int.reduceLT, Int.reduceLE, Int.reduceToNat, Nat.reduceAdd, Nat.reduceSub, Nat.reduceMul, Nat.reduceLeDiff, reduceCtorEq, upd_ne, ne_eq, not_false_eq_true, *])) | (refine cond_split (fun hb_ => ?_) (fun hb_ => ?_) <;> (try simp only [decide_eq_true_eq, decide_eq_false_iff_not, Bool.not_eq_true', Bool.not_eq_false'] at hb_) <;> (try simp only [go_sem, Int.reduceEq, Int.reduceAdd, Int.reduceSub, Int.reduceMul, Nat.reduceLT, Int.reduceLT, Int.reduceLE, Int.reduceToNat, Nat.reduceAdd, Nat.reduceSub, Nat.reduceMul, Nat.reduceLeDiff, reduceCtorEq, upd_ne, ne_eq, not_false_eq_true, *])) | (refine readG_split (fun hb_ => ?_) (fun hb_ => ?_) <;> (try simp only [decide_eq_true_eq, decide_eq_false_iff_not, Bool.not_eq_true', Bool.not_eq_false'] at hb_) <;> (try simp only [go_sem, Int.reduceEq, Int.reduceAdd, Int.reduceSub, Int.reduceMul, Nat.reduceLT, Int.reduceLT, Int.reduceLE, Int.reduceToNat, Nat.reduceAdd, Nat.reduceSub, Nat.reduceMul, Nat.reduceLeDiff, reduceCtorEq, upd_ne, ne_eq, not_false_eq_true, *])) | (refine frz_id ?_ <;> (try simp only [go_sem, Int.reduceEq, Int.reduceAdd, Int.reduceSub, Int.reduceMul, Nat.reduceLT, Int.reduceLT, Int.reduceLE, Int.reduceToNat, Nat.reduceAdd, Nat.reduceSub, Nat.reduceMul, Nat.reduceLeDiff, reduceCtorEq, upd_ne, ne_eq, not_false_eq_true, *])))
    · refine hQ _ _ _ _ _ (by first | exact .inr rfl | exact .inl rfl) rfl (by first | exact FzH.refl _ | exact FzH.sub (by (repeat' (first | exact Sub.refl _ | assumption | (refine Sub.upd ?_ (by first | assumption | (simp only [*]; done) | exact Sub.isNone (by assumption) (by assumption) | exact Sub.isNone (by assumption) (by simp only [*]))))))) (FzL.refl _ _ _) ?_
      simp only [go_sem, Int.reduceEq, Int.reduceAdd, Int.reduceSub, Int.reduceMul, Nat.reduceLT, Int.reduceLT, Int.reduceLE, Int.reduceToNat, Nat.reduceAdd, Nat.reduceSub, Nat.reduceMul, Nat.reduceLeDiff, reduceCtorEq, hh (by assumption)]
    · (refine hN _ _ hlt ?_ ⟨?_, rfl⟩; (simp only [go_sem, Int.reduceEq, Int.reduceAdd, Int.reduceSub, Int.reduceMul, Nat.reduceLT, Int.reduceLT, Int.reduceLE, Int.reduceToNat, Nat.reduceAdd, Nat.reduceSub, Nat.reduceMul, Nat.reduceLeDiff, reduceCtorEq, d85_0]))
      rw [ht]; assumption
  · (simp only [go_sem, Int.reduceEq, Int.reduceAdd, Int.reduceSub, Int.reduceMul, Nat.reduceLT, Int.reduceLT, Int.reduceLE, Int.reduceToNat, Nat.reduceAdd, Nat.reduceSub, Nat.reduceMul, Nat.reduceLeDiff, reduceCtorEq, hlt]; refine frz_id ?_; simp only [go_sem, Int.reduceEq, Int.reduceAdd, Int.reduceSub, Int.reduceMul, Nat.reduceLT, Int.reduceLT, Int.reduceLE, Int.reduceToNat, Nat.reduceAdd, Nat.reduceSub, Nat.reduceMul, Nat.reduceLeDiff, reduceCtorEq])
    refine hQ _ _ _ _ _ (by first | exact .inr rfl | exact .inl rfl) rfl (by first | exact FzH.refl _ | exact FzH.sub (by (repeat' (first | exact Sub.refl _ | assumption | (refine Sub.upd ?_ (by first | assumption | (simp only [*]; done) | exact Sub.isNone (by assumption) (by assumption) | exact Sub.isNone (by assumption) (by simp only [*]))))))) (FzL.refl _ _ _) ?_
    rw [List.take_of_length_le (by omega)] at hall
    simp only [go_sem, Int.reduceEq, Int.reduceAdd, Int.reduceSub, Int.reduceMul, Nat.reduceLT, Int.reduceLT, Int.reduceLE, Int.reduceToNat, Nat.reduceAdd, Nat.reduceSub, Nat.reduceMul, Nat.reduceLeDiff, reduceCtorEq, idx_none hall]

theorem intF_any (p : Int → Bool) (l : List (Int)) (ex : Bool) (f : FuncId) (caps : List AV) (h : AHeap) (hn : l.length ≤ 4611686018427387904) (hp : ∀ x ∈ l, PureA Try.prog f ((.int .i64 x) :: caps) h (.bool (p x))) :
    PureA Try.prog 72 [.ro (cat i1 l) l.length ex, .fn f caps] h (.bool (l.any p)) := by
  (refine PureA.enter (ac := c72) (rs := r72) Try.func72 rfl (by decide) c72_ok r72_ok ?_; intro Q hQ; simp only [go_sem, Int.reduceEq, Int.reduceAdd, Int.reduceSub, Int.reduceMul, Nat.reduceLT, Int.reduceLT, Int.reduceLE, Int.reduceToNat, Nat.reduceAdd, Nat.reduceSub, Nat.reduceMul, Nat.reduceLeDiff, reduceCtorEq, c72, Try.ntmps72])
  refine (intF_idx p l ex f caps h hn hp).use ?_
  simp only [go_sem, Int.reduceEq, Int.reduceAdd, Int.reduceSub, Int.reduceMul, Nat.reduceLT, Int.reduceLT, Int.reduceLE, Int.reduceToNat, Nat.reduceAdd, Nat.reduceSub, Nat.reduceMul, Nat.reduceLeDiff, reduceCtorEq]
  refine hQ _ _ _ _ _ (by first | exact .inr rfl | exact .inl rfl) rfl (by first | exact FzH.refl _ | exact FzH.sub (by (repeat' (first | exact Sub.refl _ | assumption | (refine Sub.upd ?_ (by first | assumption | (simp only [*]; done) | exact Sub.isNone (by assumption) (by assumption) | exact Sub.isNone (by assumption) (by simp only [*]))))))) (FzL.refl _ _ _) ?_
  simp only [go_sem, Int.reduceEq, Int.reduceAdd, Int.reduceSub, Int.reduceMul, Nat.reduceLT, Int.reduceLT, Int.reduceLE, Int.reduceToNat, Nat.reduceAdd, Nat.reduceSub, Nat.reduceMul, Nat.reduceLeDiff, reduceCtorEq, idxP_any]


/-- slices.Clone of bytes. -/
theorem bclone_own (bs : List Int) (ex : Bool) (h : AHeap) (hn : bs.length ≤ 1000000) : CallsA Try.prog 71 [.ro (cat b1 bs) bs.length ex] h fun r h' => Grow h 1 r (cat b1 bs) bs.length h' := by
  cases bs with
  | nil =>
    refine CallsA.nils (pre := []) ?_ ?_
    · (refine CallsA.enterR (ac := c71) (rs := r71) Try.func71 rfl (by decide) c71_ok r71_ok ?_; intro Q hQ; simp only [go_sem, Int.reduceEq, Int.reduceAdd, Int.reduceSub, Int.reduceMul, Nat.reduceLT, Int.reduceLT, Int.reduceLE, Int.reduceToNat, Nat.reduceAdd, Nat.reduceSub, Nat.reduceMul, Nat.reduceLeDiff, reduceCtorEq, c71, Try.ntmps71])
      exact hQ _ _ _ _ _ [_] (.inr rfl) rfl (.refl _) (.cons (.refl _) .nil) Grow.nil
    · (refine CallsA.enterR (ac := c71) (rs := r71) Try.func71 rfl (by decide) c71_ok r71_ok ?_; intro Q hQ; simp only [go_sem, Int.reduceEq, Int.reduceAdd, Int.reduceSub, Int.reduceMul, Nat.reduceLT, Int.reduceLT, Int.reduceLE, Int.reduceToNat, Nat.reduceAdd, Nat.reduceSub, Nat.reduceMul, Nat.reduceLeDiff, reduceCtorEq, c71, Try.ntmps71])
      refine (Grow.lit (by simp) (by simp)).append (y := .rz) (ys := []) (m := 0) rfl rfl (by simp) rfl (by simp) fun v' h' g => ?_
      simp only [go_sem, Int.reduceEq, Int.reduceAdd, Int.reduceSub, Int.reduceMul, Nat.reduceLT, Int.reduceLT, Int.reduceLE, Int.reduceToNat, Nat.reduceAdd, Nat.reduceSub, Nat.reduceMul, Nat.reduceLeDiff, reduceCtorEq]
      exact hQ _ _ _ _ _ [_] (.inr rfl) rfl (.refl _) (.cons (.refl _) .nil) g
  | cons b bs =>
    (refine CallsA.enterR (ac := c71) (rs := r71) Try.func71 rfl (by decide) c71_ok r71_ok ?_; intro Q hQ; simp only [go_sem, Int.reduceEq, Int.reduceAdd, Int.reduceSub, Int.reduceMul, Nat.reduceLT, Int.reduceLT, Int.reduceLE, Int.reduceToNat, Nat.reduceAdd, Nat.reduceSub, Nat.reduceMul, Nat.reduceLeDiff, reduceCtorEq, c71, Try.ntmps71, List.length_cons])
    refine (Grow.lit (by simp) (by simp)).addN (by rw [cat_len b1_len]; simp) (cat_sca b1_sca _) (by simp at hn ⊢; omega) fun v' h' g => ?_
    simp only [go_sem, Int.reduceEq, Int.reduceAdd, Int.reduceSub, Int.reduceMul, Nat.reduceLT, Int.reduceLT, Int.reduceLE, Int.reduceToNat, Nat.reduceAdd, Nat.reduceSub, Nat.reduceMul, Nat.reduceLeDiff, reduceCtorEq]
    exact hQ _ _ _ _ _ [_] (.inr rfl) rfl (.refl _) (.cons (.refl _) .nil) (by simpa [tupA] using g)

theorem bclone_spec (bs : List Int) (ex : Bool) (h : AHeap) (hn : bs.length ≤ 1000000) : PureA Try.prog 71 [.ro (cat b1 bs) bs.length ex] h (.ro (cat b1 bs) bs.length false) := Grow.pure (bclone_own bs ex h hn)

theorem bcopied_spec (x : Fl) (h : AHeap) (hn : x.b.length ≤ 1000000) : PureA Try.prog 45 [.agg (encF x)] h (.agg (encF x)) := by
  (refine PureA.enter (ac := c45) (rs := r45) Try.func45 rfl (by decide) c45_ok r45_ok ?_; intro Q hQ; simp only [go_sem, Int.reduceEq, Int.reduceAdd, Int.reduceSub, Int.reduceMul, Nat.reduceLT, Int.reduceLT, Int.reduceLE, Int.reduceToNat, Nat.reduceAdd, Nat.reduceSub, Nat.reduceMul, Nat.reduceLeDiff, reduceCtorEq, c45, Try.ntmps45, encF])
  intro p hp q hq
  have hne : p ≠ q := by rintro rfl; rw [upd_same] at hq; cases hq
  have hp0 := hp
  simp only [go_sem, Int.reduceEq, Int.reduceAdd, Int.reduceSub, Int.reduceMul, Nat.reduceLT, Int.reduceLT, Int.reduceLE, Int.reduceToNat, Nat.reduceAdd, Nat.reduceSub, Nat.reduceMul, Nat.reduceLeDiff, reduceCtorEq, upd_ne hne]
  refine (bclone_spec x.b false _ hn).use ?_
  simp only [go_sem, Int.reduceEq, Int.reduceAdd, Int.reduceSub, Int.reduceMul, Nat.reduceLT, Int.reduceLT, Int.reduceLE, Int.reduceToNat, Nat.reduceAdd, Nat.reduceSub, Nat.reduceMul, Nat.reduceLeDiff, reduceCtorEq, upd_ne hne, upd_ne hne.symm]
  have hq0 : h q = none := by rw [upd_ne hne.symm] at hq; exact hq
  refine hQ _ _ _ _ _ (.inr rfl) (by first | rfl | (simp only [go_sem, Int.reduceEq, Int.reduceAdd, Int.reduceSub, Int.reduceMul, Nat.reduceLT, Int.reduceLT, Int.reduceLE, Int.reduceToNat, Nat.reduceAdd, Nat.reduceSub, Nat.reduceMul, Nat.reduceLeDiff, reduceCtorEq, r45, upd_ne hne, upd_ne hne.symm]; rfl) | simp only [go_sem, Int.reduceEq, Int.reduceAdd, Int.reduceSub, Int.reduceMul, Nat.reduceLT, Int.reduceLT, Int.reduceLE, Int.reduceToNat, Nat.reduceAdd, Nat.reduceSub, Nat.reduceMul, Nat.reduceLeDiff, reduceCtorEq, r45, upd_ne hne, upd_ne hne.symm]) (FzH.sub fun x o e => ?_) (FzL.refl _ _ _) rfl
  have x1 : x ≠ q := by rintro rfl; rw [hq0] at e; cases e
  have x2 : x ≠ p := by rintro rfl; rw [hp] at e; cases e
  rw [del_ne x1, upd_ne x2, upd_ne x1, upd_ne x2]; exact e

def nodeB (n : Int) : Bool := decide (0 ≤ n ∧ n < 64)
theorem bnode_spec (n : Int) (h : AHeap) : PureA Try.prog 70 [.int .i64 n] h (.bool (nodeB n)) := by
  (refine PureA.enter (ac := c70) (rs := r70) Try.func70 rfl (by decide) c70_ok r70_ok ?_; intro Q hQ; simp only [go_sem, Int.reduceEq, Int.reduceAdd, Int.reduceSub, Int.reduceMul, Nat.reduceLT, Int.reduceLT, Int.reduceLE, Int.reduceToNat, Nat.reduceAdd, Nat.reduceSub, Nat.reduceMul, Nat.reduceLeDiff, reduceCtorEq, c70, Try.ntmps70])
  by_cases g1 : 0 ≤ n
  · have e : nodeB n = decide (n < 64) := by unfold nodeB; congr 1; exact propext ⟨fun h => h.2, fun h => ⟨g1, h⟩⟩
    simp only [go_sem, Int.reduceEq, Int.reduceAdd, Int.reduceSub, Int.reduceMul, Nat.reduceLT, Int.reduceLT, Int.reduceLE, Int.reduceToNat, Nat.reduceAdd, Nat.reduceSub, Nat.reduceMul, Nat.reduceLeDiff, reduceCtorEq, g1]
    (refine hQ _ _ _ _ _ (by first | exact .inr rfl | exact .inl rfl) rfl (by first | exact FzH.refl _ | exact FzH.sub (by (repeat' (first | exact Sub.refl _ | assumption | (refine Sub.upd ?_ (by first | assumption | (simp only [*]; done) | exact Sub.isNone (by assumption) (by assumption) | exact Sub.isNone (by assumption) (by simp only [*]))))))) (FzL.refl _ _ _) ?_; try (simp only [go_sem, Int.reduceEq, Int.reduceAdd, Int.reduceSub, Int.reduceMul, Nat.reduceLT, Int.reduceLT, Int.reduceLE, Int.reduceToNat, Nat.reduceAdd, Nat.reduceSub, Nat.reduceMul, Nat.reduceLeDiff, reduceCtorEq, e]))
  · have e : nodeB n = false := by unfold nodeB; exact decide_eq_false (by omega)
    simp only [go_sem, Int.reduceEq, Int.reduceAdd, Int.reduceSub, Int.reduceMul, Nat.reduceLT, Int.reduceLT, Int.reduceLE, Int.reduceToNat, Nat.reduceAdd, Nat.reduceSub, Nat.reduceMul, Nat.reduceLeDiff, reduceCtorEq, g1]
    (refine hQ _ _ _ _ _ (by first | exact .inr rfl | exact .inl rfl) rfl (by first | exact FzH.refl _ | exact FzH.sub (by (repeat' (first | exact Sub.refl _ | assumption | (refine Sub.upd ?_ (by first | assumption | (simp only [*]; done) | exact Sub.isNone (by assumption) (by assumption) | exact Sub.isNone (by assumption) (by simp only [*]))))))) (FzL.refl _ _ _) ?_; try (simp only [go_sem, Int.reduceEq, Int.reduceAdd, Int.reduceSub, Int.reduceMul, Nat.reduceLT, Int.reduceLT, Int.reduceLE, Int.reduceToNat, Nat.reduceAdd, Nat.reduceSub, Nat.reduceMul, Nat.reduceLeDiff, reduceCtorEq, e]))

def chkF (x : Fl) : Int := if nodeB x.src = false ∨ nodeB x.to = false then 1 else if 1280 < x.b.length then 2 else 0

theorem bcheck_spec (x : Fl) (h : AHeap) : PureA Try.prog 43 [.agg (encF x)] h (.int .i64 (chkF x)) := by
  (refine PureA.enter (ac := c43) (rs := r43) Try.func43 rfl (by decide) c43_ok r43_ok ?_; intro Q hQ; simp only [go_sem, Int.reduceEq, Int.reduceAdd, Int.reduceSub, Int.reduceMul, Nat.reduceLT, Int.reduceLT, Int.reduceLE, Int.reduceToNat, Nat.reduceAdd, Nat.reduceSub, Nat.reduceMul, Nat.reduceLeDiff, reduceCtorEq, c43, Try.ntmps43, encF])
  refine (bnode_spec x.src h).use ?_
  cases g1 : nodeB x.src
  · have b : chkF x = 1 := if_pos (.inl g1)
    simp only [go_sem, Int.reduceEq, Int.reduceAdd, Int.reduceSub, Int.reduceMul, Nat.reduceLT, Int.reduceLT, Int.reduceLE, Int.reduceToNat, Nat.reduceAdd, Nat.reduceSub, Nat.reduceMul, Nat.reduceLeDiff, reduceCtorEq]
    (refine hQ _ _ _ _ _ (by first | exact .inr rfl | exact .inl rfl) rfl (by first | exact FzH.refl _ | exact FzH.sub (by (repeat' (first | exact Sub.refl _ | assumption | (refine Sub.upd ?_ (by first | assumption | (simp only [*]; done) | exact Sub.isNone (by assumption) (by assumption) | exact Sub.isNone (by assumption) (by simp only [*]))))))) (FzL.refl _ _ _) ?_; try (simp only [go_sem, Int.reduceEq, Int.reduceAdd, Int.reduceSub, Int.reduceMul, Nat.reduceLT, Int.reduceLT, Int.reduceLE, Int.reduceToNat, Nat.reduceAdd, Nat.reduceSub, Nat.reduceMul, Nat.reduceLeDiff, reduceCtorEq, b]))
  simp only [go_sem, Int.reduceEq, Int.reduceAdd, Int.reduceSub, Int.reduceMul, Nat.reduceLT, Int.reduceLT, Int.reduceLE, Int.reduceToNat, Nat.reduceAdd, Nat.reduceSub, Nat.reduceMul, Nat.reduceLeDiff, reduceCtorEq]
  refine (bnode_spec x.to h).use ?_
  cases g2 : nodeB x.to
  · have b : chkF x = 1 := if_pos (.inr g2)
    simp only [go_sem, Int.reduceEq, Int.reduceAdd, Int.reduceSub, Int.reduceMul, Nat.reduceLT, Int.reduceLT, Int.reduceLE, Int.reduceToNat, Nat.reduceAdd, Nat.reduceSub, Nat.reduceMul, Nat.reduceLeDiff, reduceCtorEq]
    (refine hQ _ _ _ _ _ (by first | exact .inr rfl | exact .inl rfl) rfl (by first | exact FzH.refl _ | exact FzH.sub (by (repeat' (first | exact Sub.refl _ | assumption | (refine Sub.upd ?_ (by first | assumption | (simp only [*]; done) | exact Sub.isNone (by assumption) (by assumption) | exact Sub.isNone (by assumption) (by simp only [*]))))))) (FzL.refl _ _ _) ?_; try (simp only [go_sem, Int.reduceEq, Int.reduceAdd, Int.reduceSub, Int.reduceMul, Nat.reduceLT, Int.reduceLT, Int.reduceLE, Int.reduceToNat, Nat.reduceAdd, Nat.reduceSub, Nat.reduceMul, Nat.reduceLeDiff, reduceCtorEq, b]))
  have b : chkF x = if 1280 < x.b.length then 2 else 0 := if_neg (by simp [g1, g2])
  by_cases g5 : 1280 < x.b.length
  · rw [if_pos g5] at b
    have g5' : decide ((1280 : Int) < (x.b.length : Int)) = true := decide_eq_true (by omega)
    simp only [go_sem, Int.reduceEq, Int.reduceAdd, Int.reduceSub, Int.reduceMul, Nat.reduceLT, Int.reduceLT, Int.reduceLE, Int.reduceToNat, Nat.reduceAdd, Nat.reduceSub, Nat.reduceMul, Nat.reduceLeDiff, reduceCtorEq, g5']
    (refine hQ _ _ _ _ _ (by first | exact .inr rfl | exact .inl rfl) rfl (by first | exact FzH.refl _ | exact FzH.sub (by (repeat' (first | exact Sub.refl _ | assumption | (refine Sub.upd ?_ (by first | assumption | (simp only [*]; done) | exact Sub.isNone (by assumption) (by assumption) | exact Sub.isNone (by assumption) (by simp only [*]))))))) (FzL.refl _ _ _) ?_; try (simp only [go_sem, Int.reduceEq, Int.reduceAdd, Int.reduceSub, Int.reduceMul, Nat.reduceLT, Int.reduceLT, Int.reduceLE, Int.reduceToNat, Nat.reduceAdd, Nat.reduceSub, Nat.reduceMul, Nat.reduceLeDiff, reduceCtorEq, b]))
  · rw [if_neg g5] at b
    have g5' : decide ((1280 : Int) < (x.b.length : Int)) = false := decide_eq_false (by omega)
    simp only [go_sem, Int.reduceEq, Int.reduceAdd, Int.reduceSub, Int.reduceMul, Nat.reduceLT, Int.reduceLT, Int.reduceLE, Int.reduceToNat, Nat.reduceAdd, Nat.reduceSub, Nat.reduceMul, Nat.reduceLeDiff, reduceCtorEq, g5']
    (refine hQ _ _ _ _ _ (by first | exact .inr rfl | exact .inl rfl) rfl (by first | exact FzH.refl _ | exact FzH.sub (by (repeat' (first | exact Sub.refl _ | assumption | (refine Sub.upd ?_ (by first | assumption | (simp only [*]; done) | exact Sub.isNone (by assumption) (by assumption) | exact Sub.isNone (by assumption) (by simp only [*]))))))) (FzL.refl _ _ _) ?_; try (simp only [go_sem, Int.reduceEq, Int.reduceAdd, Int.reduceSub, Int.reduceMul, Nat.reduceLT, Int.reduceLT, Int.reduceLE, Int.reduceToNat, Nat.reduceAdd, Nat.reduceSub, Nat.reduceMul, Nat.reduceLeDiff, reduceCtorEq, b]))

/-- The bag at q; what is outside is h0. -/
def BIn (q : Nat) (n : Int) (l : List Fl) (h0 H : AHeap) : Prop := ∃ v H0, Grow h0 4 v (cat encF l) l.length H0 ∧ Wr v ∧ H0 q = none ∧ H = upd H0 q (.cells [v, .int .i64 n] 2)

theorem BIn.out {q : Nat} {n : Int} {l : List Fl} {h0 H : AHeap} (i : BIn q n l h0 H) : ∃ v, H q = some (.cells [v, .int .i64 n] 2) ∧ Grow (upd h0 q (.cells [v, .int .i64 n] 2)) 4 v (cat encF l) l.length H ∧ Wr v ∧ h0 q = none := by
  obtain ⟨v, H0, g, w, hq, rfl⟩ := i
  exact ⟨v, upd_same, g.more hq, w, g.none hq⟩

theorem BIn.of {q : Nat} {n : Int} {l : List Fl} {h0 H : AHeap} {v : AV} {c : AObj} (hq : h0 q = none) (g : Grow (upd h0 q c) 4 v (cat encF l) l.length H) (w : Wr v) : BIn q n l h0 (upd H q (.cells [v, .int .i64 n] 2)) := by
  obtain ⟨h2, g2, h2q, _, e⟩ := g.unpoke hq
  exact ⟨v, h2, g2, w, h2q, e _⟩

theorem BIn.sub {q : Nat} {n : Int} {l : List Fl} {h0 H : AHeap} (i : BIn q n l h0 H) : Sub h0 H := by
  obtain ⟨v, H0, g, w, hq, rfl⟩ := i
  exact g.sub.upd2 (g.none hq)

theorem BIn.more {q p : Nat} {n : Int} {l : List Fl} {h0 H : AHeap} {c : AObj} (i : BIn q n l h0 H) (hp : H p = none) : BIn q n l (upd h0 p c) (upd H p c) := by
  obtain ⟨v, H0, g, w, hq, rfl⟩ := i
  have hpq : p ≠ q := by rintro rfl; rw [upd_same] at hp; cases hp
  have hp3 : H0 p = none := by rw [upd_ne hpq] at hp; exact hp
  exact ⟨v, upd H0 p c, g.more hp3, w, by rw [upd_ne hpq.symm]; exact hq, upd_comm hpq.symm⟩

theorem BIn.less {q p : Nat} {n : Int} {l : List Fl} {h0 H : AHeap} {c : AObj} (i : BIn q n l (upd h0 p c) H) (hp : h0 p = none) : ∃ H2, BIn q n l h0 H2 ∧ H2 p = none ∧ H p = some c ∧ ∀ o, upd H p o = upd H2 p o := by
  obtain ⟨v, H0, g, w, hq, rfl⟩ := i
  have h1 := g.keep (x := p) upd_same
  have hpq : p ≠ q := by rintro rfl; rw [hq] at h1; cases h1
  obtain ⟨h2, g2, h2p, s, e⟩ := g.unpoke hp
  exact ⟨upd h2 q (.cells [v, .int .i64 n] 2), ⟨v, h2, g2, w, s.isNone hq, rfl⟩, by rw [upd_ne hpq]; exact h2p, by rw [upd_ne hpq]; exact h1, fun o => by rw [upd_comm hpq.symm, e, upd_comm hpq]⟩

theorem BIn.poke {q p : Nat} {n : Int} {l : List Fl} {h0 H : AHeap} {o o' : AObj} (i : BIn q n l h0 H) (hp : h0 p = some o') : BIn q n l (upd h0 p o) (upd H p o) := by
  obtain ⟨v, H0, g, w, hq, rfl⟩ := i
  have hpq : p ≠ q := by rintro rfl; rw [g.keep hp] at hq; cases hq
  exact ⟨v, upd H0 p o, g.poke hp, w, by rw [upd_ne hpq.symm]; exact hq, upd_comm hpq.symm⟩

theorem bnew_spec (n : Int) (h1 : 1 ≤ n) (h2 : n ≤ 512) (h : AHeap) : CallsA Try.prog 12 [.int .i64 n] h (fun r H => ∃ q, r = .tup [.ptr q 0, .int .i64 0] ∧ BIn q n [] h H) := by
  have g1 : ¬ n < 1 := by omega
  have g2 : ¬ 512 < n := by omega
  (refine CallsA.enterR (ac := c12) (rs := r12) Try.func12 rfl (by decide) c12_ok r12_ok ?_; intro Q hQ; simp only [go_sem, Int.reduceEq, Int.reduceAdd, Int.reduceSub, Int.reduceMul, Nat.reduceLT, Int.reduceLT, Int.reduceLE, Int.reduceToNat, Nat.reduceAdd, Nat.reduceSub, Nat.reduceMul, Nat.reduceLeDiff, reduceCtorEq, c12, Try.ntmps12])
  simp only [go_sem, Int.reduceEq, Int.reduceAdd, Int.reduceSub, Int.reduceMul, Nat.reduceLT, Int.reduceLT, Int.reduceLE, Int.reduceToNat, Nat.reduceAdd, Nat.reduceSub, Nat.reduceMul, Nat.reduceLeDiff, reduceCtorEq, g1, g2]
  intro q hq
  refine hQ _ _ _ _ _ _ (.inr rfl) rfl (FzH.refl _) (FzL.refl _ _ _) ⟨q, rfl, .nils, h, Grow.nil, Wr.nils, hq, rfl⟩

theorem bLen_spec {q : Nat} {n : Int} {l : List Fl} {h0 H : AHeap} (i : BIn q n l h0 H) : PureA Try.prog 19 [.ptr q 0] H (.int .i64 (l.length : Int)) := by
  obtain ⟨v, blk, g, w, hq⟩ := i.out
  have hlen := g.len
  (refine PureA.enter (ac := c19) (rs := r19) Try.func19 rfl (by decide) c19_ok r19_ok ?_; intro Q hQ; simp only [go_sem, Int.reduceEq, Int.reduceAdd, Int.reduceSub, Int.reduceMul, Nat.reduceLT, Int.reduceLT, Int.reduceLE, Int.reduceToNat, Nat.reduceAdd, Nat.reduceSub, Nat.reduceMul, Nat.reduceLeDiff, reduceCtorEq, c19, Try.ntmps19, blk, hlen])
  (refine hQ _ _ _ _ _ (by first | exact .inr rfl | exact .inl rfl) rfl (by first | exact FzH.refl _ | exact FzH.sub (by (repeat' (first | exact Sub.refl _ | assumption | (refine Sub.upd ?_ (by first | assumption | (simp only [*]; done) | exact Sub.isNone (by assumption) (by assumption) | exact Sub.isNone (by assumption) (by simp only [*]))))))) (FzL.refl _ _ _) ?_; try (simp only [go_sem, Int.reduceEq, Int.reduceAdd, Int.reduceSub, Int.reduceMul, Nat.reduceLT, Int.reduceLT, Int.reduceLE, Int.reduceToNat, Nat.reduceAdd, Nat.reduceSub, Nat.reduceMul, Nat.reduceLeDiff, reduceCtorEq]))

theorem bfull_spec {q : Nat} {n : Int} {l : List Fl} {h0 H : AHeap} (i : BIn q n l h0 H) : PureA Try.prog 44 [.ptr q 0] H (.bool (decide (n ≤ (l.length : Int)))) := by
  obtain ⟨v, blk, g, w, hq⟩ := i.out
  have hlen := g.len
  (refine PureA.enter (ac := c44) (rs := r44) Try.func44 rfl (by decide) c44_ok r44_ok ?_; intro Q hQ; simp only [go_sem, Int.reduceEq, Int.reduceAdd, Int.reduceSub, Int.reduceMul, Nat.reduceLT, Int.reduceLT, Int.reduceLE, Int.reduceToNat, Nat.reduceAdd, Nat.reduceSub, Nat.reduceMul, Nat.reduceLeDiff, reduceCtorEq, c44, Try.ntmps44, blk, hlen])
  (refine hQ _ _ _ _ _ (by first | exact .inr rfl | exact .inl rfl) rfl (by first | exact FzH.refl _ | exact FzH.sub (by (repeat' (first | exact Sub.refl _ | assumption | (refine Sub.upd ?_ (by first | assumption | (simp only [*]; done) | exact Sub.isNone (by assumption) (by assumption) | exact Sub.isNone (by assumption) (by simp only [*]))))))) (FzL.refl _ _ _) ?_; try (simp only [go_sem, Int.reduceEq, Int.reduceAdd, Int.reduceSub, Int.reduceMul, Nat.reduceLT, Int.reduceLT, Int.reduceLE, Int.reduceToNat, Nat.reduceAdd, Nat.reduceSub, Nat.reduceMul, Nat.reduceLeDiff, reduceCtorEq]))

def hasB (len : Nat) (k : Int) : Bool := decide (0 ≤ k ∧ k < (len : Int))

theorem bhas_spec {q : Nat} {n : Int} {l : List Fl} {h0 H : AHeap} (i : BIn q n l h0 H) (k : Int) : PureA Try.prog 74 [.ptr q 0, .int .i64 k] H (.bool (hasB l.length k)) := by
  obtain ⟨v, blk, g, w, hq⟩ := i.out
  have hlen := g.len
  (refine PureA.enter (ac := c74) (rs := r74) Try.func74 rfl (by decide) c74_ok r74_ok ?_; intro Q hQ; simp only [go_sem, Int.reduceEq, Int.reduceAdd, Int.reduceSub, Int.reduceMul, Nat.reduceLT, Int.reduceLT, Int.reduceLE, Int.reduceToNat, Nat.reduceAdd, Nat.reduceSub, Nat.reduceMul, Nat.reduceLeDiff, reduceCtorEq, c74, Try.ntmps74])
  by_cases g1 : 0 ≤ k
  · have e : hasB l.length k = decide (k < (l.length : Int)) := by unfold hasB; congr 1; exact propext ⟨fun h => h.2, fun h => ⟨g1, h⟩⟩
    simp only [go_sem, Int.reduceEq, Int.reduceAdd, Int.reduceSub, Int.reduceMul, Nat.reduceLT, Int.reduceLT, Int.reduceLE, Int.reduceToNat, Nat.reduceAdd, Nat.reduceSub, Nat.reduceMul, Nat.reduceLeDiff, reduceCtorEq, g1, blk, hlen]
    (refine hQ _ _ _ _ _ (by first | exact .inr rfl | exact .inl rfl) rfl (by first | exact FzH.refl _ | exact FzH.sub (by (repeat' (first | exact Sub.refl _ | assumption | (refine Sub.upd ?_ (by first | assumption | (simp only [*]; done) | exact Sub.isNone (by assumption) (by assumption) | exact Sub.isNone (by assumption) (by simp only [*]))))))) (FzL.refl _ _ _) ?_; try (simp only [go_sem, Int.reduceEq, Int.reduceAdd, Int.reduceSub, Int.reduceMul, Nat.reduceLT, Int.reduceLT, Int.reduceLE, Int.reduceToNat, Nat.reduceAdd, Nat.reduceSub, Nat.reduceMul, Nat.reduceLeDiff, reduceCtorEq, e]))
  · have e : hasB l.length k = false := by unfold hasB; exact decide_eq_false (by omega)
    simp only [go_sem, Int.reduceEq, Int.reduceAdd, Int.reduceSub, Int.reduceMul, Nat.reduceLT, Int.reduceLT, Int.reduceLE, Int.reduceToNat, Nat.reduceAdd, Nat.reduceSub, Nat.reduceMul, Nat.reduceLeDiff, reduceCtorEq, g1]
    (refine hQ _ _ _ _ _ (by first | exact .inr rfl | exact .inl rfl) rfl (by first | exact FzH.refl _ | exact FzH.sub (by (repeat' (first | exact Sub.refl _ | assumption | (refine Sub.upd ?_ (by first | assumption | (simp only [*]; done) | exact Sub.isNone (by assumption) (by assumption) | exact Sub.isNone (by assumption) (by simp only [*]))))))) (FzL.refl _ _ _) ?_; try (simp only [go_sem, Int.reduceEq, Int.reduceAdd, Int.reduceSub, Int.reduceMul, Nat.reduceLT, Int.reduceLT, Int.reduceLE, Int.reduceToNat, Nat.reduceAdd, Nat.reduceSub, Nat.reduceMul, Nat.reduceLeDiff, reduceCtorEq, e]))

theorem bat1_spec {q : Nat} {n : Int} {l : List Fl} {h0 H : AHeap} (i : BIn q n l h0 H) (k : Int) : PureA Try.prog 73 [.int .i64 k, .rp [.ptr q 0]] H (.bool (!hasB l.length k)) := by
  (refine PureA.enter (ac := c73) (rs := r73) Try.func73 rfl (by decide) c73_ok r73_ok ?_; intro Q hQ; simp only [go_sem, Int.reduceEq, Int.reduceAdd, Int.reduceSub, Int.reduceMul, Nat.reduceLT, Int.reduceLT, Int.reduceLE, Int.reduceToNat, Nat.reduceAdd, Nat.reduceSub, Nat.reduceMul, Nat.reduceLeDiff, reduceCtorEq, c73, Try.ntmps73])
  refine (bhas_spec i k).use ?_
  simp only [go_sem, Int.reduceEq, Int.reduceAdd, Int.reduceSub, Int.reduceMul, Nat.reduceLT, Int.reduceLT, Int.reduceLE, Int.reduceToNat, Nat.reduceAdd, Nat.reduceSub, Nat.reduceMul, Nat.reduceLeDiff, reduceCtorEq]
  (refine hQ _ _ _ _ _ (by first | exact .inr rfl | exact .inl rfl) rfl (by first | exact FzH.refl _ | exact FzH.sub (by (repeat' (first | exact Sub.refl _ | assumption | (refine Sub.upd ?_ (by first | assumption | (simp only [*]; done) | exact Sub.isNone (by assumption) (by assumption) | exact Sub.isNone (by assumption) (by simp only [*]))))))) (FzL.refl _ _ _) ?_; try (simp only [go_sem, Int.reduceEq, Int.reduceAdd, Int.reduceSub, Int.reduceMul, Nat.reduceLT, Int.reduceLT, Int.reduceLE, Int.reduceToNat, Nat.reduceAdd, Nat.reduceSub, Nat.reduceMul, Nat.reduceLeDiff, reduceCtorEq]))

theorem bat_spec {q : Nat} {n : Int} {l : List Fl} {h0 H : AHeap} (i : BIn q n l h0 H) (ks : List Int) (ex : Bool) (hk : ks.length ≤ 1000) : PureA Try.prog 46 [.ptr q 0, .ro (cat i1 ks) ks.length ex] H (.int .i64 (if ks.any (fun k => !hasB l.length k) then 8 else 0)) := by
  (refine PureA.enter (ac := c46) (rs := r46) Try.func46 rfl (by decide) c46_ok r46_ok ?_; intro Q hQ; simp only [go_sem, Int.reduceEq, Int.reduceAdd, Int.reduceSub, Int.reduceMul, Nat.reduceLT, Int.reduceLT, Int.reduceLE, Int.reduceToNat, Nat.reduceAdd, Nat.reduceSub, Nat.reduceMul, Nat.reduceLeDiff, reduceCtorEq, c46, Try.ntmps46])
  refine (intF_any (fun k => !hasB l.length k) ks ex 73 [.rp [.ptr q 0]] H (by omega) (fun k _ => bat1_spec i k)).use ?_
  cases g : ks.any (fun k => !hasB l.length k)
  · have e : (if ks.any (fun k => !hasB l.length k) = true then (8 : Int) else 0) = 0 := if_neg (by rw [g]; simp)
    simp only [go_sem, Int.reduceEq, Int.reduceAdd, Int.reduceSub, Int.reduceMul, Nat.reduceLT, Int.reduceLT, Int.reduceLE, Int.reduceToNat, Nat.reduceAdd, Nat.reduceSub, Nat.reduceMul, Nat.reduceLeDiff, reduceCtorEq]
    (refine hQ _ _ _ _ _ (by first | exact .inr rfl | exact .inl rfl) rfl (by first | exact FzH.refl _ | exact FzH.sub (by (repeat' (first | exact Sub.refl _ | assumption | (refine Sub.upd ?_ (by first | assumption | (simp only [*]; done) | exact Sub.isNone (by assumption) (by assumption) | exact Sub.isNone (by assumption) (by simp only [*]))))))) (FzL.refl _ _ _) ?_; try (simp only [go_sem, Int.reduceEq, Int.reduceAdd, Int.reduceSub, Int.reduceMul, Nat.reduceLT, Int.reduceLT, Int.reduceLE, Int.reduceToNat, Nat.reduceAdd, Nat.reduceSub, Nat.reduceMul, Nat.reduceLeDiff, reduceCtorEq, e]))
  · have e : (if ks.any (fun k => !hasB l.length k) = true then (8 : Int) else 0) = 8 := if_pos g
    simp only [go_sem, Int.reduceEq, Int.reduceAdd, Int.reduceSub, Int.reduceMul, Nat.reduceLT, Int.reduceLT, Int.reduceLE, Int.reduceToNat, Nat.reduceAdd, Nat.reduceSub, Nat.reduceMul, Nat.reduceLeDiff, reduceCtorEq]
    (refine hQ _ _ _ _ _ (by first | exact .inr rfl | exact .inl rfl) rfl (by first | exact FzH.refl _ | exact FzH.sub (by (repeat' (first | exact Sub.refl _ | assumption | (refine Sub.upd ?_ (by first | assumption | (simp only [*]; done) | exact Sub.isNone (by assumption) (by assumption) | exact Sub.isNone (by assumption) (by simp only [*]))))))) (FzL.refl _ _ _) ?_; try (simp only [go_sem, Int.reduceEq, Int.reduceAdd, Int.reduceSub, Int.reduceMul, Nat.reduceLT, Int.reduceLT, Int.reduceLE, Int.reduceToNat, Nat.reduceAdd, Nat.reduceSub, Nat.reduceMul, Nat.reduceLeDiff, reduceCtorEq, e]))

def cutL (l : List Fl) (i : Nat) : List Fl := l.take i ++ l.drop (i + 1)

theorem cut_append {l : List Fl} {v : AV} {B H : AHeap} (gr : Grow B 4 v (cat encF l) l.length H) (hw : Wr v) (i : Nat) (hi : i < l.length) (hn : l.length ≤ 100000) :
    ∃ x y, sliceA 4 v none (some (.int .i64 (i : Int))) (some (.int .i64 (i : Int))) = some x ∧ sliceA 4 v (some (.int .i64 ((i + 1 : Nat) : Int))) none none = some y ∧
    ∀ K : AV → AHeap → Prop, (∀ v' H', Grow B 4 v' (cat encF (cutL l i)) (cutL l i).length H' → Wr v' → K v' H') → appendA H 4 48 x y K := by
  rcases gr.how with ⟨rfl, hl, rfl⟩ | ⟨rfl, _⟩ | ⟨id, cap, junk, tot, rfl, hcap, hT, hid, rfl⟩
  · omega
  · exact absurd rfl (hw _ _ _)
  have hcl := cat_len (enc := encF) encF_len
  have hti : (l.take i).length = i := by rw [List.length_take]; omega
  have hdi : (l.drop (i + 1)).length = l.length - (i + 1) := List.length_drop
  have hA : (cat encF (l.take i)).length = i * 4 := by rw [hcl, hti]
  have hD : (cat encF (l.drop (i + 1))).length = (l.length - (i + 1)) * 4 := by rw [hcl, hdi]
  have sx : sliceA 4 (.sl id 0 l.length cap) none (some (.int .i64 (i : Int))) (some (.int .i64 (i : Int))) = some (.sl id 0 i i) := by
    simp [sliceA, bnd, show i ≤ cap by omega]
  have e0 : cat encF l ++ junk = cat encF (l.take i) ++ (cat encF (l.drop i) ++ junk) := by rw [← List.append_assoc, ← cat_append, List.take_append_drop]
  have hax : acells (upd B id (.cells (cat encF l ++ junk) tot)) 4 (.sl id 0 i i) = some (cat encF (l.take i)) := by
    refine part_at (P := []) (Q := cat encF (l.take i)) (R := cat encF (l.drop i) ++ junk) (by rw [upd_same, e0]; rfl) rfl hA
  have hL : (cutL l i).length = i + (l.length - (i + 1)) := by unfold cutL; rw [List.length_append, hti, hdi]
  have hcc : cat encF (cutL l i) = cat encF (l.take i) ++ cat encF (l.drop (i + 1)) := by unfold cutL; rw [cat_append]
  by_cases hlast : i + 1 = l.length
  · obtain ⟨y, hy, hay, hys⟩ : ∃ y, sliceA 4 (.sl id 0 l.length cap) (some (.int .i64 ((i + 1 : Nat) : Int))) none none = some y ∧ acells (upd B id (.cells (cat encF l ++ junk) tot)) 4 y = some [] ∧ slen y = 0 := by
      by_cases hc : i + 1 < cap
      · refine ⟨_, own_lo hc (by omega) hcap, ?_, by simp [slen]; omega⟩
        rw [show l.length - (i + 1) = 0 by omega]
        exact own_part0 (by rw [List.length_append, hcl]; omega)
      · have : cap = l.length := by omega
        subst this
        rw [hlast]
        exact ⟨_, own_lo0, own_part0 (Nat.zero_le _), by simp [slen]⟩
    refine ⟨_, y, sx, hy, fun K k => ⟨_, _, hax, hay, ?_, fun _ => ?_, fun e => absurd hys e⟩⟩
    · rw [hys]; simp only [slen]; omega
    · have hd0 : l.drop (i + 1) = [] := List.drop_of_length_le (by omega)
      refine k _ _ ⟨by rw [hcl], cat_sca encF_sca _, .inr (.inr ⟨id, i, cat encF (l.drop i) ++ junk, tot, ?_, by omega, by omega, hid, ?_⟩)⟩ Wr.sl
      · rw [hL]; congr 1; omega
      · rw [e0, hcc, hd0]; simp [cat]
  · have hm : l.length - (i + 1) ≠ 0 := by omega
    have hy := own_lo (esz := 4) (id := id) (n := l.length) (cap := cap) (k1 := .i64) (a := i + 1) (by omega) (by omega) hcap
    have hay : acells (upd B id (.cells (cat encF l ++ junk) tot)) 4 (.sl id ((i + 1) * 4) (l.length - (i + 1)) (cap - (i + 1))) = some (cat encF (l.drop (i + 1))) := by
      refine part_at (P := cat encF (l.take (i + 1))) (Q := cat encF (l.drop (i + 1))) (R := junk) (tot := tot) ?_ (by rw [hcl, List.length_take]; omega) hD
      rw [upd_same, ← List.append_assoc, ← cat_append, List.take_append_drop]
    refine ⟨_, _, sx, hy, fun K k => ⟨_, _, hax, hay, by simp only [slen]; omega, fun e => absurd e hm, fun _ => ?_⟩⟩
    refine ⟨_, _, upd_same, by omega, fun hle => absurd hle (by simp only [slen]; omega), fun _ => .inr ?_⟩
    rw [upd_del hid]
    intro id2 cap2 hid2 hcap2
    refine k _ _ ⟨by rw [hcl], cat_sca encF_sca _, .inr (.inr ⟨id2, cap2, [], _, ?_, by rw [hL]; exact hcap2, Nat.le_refl _, hid2, ?_⟩)⟩ Wr.sl
    · rw [hL]; rfl
    · rw [hcc, List.append_nil]

theorem bcut_spec {q : Nat} {n : Int} {l : List Fl} {h0 H : AHeap} (i : BIn q n l h0 H) (hn : l.length ≤ 100000) (k : Nat) (hk : k < l.length) :
    CallsA Try.prog 48 [.ptr q 0, .int .i64 (k : Int)] H (fun r H' => r = .agg (encF l[k]) ∧ BIn q n (cutL l k) h0 H') := by
  obtain ⟨v0, blk0, _, _, _⟩ := i.out
  (refine CallsA.enterR (ac := c48) (rs := r48) Try.func48 rfl (by decide) c48_ok r48_ok ?_; intro Q hQ; simp only [go_sem, Int.reduceEq, Int.reduceAdd, Int.reduceSub, Int.reduceMul, Nat.reduceLT, Int.reduceLT, Int.reduceLE, Int.reduceToNat, Nat.reduceAdd, Nat.reduceSub, Nat.reduceMul, Nat.reduceLeDiff, reduceCtorEq, c48, Try.ntmps48])
  intro p hp
  have hpq : p ≠ q := by rintro rfl; rw [blk0] at hp; cases hp
  have hp0 : h0 p = none := i.sub.isNone hp
  have i1 := BIn.more (c := .cells [.int .i64 0, .int .i64 0, .nils, .bool false] 4) i hp
  obtain ⟨v1, blk1, gr1, w1, hq1⟩ := i1.out
  obtain ⟨sx, sy, e1, e2, app⟩ := cut_append gr1 w1 k hk hn
  have hadd := wadd1 (k := k) (by omega)
  simp only [go_sem, Int.reduceEq, Int.reduceAdd, Int.reduceSub, Int.reduceMul, Nat.reduceLT, Int.reduceLT, Int.reduceLE, Int.reduceToNat, Nat.reduceAdd, Nat.reduceSub, Nat.reduceMul, Nat.reduceLeDiff, reduceCtorEq, blk1]
  refine gr1.at w1 encF_len hk fun id _ hrd => ?_
  simp only [go_sem, Int.reduceEq, Int.reduceAdd, Int.reduceSub, Int.reduceMul, Nat.reduceLT, Int.reduceLT, Int.reduceLE, Int.reduceToNat, Nat.reduceAdd, Nat.reduceSub, Nat.reduceMul, Nat.reduceLeDiff, reduceCtorEq, hrd, encF_len, encF_sca]
  intro p5 hp5
  simp only [go_sem, Int.reduceEq, Int.reduceAdd, Int.reduceSub, Int.reduceMul, Nat.reduceLT, Int.reduceLT, Int.reduceLE, Int.reduceToNat, Nat.reduceAdd, Nat.reduceSub, Nat.reduceMul, Nat.reduceLeDiff, reduceCtorEq, blk1, del_none hp5, del_same, hadd, encF_len, e1, e2]
  refine app _ fun v3 H3 gr3 w3 => ?_
  have hb := gr3.box
  have i3 := BIn.of (q := q) (n := n) (l := cutL l k) hq1 gr3 w3
  obtain ⟨H4, i4, i4p, i4q, e4⟩ := i3.less hp0
  have htk : List.take 4 (encF l[k]) = encF l[k] := rfl
  simp only [go_sem, Int.reduceEq, Int.reduceAdd, Int.reduceSub, Int.reduceMul, Nat.reduceLT, Int.reduceLT, Int.reduceLE, Int.reduceToNat, Nat.reduceAdd, Nat.reduceSub, Nat.reduceMul, Nat.reduceLeDiff, reduceCtorEq, gr3.keep upd_same, hb.1, hb.2, htk, i4q, encF_len, encF_sca, Nat.le_refl]
  have hdel : E.del (upd H3 q (.cells [v3, .int .i64 n] 2)) p = H4 := by
    have e5 := e4 (.cells [] 0)
    funext y
    by_cases hy : y = p
    · subst hy; unfold E.del; rw [if_pos rfl, i4p]
    · have h2 := congrFun e5 y
      rw [upd_ne hy, upd_ne hy] at h2
      rw [del_ne hy]; exact h2
  rw [hdel]
  refine hQ _ _ _ _ _ _ (.inr rfl) (by first | rfl | (simp only [go_sem, Int.reduceEq, Int.reduceAdd, Int.reduceSub, Int.reduceMul, Nat.reduceLT, Int.reduceLT, Int.reduceLE, Int.reduceToNat, Nat.reduceAdd, Nat.reduceSub, Nat.reduceMul, Nat.reduceLeDiff, reduceCtorEq, r48, encF_len, Nat.le_refl, htk]; rfl) | simp only [go_sem, Int.reduceEq, Int.reduceAdd, Int.reduceSub, Int.reduceMul, Nat.reduceLT, Int.reduceLT, Int.reduceLE, Int.reduceToNat, Nat.reduceAdd, Nat.reduceSub, Nat.reduceMul, Nat.reduceLeDiff, reduceCtorEq, r48, encF_len, Nat.le_refl, htk]) (FzH.refl _) (FzL.refl _ _ _) ⟨rfl, i4⟩

theorem bset_spec {q : Nat} {n : Int} {l : List Fl} {h0 H : AHeap} (i : BIn q n l h0 H) (hn : l.length ≤ 100000) (k : Nat) (hk : k ≤ l.length) (x : Fl) :
    CallsA Try.prog 47 [.ptr q 0, .int .i64 (k : Int), .agg (encF x)] H (fun r H' => r = .tup [] ∧ BIn q n (l.take k ++ x :: l.drop k) h0 H') := by
  obtain ⟨v, blk, g, w, hq⟩ := i.out
  (refine CallsA.enterR (ac := c47) (rs := r47) Try.func47 rfl (by decide) c47_ok r47_ok ?_; intro Q hQ; simp only [go_sem, Int.reduceEq, Int.reduceAdd, Int.reduceSub, Int.reduceMul, Nat.reduceLT, Int.reduceLT, Int.reduceLE, Int.reduceToNat, Nat.reduceAdd, Nat.reduceSub, Nat.reduceMul, Nat.reduceLeDiff, reduceCtorEq, c47, Try.ntmps47, blk, encF])
  refine callF_mono (ins_spec l v _ H g w k hk hn x) ?_
  rintro v3 H3 ⟨gr3, w3⟩
  have hb := gr3.box
  have hL : (l.take k ++ x :: l.drop k).length = l.length + 1 := by rw [List.length_append, List.length_cons, List.length_take, List.length_drop]; omega
  rw [← hL] at gr3
  have i3 := BIn.of (q := q) (n := n) (l := l.take k ++ x :: l.drop k) hq gr3 w3
  simp only [go_sem, Int.reduceEq, Int.reduceAdd, Int.reduceSub, Int.reduceMul, Nat.reduceLT, Int.reduceLT, Int.reduceLE, Int.reduceToNat, Nat.reduceAdd, Nat.reduceSub, Nat.reduceMul, Nat.reduceLeDiff, reduceCtorEq, gr3.keep upd_same, hb.1, hb.2]
  refine hQ _ _ _ _ _ _ (.inl rfl) rfl (FzH.refl _) (FzL.refl _ _ _) ⟨rfl, i3⟩

def moveL (l : List Fl) (i to : Nat) (x : Fl) : List Fl := (cutL l i).take to ++ x :: (cutL l i).drop to

theorem cutL_len {l : List Fl} {i : Nat} (h : i < l.length) : (cutL l i).length + 1 = l.length := by
  unfold cutL; rw [List.length_append, List.length_take, List.length_drop]; omega

theorem bMove_bad {q : Nat} {n : Int} {l : List Fl} {h0 H : AHeap} (i : BIn q n l h0 H) (a b : Int) (hb : (hasB l.length a && hasB l.length b) = false) :
    CallsA Try.prog 15 [.ptr q 0, .int .i64 a, .int .i64 b] H (fun r H' => r = .int .i64 8 ∧ H' = H) := by
  have hat := bat_spec i [a, b] true (by simp)
  have e : (if [a, b].any (fun k => !hasB l.length k) = true then (8 : Int) else 0) = 8 := if_pos (by
    simp only [List.any_cons, List.any_nil, Bool.or_false]
    cases h1 : hasB l.length a <;> cases h2 : hasB l.length b <;> simp_all)
  rw [e] at hat
  (refine CallsA.enterR (ac := c15) (rs := r15) Try.func15 rfl (by decide) c15_ok r15_ok ?_; intro Q hQ; simp only [go_sem, Int.reduceEq, Int.reduceAdd, Int.reduceSub, Int.reduceMul, Nat.reduceLT, Int.reduceLT, Int.reduceLE, Int.reduceToNat, Nat.reduceAdd, Nat.reduceSub, Nat.reduceMul, Nat.reduceLeDiff, reduceCtorEq, c15, Try.ntmps15])
  refine (show PureA Try.prog 46 [.ptr q 0, .ro [.int .i64 a, .int .i64 b] 2 true] H _ from hat).use ?_
  simp only [go_sem, Int.reduceEq, Int.reduceAdd, Int.reduceSub, Int.reduceMul, Nat.reduceLT, Int.reduceLT, Int.reduceLE, Int.reduceToNat, Nat.reduceAdd, Nat.reduceSub, Nat.reduceMul, Nat.reduceLeDiff, reduceCtorEq]
  refine hQ _ _ _ _ _ _ (.inr rfl) rfl (FzH.refl _) (FzL.refl _ _ _) ⟨rfl, rfl⟩

theorem bMove_spec {q : Nat} {n : Int} {l : List Fl} {h0 H : AHeap} (i : BIn q n l h0 H) (hn : l.length ≤ 100000) (a b : Nat) (ha : a < l.length) (hb : b < l.length) :
    CallsA Try.prog 15 [.ptr q 0, .int .i64 (a : Int), .int .i64 (b : Int)] H (fun r H' => r = .int .i64 0 ∧ BIn q n (moveL l a b l[a]) h0 H') := by
  have hat := bat_spec i [(a : Int), (b : Int)] true (by simp)
  have e : (if [(a : Int), (b : Int)].any (fun k => !hasB l.length k) = true then (8 : Int) else 0) = 0 := if_neg (by simp [hasB]; omega)
  rw [e] at hat
  have hcl := cutL_len ha
  (refine CallsA.enterR (ac := c15) (rs := r15) Try.func15 rfl (by decide) c15_ok r15_ok ?_; intro Q hQ; simp only [go_sem, Int.reduceEq, Int.reduceAdd, Int.reduceSub, Int.reduceMul, Nat.reduceLT, Int.reduceLT, Int.reduceLE, Int.reduceToNat, Nat.reduceAdd, Nat.reduceSub, Nat.reduceMul, Nat.reduceLeDiff, reduceCtorEq, c15, Try.ntmps15])
  refine (show PureA Try.prog 46 [.ptr q 0, .ro [.int .i64 (a : Int), .int .i64 (b : Int)] 2 true] H _ from hat).use ?_
  simp only [go_sem, Int.reduceEq, Int.reduceAdd, Int.reduceSub, Int.reduceMul, Nat.reduceLT, Int.reduceLT, Int.reduceLE, Int.reduceToNat, Nat.reduceAdd, Nat.reduceSub, Nat.reduceMul, Nat.reduceLeDiff, reduceCtorEq]
  refine (bcut_spec i hn a ha).use ?_
  rintro _ H1 ⟨rfl, i1⟩
  simp only [go_sem, Int.reduceEq, Int.reduceAdd, Int.reduceSub, Int.reduceMul, Nat.reduceLT, Int.reduceLT, Int.reduceLE, Int.reduceToNat, Nat.reduceAdd, Nat.reduceSub, Nat.reduceMul, Nat.reduceLeDiff, reduceCtorEq]
  refine (bset_spec i1 (by omega) b (by omega) l[a]).use ?_
  rintro _ H2 ⟨rfl, i2⟩
  simp only [go_sem, Int.reduceEq, Int.reduceAdd, Int.reduceSub, Int.reduceMul, Nat.reduceLT, Int.reduceLT, Int.reduceLE, Int.reduceToNat, Nat.reduceAdd, Nat.reduceSub, Nat.reduceMul, Nat.reduceLeDiff, reduceCtorEq]
  refine hQ _ _ _ _ _ _ (.inr rfl) rfl (FzH.refl _) (FzL.refl _ _ _) ⟨rfl, i2⟩

theorem bTake_spec {q : Nat} {n : Int} {l : List Fl} {h0 H : AHeap} (i : BIn q n l h0 H) (hn : l.length ≤ 100000) (k : Nat) (hk : k < l.length) :
    CallsA Try.prog 17 [.ptr q 0, .int .i64 (k : Int)] H (fun r H' => r = .tup [.agg (encF l[k]), .int .i64 0] ∧ BIn q n (cutL l k) h0 H') := by
  have e : (if [(k : Int)].any (fun k => !hasB l.length k) = true then (8 : Int) else 0) = 0 := if_neg (by simp [hasB]; omega)
  obtain ⟨v0, blk0, _, _, _⟩ := i.out
  (refine CallsA.enterR (ac := c17) (rs := r17) Try.func17 rfl (by decide) c17_ok r17_ok ?_; intro Q hQ; simp only [go_sem, Int.reduceEq, Int.reduceAdd, Int.reduceSub, Int.reduceMul, Nat.reduceLT, Int.reduceLT, Int.reduceLE, Int.reduceToNat, Nat.reduceAdd, Nat.reduceSub, Nat.reduceMul, Nat.reduceLeDiff, reduceCtorEq, c17, Try.ntmps17])
  intro p hp
  have hpq : p ≠ q := by rintro rfl; rw [blk0] at hp; cases hp
  have hp0 : h0 p = none := i.sub.isNone hp
  have i1 := BIn.more (c := .cells [.int .i64 0, .int .i64 0, .nils, .bool false] 4) i hp
  have hat := bat_spec i1 [(k : Int)] true (by simp)
  rw [e] at hat
  refine (show PureA Try.prog 46 [.ptr q 0, .ro [.int .i64 (k : Int)] 1 true] _ _ from hat).use ?_
  simp only [go_sem, Int.reduceEq, Int.reduceAdd, Int.reduceSub, Int.reduceMul, Nat.reduceLT, Int.reduceLT, Int.reduceLE, Int.reduceToNat, Nat.reduceAdd, Nat.reduceSub, Nat.reduceMul, Nat.reduceLeDiff, reduceCtorEq]
  refine (bcut_spec i1 hn k hk).use ?_
  rintro _ H1 ⟨rfl, i2⟩
  obtain ⟨H4, i4, i4p, i4q, e4⟩ := i2.less hp0
  simp only [go_sem, Int.reduceEq, Int.reduceAdd, Int.reduceSub, Int.reduceMul, Nat.reduceLT, Int.reduceLT, Int.reduceLE, Int.reduceToNat, Nat.reduceAdd, Nat.reduceSub, Nat.reduceMul, Nat.reduceLeDiff, reduceCtorEq, i4q, encF_len, encF_sca, Nat.le_refl]
  rw [e4]
  have htk : List.take 4 (encF l[k]) = encF l[k] := rfl
  refine hQ _ _ _ _ _ _ (.inr rfl) (by first | rfl | (simp only [go_sem, Int.reduceEq, Int.reduceAdd, Int.reduceSub, Int.reduceMul, Nat.reduceLT, Int.reduceLT, Int.reduceLE, Int.reduceToNat, Nat.reduceAdd, Nat.reduceSub, Nat.reduceMul, Nat.reduceLeDiff, reduceCtorEq, r17, encF_len, Nat.le_refl, htk]; rfl) | simp only [go_sem, Int.reduceEq, Int.reduceAdd, Int.reduceSub, Int.reduceMul, Nat.reduceLT, Int.reduceLT, Int.reduceLE, Int.reduceToNat, Nat.reduceAdd, Nat.reduceSub, Nat.reduceMul, Nat.reduceLeDiff, reduceCtorEq, r17, encF_len, Nat.le_refl, htk]) (FzH.sub (Sub.upd (Sub.refl _) i4p)) (FzL.refl _ _ _) ⟨rfl, i4⟩

def stepB (n : Int) (st : List Fl × Nat) (x : Fl) : List Fl × Nat := if n ≤ (st.1.length : Int) then (st.1, st.2 + 1) else (st.1 ++ [x], st.2)
def runB (n : Int) (l : List Fl) (xs : List Fl) : List Fl × Nat := xs.foldl (stepB n) (l, 0)

theorem runB_snoc {n : Int} {l : List Fl} {xs : List Fl} {k : Nat} (hk : k < xs.length) : runB n l (xs.take (k + 1)) = stepB n (runB n l (xs.take k)) xs[k] := by
  unfold runB
  rw [List.take_succ_eq_append_getElem hk, List.foldl_append]; rfl

theorem runB_len {n : Int} {l : List Fl} (xs : List Fl) : (runB n l xs).1.length ≤ l.length + xs.length ∧ (runB n l xs).2 ≤ xs.length := by
  induction xs using snocI with
  | h0 => simp [runB]
  | h1 xs x ih =>
    have e : runB n l (xs ++ [x]) = stepB n (runB n l xs) x := by unfold runB; rw [List.foldl_append]; rfl
    rw [e]; unfold stepB
    split <;> simp <;> omega

theorem bPut_spec {q : Nat} {n : Int} {l : List Fl} {h0 H : AHeap} (i : BIn q n l h0 H) (xs : List Fl) (ex : Bool) (hn : l.length + xs.length ≤ 100000) (hx : ∀ x ∈ xs, x.b.length ≤ 1000000) (he : ∀ x ∈ xs, chkF x = 0) :
    CallsA Try.prog 13 [.ptr q 0, .ro (cat encF xs) xs.length ex] H (fun r H' => r = .tup [.int .i64 ((runB n l xs).2 : Int), .int .i64 0] ∧ BIn q n (runB n l xs).1 h0 H') := by
  (refine CallsA.enterR (ac := c13) (rs := r13) Try.func13 rfl (by decide) c13_ok r13_ok ?_; intro Q hQ; simp only [go_sem, Int.reduceEq, Int.reduceAdd, Int.reduceSub, Int.reduceMul, Nat.reduceLT, Int.reduceLT, Int.reduceLE, Int.reduceToNat, Nat.reduceAdd, Nat.reduceSub, Nat.reduceMul, Nat.reduceLeDiff, reduceCtorEq, c13, Try.ntmps13])
  refine loop_st d13_0 (fun k : Nat => xs.length - k) (fun k s => s.set 16 (.int .i64 (k : Int))) (fun k H' => k ≤ xs.length ∧ H' = H) 0 ?_ ⟨Nat.zero_le _, rfl⟩ ?_
  · (simp only [go_sem, Int.reduceEq, Int.reduceAdd, Int.reduceSub, Int.reduceMul, Nat.reduceLT, Int.reduceLT, Int.reduceLE, Int.reduceToNat, Nat.reduceAdd, Nat.reduceSub, Nat.reduceMul, Nat.reduceLeDiff, reduceCtorEq, d13_0] <;> rfl)
  rintro N k H' ⟨hk, rfl⟩ hN
  simp only [go_sem, Int.reduceEq, Int.reduceAdd, Int.reduceSub, Int.reduceMul, Nat.reduceLT, Int.reduceLT, Int.reduceLE, Int.reduceToNat, Nat.reduceAdd, Nat.reduceSub, Nat.reduceMul, Nat.reduceLeDiff, reduceCtorEq, d13_0]
  have hadd := wadd1 (k := k) (by omega)
  by_cases hlt : k < xs.length
  · have hc := he _ (List.getElem_mem hlt)
    simp only [go_sem, Int.reduceEq, Int.reduceAdd, Int.reduceSub, Int.reduceMul, Nat.reduceLT, Int.reduceLT, Int.reduceLE, Int.reduceToNat, Nat.reduceAdd, Nat.reduceSub, Nat.reduceMul, Nat.reduceLeDiff, reduceCtorEq, hlt, rd_all encF_len hlt, encF_len, encF_sca]
    intro p hp
    simp only [go_sem, Int.reduceEq, Int.reduceAdd, Int.reduceSub, Int.reduceMul, Nat.reduceLT, Int.reduceLT, Int.reduceLE, Int.reduceToNat, Nat.reduceAdd, Nat.reduceSub, Nat.reduceMul, Nat.reduceLeDiff, reduceCtorEq, del_same, del_none hp, encF_len]
    refine (bcheck_spec xs[k] _).use ?_
    simp only [go_sem, Int.reduceEq, Int.reduceAdd, Int.reduceSub, Int.reduceMul, Nat.reduceLT, Int.reduceLT, Int.reduceLE, Int.reduceToNat, Nat.reduceAdd, Nat.reduceSub, Nat.reduceMul, Nat.reduceLeDiff, reduceCtorEq, hc, hadd, del_none hp]
    refine hN (k + 1) _ _ (by omega) ?_ ⟨hlt, rfl⟩
    simp only [go_sem, Int.reduceEq, Int.reduceAdd, Int.reduceSub, Int.reduceMul, Nat.reduceLT, Int.reduceLT, Int.reduceLE, Int.reduceToNat, Nat.reduceAdd, Nat.reduceSub, Nat.reduceMul, Nat.reduceLeDiff, reduceCtorEq, d13_0]
  · simp only [go_sem, Int.reduceEq, Int.reduceAdd, Int.reduceSub, Int.reduceMul, Nat.reduceLT, Int.reduceLT, Int.reduceLE, Int.reduceToNat, Nat.reduceAdd, Nat.reduceSub, Nat.reduceMul, Nat.reduceLeDiff, reduceCtorEq, hlt]
    refine frz_id ?_
    simp only [go_sem, Int.reduceEq, Int.reduceAdd, Int.reduceSub, Int.reduceMul, Nat.reduceLT, Int.reduceLT, Int.reduceLE, Int.reduceToNat, Nat.reduceAdd, Nat.reduceSub, Nat.reduceMul, Nat.reduceLeDiff, reduceCtorEq]
    refine loop_st d13_1 (fun k : Nat => xs.length - k) (fun k s => (s.set 28 (.int .i64 (k : Int))).set 9 (.int .i64 ((runB n l (xs.take k)).2 : Int))) (fun k H' => k ≤ xs.length ∧ BIn q n (runB n l (xs.take k)).1 h0 H') 0 ?_ ⟨Nat.zero_le _, i⟩ ?_
    · (simp only [go_sem, Int.reduceEq, Int.reduceAdd, Int.reduceSub, Int.reduceMul, Nat.reduceLT, Int.reduceLT, Int.reduceLE, Int.reduceToNat, Nat.reduceAdd, Nat.reduceSub, Nat.reduceMul, Nat.reduceLeDiff, reduceCtorEq, d13_1] <;> rfl)
    rintro N k H2 ⟨hk, i2⟩ hN
    simp only [go_sem, Int.reduceEq, Int.reduceAdd, Int.reduceSub, Int.reduceMul, Nat.reduceLT, Int.reduceLT, Int.reduceLE, Int.reduceToNat, Nat.reduceAdd, Nat.reduceSub, Nat.reduceMul, Nat.reduceLeDiff, reduceCtorEq, d13_1]
    have hadd := wadd1 (k := k) (by omega)
    have ok := runB_len (n := n) (l := l) (xs.take k)
    rw [List.length_take] at ok
    by_cases hlt : k < xs.length
    · have hsn := runB_snoc (n := n) (l := l) hlt
      generalize hR : runB n l (xs.take k) = R at *
      have hadd2 := wadd1 (k := R.2) (by omega)
      obtain ⟨v, blk, g, w, hq⟩ := i2.out
      simp only [go_sem, Int.reduceEq, Int.reduceAdd, Int.reduceSub, Int.reduceMul, Nat.reduceLT, Int.reduceLT, Int.reduceLE, Int.reduceToNat, Nat.reduceAdd, Nat.reduceSub, Nat.reduceMul, Nat.reduceLeDiff, reduceCtorEq, hlt, rd_all encF_len hlt, encF_len, encF_sca]
      intro p hp
      simp only [go_sem, Int.reduceEq, Int.reduceAdd, Int.reduceSub, Int.reduceMul, Nat.reduceLT, Int.reduceLT, Int.reduceLE, Int.reduceToNat, Nat.reduceAdd, Nat.reduceSub, Nat.reduceMul, Nat.reduceLeDiff, reduceCtorEq, del_same, del_none hp, encF_len]
      refine (bfull_spec i2).use ?_
      unfold stepB at hsn
      by_cases hf : n ≤ (R.1.length : Int)
      · rw [if_pos hf] at hsn
        simp only [go_sem, Int.reduceEq, Int.reduceAdd, Int.reduceSub, Int.reduceMul, Nat.reduceLT, Int.reduceLT, Int.reduceLE, Int.reduceToNat, Nat.reduceAdd, Nat.reduceSub, Nat.reduceMul, Nat.reduceLeDiff, reduceCtorEq, hf, hadd, hadd2]
        refine hN (k + 1) _ _ (by omega) ?_ ⟨hlt, by rw [hsn]; exact i2⟩
        simp only [go_sem, Int.reduceEq, Int.reduceAdd, Int.reduceSub, Int.reduceMul, Nat.reduceLT, Int.reduceLT, Int.reduceLE, Int.reduceToNat, Nat.reduceAdd, Nat.reduceSub, Nat.reduceMul, Nat.reduceLeDiff, reduceCtorEq, d13_1, hsn]
      · rw [if_neg hf] at hsn
        simp only [go_sem, Int.reduceEq, Int.reduceAdd, Int.reduceSub, Int.reduceMul, Nat.reduceLT, Int.reduceLT, Int.reduceLE, Int.reduceToNat, Nat.reduceAdd, Nat.reduceSub, Nat.reduceMul, Nat.reduceLeDiff, reduceCtorEq, hf, blk]
        refine (bcopied_spec xs[k] _ (hx _ (List.getElem_mem hlt))).use ?_
        simp only [go_sem, Int.reduceEq, Int.reduceAdd, Int.reduceSub, Int.reduceMul, Nat.reduceLT, Int.reduceLT, Int.reduceLE, Int.reduceToNat, Nat.reduceAdd, Nat.reduceSub, Nat.reduceMul, Nat.reduceLeDiff, reduceCtorEq, blk]
        refine g.add1W (x := encF xs[k]) rfl rfl (by omega) fun v' H3 g3 w3 => ?_
        have e : cat encF R.1 ++ encF xs[k] = cat encF (R.1 ++ [xs[k]]) := by rw [cat_append]; simp [cat]
        rw [e] at g3
        have i3 := BIn.of (q := q) (n := n) (l := R.1 ++ [xs[k]]) hq (by rw [List.length_append]; exact g3) w3
        simp only [go_sem, Int.reduceEq, Int.reduceAdd, Int.reduceSub, Int.reduceMul, Nat.reduceLT, Int.reduceLT, Int.reduceLE, Int.reduceToNat, Nat.reduceAdd, Nat.reduceSub, Nat.reduceMul, Nat.reduceLeDiff, reduceCtorEq, g3.box.1, g3.box.2, g3.keep upd_same, hadd]
        refine hN (k + 1) _ _ (by omega) ?_ ⟨hlt, by rw [hsn]; exact i3⟩
        simp only [go_sem, Int.reduceEq, Int.reduceAdd, Int.reduceSub, Int.reduceMul, Nat.reduceLT, Int.reduceLT, Int.reduceLE, Int.reduceToNat, Nat.reduceAdd, Nat.reduceSub, Nat.reduceMul, Nat.reduceLeDiff, reduceCtorEq, d13_1, hsn]
    · have hkl : k = xs.length := by omega
      subst hkl
      rw [List.take_length] at *
      simp only [go_sem, Int.reduceEq, Int.reduceAdd, Int.reduceSub, Int.reduceMul, Nat.reduceLT, Int.reduceLT, Int.reduceLE, Int.reduceToNat, Nat.reduceAdd, Nat.reduceSub, Nat.reduceMul, Nat.reduceLeDiff, reduceCtorEq, hlt]
      refine frz_id ?_
      simp only [go_sem, Int.reduceEq, Int.reduceAdd, Int.reduceSub, Int.reduceMul, Nat.reduceLT, Int.reduceLT, Int.reduceLE, Int.reduceToNat, Nat.reduceAdd, Nat.reduceSub, Nat.reduceMul, Nat.reduceLeDiff, reduceCtorEq]
      refine hQ _ _ _ _ _ _ (.inr rfl) rfl (FzH.refl _) (FzL.refl _ _ _) ⟨rfl, i2⟩

theorem bAll_spec {q : Nat} {n : Int} {l : List Fl} {h0 H : AHeap} (i : BIn q n l h0 H) (hn : l.length ≤ 100000) (hx : ∀ x ∈ l, x.b.length ≤ 1000000) :
    PureA Try.prog 14 [.ptr q 0] H (.ro (cat encF l) l.length false) := by
  obtain ⟨v, blk, g, w, hq⟩ := i.out
  have hlen := g.len
  refine Grow.pure (esz := 4) ?_
  (refine CallsA.enterR (ac := c14) (rs := r14) Try.func14 rfl (by decide) c14_ok r14_ok ?_; intro Q hQ; simp only [go_sem, Int.reduceEq, Int.reduceAdd, Int.reduceSub, Int.reduceMul, Nat.reduceLT, Int.reduceLT, Int.reduceLE, Int.reduceToNat, Nat.reduceAdd, Nat.reduceSub, Nat.reduceMul, Nat.reduceLeDiff, reduceCtorEq, c14, Try.ntmps14, blk, hlen])
  refine loop_st d14_0 (fun x : Nat × AV => l.length - x.1) (fun x s => (s.set 14 (.int .i64 (x.1 : Int))).set 3 x.2) (fun x H' => x.1 ≤ l.length ∧ Grow H 4 x.2 (cat encF (l.take x.1)) x.1 H') (0, .nils) ?_ ⟨Nat.zero_le _, Grow.nil⟩ ?_
  · (simp only [go_sem, Int.reduceEq, Int.reduceAdd, Int.reduceSub, Int.reduceMul, Nat.reduceLT, Int.reduceLT, Int.reduceLE, Int.reduceToNat, Nat.reduceAdd, Nat.reduceSub, Nat.reduceMul, Nat.reduceLeDiff, reduceCtorEq, d14_0] <;> rfl)
  rintro N ⟨k, u⟩ H2 ⟨hk, g2⟩ hN
  simp only [go_sem, Int.reduceEq, Int.reduceAdd, Int.reduceSub, Int.reduceMul, Nat.reduceLT, Int.reduceLT, Int.reduceLE, Int.reduceToNat, Nat.reduceAdd, Nat.reduceSub, Nat.reduceMul, Nat.reduceLeDiff, reduceCtorEq, d14_0]
  simp only at hk g2 hN
  have hadd := wadd1 (k := k) (by omega)
  by_cases hlt : k < l.length
  · obtain ⟨H1, _, g3⟩ := g.swap g2
    simp only [go_sem, Int.reduceEq, Int.reduceAdd, Int.reduceSub, Int.reduceMul, Nat.reduceLT, Int.reduceLT, Int.reduceLE, Int.reduceToNat, Nat.reduceAdd, Nat.reduceSub, Nat.reduceMul, Nat.reduceLeDiff, reduceCtorEq, hlt]
    refine g3.at w encF_len hlt fun id _ hrd => ?_
    simp only [go_sem, Int.reduceEq, Int.reduceAdd, Int.reduceSub, Int.reduceMul, Nat.reduceLT, Int.reduceLT, Int.reduceLE, Int.reduceToNat, Nat.reduceAdd, Nat.reduceSub, Nat.reduceMul, Nat.reduceLeDiff, reduceCtorEq, hrd, encF_len, encF_sca]
    intro p hp
    simp only [go_sem, Int.reduceEq, Int.reduceAdd, Int.reduceSub, Int.reduceMul, Nat.reduceLT, Int.reduceLT, Int.reduceLE, Int.reduceToNat, Nat.reduceAdd, Nat.reduceSub, Nat.reduceMul, Nat.reduceLeDiff, reduceCtorEq, del_same, del_none hp, encF_len]
    refine (bcopied_spec l[k] _ (hx _ (List.getElem_mem hlt))).use ?_
    simp only [go_sem, Int.reduceEq, Int.reduceAdd, Int.reduceSub, Int.reduceMul, Nat.reduceLT, Int.reduceLT, Int.reduceLE, Int.reduceToNat, Nat.reduceAdd, Nat.reduceSub, Nat.reduceMul, Nat.reduceLeDiff, reduceCtorEq]
    refine g2.add1 (x := encF l[k]) rfl rfl (by omega) fun v' H3 g4 => ?_
    have e : cat encF (l.take k) ++ encF l[k] = cat encF (l.take (k + 1)) := by rw [List.take_succ_eq_append_getElem hlt, cat_append]; simp [cat]
    rw [e] at g4
    simp only [go_sem, Int.reduceEq, Int.reduceAdd, Int.reduceSub, Int.reduceMul, Nat.reduceLT, Int.reduceLT, Int.reduceLE, Int.reduceToNat, Nat.reduceAdd, Nat.reduceSub, Nat.reduceMul, Nat.reduceLeDiff, reduceCtorEq, hadd]
    refine hN (k + 1, v') _ _ (by simp only; omega) ?_ ⟨hlt, g4⟩
    simp only [go_sem, Int.reduceEq, Int.reduceAdd, Int.reduceSub, Int.reduceMul, Nat.reduceLT, Int.reduceLT, Int.reduceLE, Int.reduceToNat, Nat.reduceAdd, Nat.reduceSub, Nat.reduceMul, Nat.reduceLeDiff, reduceCtorEq, d14_0]
  · have hkl : k = l.length := by omega
    subst hkl
    rw [List.take_length] at g2
    simp only [go_sem, Int.reduceEq, Int.reduceAdd, Int.reduceSub, Int.reduceMul, Nat.reduceLT, Int.reduceLT, Int.reduceLE, Int.reduceToNat, Nat.reduceAdd, Nat.reduceSub, Nat.reduceMul, Nat.reduceLeDiff, reduceCtorEq, hlt]
    refine frz_id ?_
    simp only [go_sem, Int.reduceEq, Int.reduceAdd, Int.reduceSub, Int.reduceMul, Nat.reduceLT, Int.reduceLT, Int.reduceLE, Int.reduceToNat, Nat.reduceAdd, Nat.reduceSub, Nat.reduceMul, Nat.reduceLeDiff, reduceCtorEq]
    refine hQ _ _ _ _ _ _ (.inr rfl) rfl (FzH.refl _) (FzL.refl _ _ _) g2

end Go.Proofs.Ytfgapneenpdnoaa
