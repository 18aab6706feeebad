/-
  AddrPrefixes on abstract values.
-/
import Derived.Test.YtdlghfekgecjjaaDoorAl
namespace Go.Proofs.YtdlghfekgecjjaaDoor
open Go E
set_option linter.unusedVariables false
set_option linter.unusedSimpArgs false
set_option maxRecDepth 100000

/-- A prefix that comes in: an address's bytes, and how many bits count. -/
abbrev Pf := { a : List Int // isA a } × Int
def encP (x : Pf) : List AV := pfx x.1.val x.2
theorem encP_len (x : Pf) : (encP x).length = 17 := pfx_len x.1.property.1
theorem encP_sca (x : Pf) : (encP x).all scalar = true := by
  unfold encP pfx
  rw [List.all_append, cat_sca b1_sca]
  rfl
theorem encP_take (x : Pf) : (encP x).take 16 = cat b1 x.1.val := pfx_take x.1.property.1
theorem encP_take17 (x : Pf) : (encP x).take 17 = encP x := List.take_of_length_le (by rw [encP_len]; omega)
theorem encP_drop (x : Pf) : (encP x).drop 16 = [.int .i64 x.2] := pfx_drop x.1.property.1
theorem encP_at (x : Pf) : (encP x)[16]? = some (.int .i64 x.2) := pfx_at x.1.property.1

theorem pfill {a : List Int} {n : Int} (ha : a.length = 16) : (if 17 ≤ (cat b1 a ++ [AV.int .i64 0]).length then some (List.take 16 (cat b1 a ++ [AV.int .i64 0]) ++ [AV.int .i64 n] ++ List.drop 17 (cat b1 a ++ [AV.int .i64 0])) else none) = some (pfx a n) := by
  have lc := cat_len b1_len a
  have l1 : (cat b1 a ++ [AV.int .i64 0]).length = 17 := by simp; omega
  rw [if_pos (by omega), List.take_append_of_le_length (by omega), List.take_of_length_le (by omega), List.drop_of_length_le (by omega), List.append_nil]
  rfl

theorem prefs_spec (l : List Pf) (hl : l.length ≤ maxLen) (h : AHeap) : PureA Tryd.prog 26 [.ro (cat encP l) l.length false] h (.ro (cat encP (l.take 20)) (l.take 20).length false) := by
  have hm := maxLen_le
  refine Grow.pure (esz := 17) ?_
  (refine CallsA.enterR (ac := c26) (rs := r26) Tryd.func26 rfl (by decide) c26_ok r26_ok ?_; intro Q hQ; simp only [go_sem, Int.reduceEq, Int.reduceAdd, Int.reduceSub, Int.reduceMul, Nat.reduceLT, Int.reduceLT, Int.reduceLE, Int.reduceToNat, Nat.reduceAdd, Nat.reduceSub, Nat.reduceMul, Nat.reduceLeDiff, reduceCtorEq, c26, Tryd.ntmps26])
  refine loop_st d26_0 (fun x : Nat × AV => 20 - x.1) (fun x s => (s.set 3 x.2).set 4 (.int .i64 (x.1 : Int))) (fun x H => x.1 ≤ l.length ∧ x.1 ≤ 20 ∧ Grow h 17 x.2 (cat encP (l.take x.1)) x.1 H) (0, .nils) ?_ ⟨Nat.zero_le _, Nat.zero_le _, Grow.nil⟩ ?_
  · (simp only [go_sem, Int.reduceEq, Int.reduceAdd, Int.reduceSub, Int.reduceMul, Nat.reduceLT, Int.reduceLT, Int.reduceLE, Int.reduceToNat, Nat.reduceAdd, Nat.reduceSub, Nat.reduceMul, Nat.reduceLeDiff, reduceCtorEq, d26_0] <;> rfl)
  rintro N ⟨k, v⟩ H ⟨hk, hk20, g⟩ hN
  simp only at hk hk20 g
  have hadd := wadd1 (k := k) (by omega)
  have fin : (¬ (k < l.length ∧ k < 20)) → l.take 20 = l.take k ∧ (l.take 20).length = k := fun hn => by
    rcases Nat.lt_or_ge k l.length with h1 | h1
    · have : k = 20 := by omega
      subst this
      exact ⟨rfl, by rw [List.length_take]; omega⟩
    · have : k = l.length := by omega
      subst this
      rw [List.take_of_length_le (by omega), List.take_of_length_le (Nat.le_refl _)]
      exact ⟨rfl, rfl⟩
  by_cases hlt : k < l.length
  · have c1 : decide ((k : Int) < (l.length : Int)) = true := decide_eq_true (by omega)
    by_cases h20 : k < 20
    · have c2 : decide ((k : Int) < 20) = true := decide_eq_true (by omega)
      have pa := l[k].1.property
      have rd1 := rd_some (h := H) encP_len hlt (off := 0) (n := 16) (by omega)
      have rd2 := rd_cell (h := H) encP_len hlt (off := 16) (by omega)
      rw [encP_at] at rd2
      simp only [List.drop_zero, encP_take] at rd1
      have kb : (0 : Int) ≤ k ∧ (k : Int) < (l.length : Int) := by omega
      have lc16 : (cat b1 l[k].1.val).length = 16 := by rw [cat_len b1_len, pa.1]
      simp only [go_sem, Int.reduceEq, Int.reduceAdd, Int.reduceSub, Int.reduceMul, Nat.reduceLT, Int.reduceLT, Int.reduceLE, Int.reduceToNat, Nat.reduceAdd, Nat.reduceSub, Nat.reduceMul, Nat.reduceLeDiff, reduceCtorEq, d26_0, c1, c2, kb, Int.toNat_natCast, true_and, and_self, List.drop_zero, rd1, rd2, lc16, pfill pa.1, pfx_len pa.1, if_true]
      refine g.add1 (x := encP l[k]) (encP_len _) (encP_sca _) (by omega) fun v' H' g' => ?_
      simp only [go_sem, Int.reduceEq, Int.reduceAdd, Int.reduceSub, Int.reduceMul, Nat.reduceLT, Int.reduceLT, Int.reduceLE, Int.reduceToNat, Nat.reduceAdd, Nat.reduceSub, Nat.reduceMul, Nat.reduceLeDiff, reduceCtorEq, hadd]
      refine hN (k + 1, v') _ _ (by simp only; omega) ?_ ⟨hlt, h20, ?_⟩
      · simp only [go_sem, Int.reduceEq, Int.reduceAdd, Int.reduceSub, Int.reduceMul, Nat.reduceLT, Int.reduceLT, Int.reduceLE, Int.reduceToNat, Nat.reduceAdd, Nat.reduceSub, Nat.reduceMul, Nat.reduceLeDiff, reduceCtorEq, d26_0]
      · simp only
        rw [List.take_succ_eq_append_getElem hlt, cat_append, show cat encP [l[k]] = encP l[k] from by simp [cat]]
        exact g'
    · have c2 : decide ((k : Int) < 20) = false := decide_eq_false (by omega)
      obtain ⟨f1, f2⟩ := fin (by omega)
      simp only [go_sem, Int.reduceEq, Int.reduceAdd, Int.reduceSub, Int.reduceMul, Nat.reduceLT, Int.reduceLT, Int.reduceLE, Int.reduceToNat, Nat.reduceAdd, Nat.reduceSub, Nat.reduceMul, Nat.reduceLeDiff, reduceCtorEq, d26_0, hlt, c2]
      refine frz_id ?_
      simp only [go_sem, Int.reduceEq, Int.reduceAdd, Int.reduceSub, Int.reduceMul, Nat.reduceLT, Int.reduceLT, Int.reduceLE, Int.reduceToNat, Nat.reduceAdd, Nat.reduceSub, Nat.reduceMul, Nat.reduceLeDiff, reduceCtorEq]
      refine hQ _ _ _ _ _ _ (by first | exact .inr rfl | exact .inl rfl) rfl (FzH.refl _) (FzL.refl _ _ _) ?_
      rw [f1, f2] at *
      simp only [go_sem, Int.reduceEq, Int.reduceAdd, Int.reduceSub, Int.reduceMul, Nat.reduceLT, Int.reduceLT, Int.reduceLE, Int.reduceToNat, Nat.reduceAdd, Nat.reduceSub, Nat.reduceMul, Nat.reduceLeDiff, reduceCtorEq]
      exact g
  · obtain ⟨f1, f2⟩ := fin (by omega)
    simp only [go_sem, Int.reduceEq, Int.reduceAdd, Int.reduceSub, Int.reduceMul, Nat.reduceLT, Int.reduceLT, Int.reduceLE, Int.reduceToNat, Nat.reduceAdd, Nat.reduceSub, Nat.reduceMul, Nat.reduceLeDiff, reduceCtorEq, d26_0, hlt]
    refine frz_id ?_
    simp only [go_sem, Int.reduceEq, Int.reduceAdd, Int.reduceSub, Int.reduceMul, Nat.reduceLT, Int.reduceLT, Int.reduceLE, Int.reduceToNat, Nat.reduceAdd, Nat.reduceSub, Nat.reduceMul, Nat.reduceLeDiff, reduceCtorEq]
    refine hQ _ _ _ _ _ _ (by first | exact .inr rfl | exact .inl rfl) rfl (FzH.refl _) (FzL.refl _ _ _) ?_
    rw [f1, f2] at *
    simp only [go_sem, Int.reduceEq, Int.reduceAdd, Int.reduceSub, Int.reduceMul, Nat.reduceLT, Int.reduceLT, Int.reduceLE, Int.reduceToNat, Nat.reduceAdd, Nat.reduceSub, Nat.reduceMul, Nat.reduceLeDiff, reduceCtorEq]
    exact g

/-- The longest one, behind the first ones. -/
def lgF (a : List Int) : List Pf → Nat → Int → Int → Int × Int
  | [], _, b, t => (b, t)
  | x :: xs, i, b, t => if hasB x.1.val x.2 a && decide (b < x.2) then lgF a xs (i + 1) x.2 (i : Int) else lgF a xs (i + 1) b t
def lgI (a : List Int) (l : List Pf) : Int × Int := lgF a l 0 (-1) 0
theorem lgF_step (a : List Int) (l : List Pf) (i : Nat) (h : i < l.length) (b t : Int) :
    lgF a (l.drop i) i b t = if hasB l[i].1.val l[i].2 a && decide (b < l[i].2) then lgF a (l.drop (i + 1)) (i + 1) l[i].2 (i : Int) else lgF a (l.drop (i + 1)) (i + 1) b t := by
  rw [List.drop_eq_getElem_cons h]; rfl
def lgV (a : List Int) (l : List Pf) : AV := if (lgI a l).1 < 0 then .tup [.int .i64 0, .int .i64 8] else .tup [.int .i64 (lgI a l).2, .int .i64 0]

theorem longest_spec (a : List Int) (ha : isA a) (l : List Pf) (ex : Bool) (hl : l.length ≤ 1000000) (h : AHeap) : PureA Tryd.prog 28 [.agg (cat b1 a), .ro (cat encP l) l.length ex] h (lgV a l) := by
  have la : (cat b1 a).length = 16 := by rw [cat_len b1_len, ha.1]
  have ta : (cat b1 a).take 16 = cat b1 a := List.take_of_length_le (by omega)
  (refine PureA.enter (ac := c28) (rs := r28) Tryd.func28 rfl (by decide) c28_ok r28_ok ?_; intro Q hQ; simp only [go_sem, Int.reduceEq, Int.reduceAdd, Int.reduceSub, Int.reduceMul, Nat.reduceLT, Int.reduceLT, Int.reduceLE, Int.reduceToNat, Nat.reduceAdd, Nat.reduceSub, Nat.reduceMul, Nat.reduceLeDiff, reduceCtorEq, c28, Tryd.ntmps28])
  refine loop_st d28_0 (fun x : Nat × Int × Int => l.length - x.1) (fun x s => ((s.set 6 (.int .i64 x.2.1)).set 7 (.int .i64 x.2.2)).set 12 (.int .i64 (x.1 : Int))) (fun x H => x.1 ≤ l.length ∧ H = h ∧ lgF a (l.drop x.1) x.1 x.2.1 x.2.2 = lgI a l) (0, -1, 0) ?_ ⟨Nat.zero_le _, rfl, rfl⟩ ?_
  · (simp only [go_sem, Int.reduceEq, Int.reduceAdd, Int.reduceSub, Int.reduceMul, Nat.reduceLT, Int.reduceLT, Int.reduceLE, Int.reduceToNat, Nat.reduceAdd, Nat.reduceSub, Nat.reduceMul, Nat.reduceLeDiff, reduceCtorEq, d28_0] <;> rfl)
  rintro N ⟨i, b, t⟩ H ⟨hi, rfl, hg⟩ hN
  simp only at hi hg
  have hadd := wadd1 (k := i) (by omega)
  by_cases hlt : i < l.length
  · rw [lgF_step a l i hlt] at hg
    have bd : (0 : Int) ≤ (i : Int) ∧ (i : Int) < (l.length : Int) := by omega
    have hs := has_spec l[i].1.val l[i].1.property l[i].2 a ha
    have l17 := encP_len l[i]
    have s17 := encP_sca l[i]
    have t17 := encP_take17 l[i]
    have d16 := encP_drop l[i]
    simp only [go_sem, Int.reduceEq, Int.reduceAdd, Int.reduceSub, Int.reduceMul, Nat.reduceLT, Int.reduceLT, Int.reduceLE, Int.reduceToNat, Nat.reduceAdd, Nat.reduceSub, Nat.reduceMul, Nat.reduceLeDiff, reduceCtorEq, d28_0, hlt, bd, Int.toNat_natCast, true_and, rd_all encP_len hlt]
    intro p hp
    simp only [go_sem, Int.reduceEq, Int.reduceAdd, Int.reduceSub, Int.reduceMul, Nat.reduceLT, Int.reduceLT, Int.reduceLE, Int.reduceToNat, Nat.reduceAdd, Nat.reduceSub, Nat.reduceMul, Nat.reduceLeDiff, reduceCtorEq, del_same, del_none hp, l17, s17, t17, la, ta, Nat.le_refl, if_true]
    refine (hs _).use ?_
    cases e1 : hasB l[i].1.val l[i].2 a
    · rw [e1, Bool.false_and] at hg
      simp only [go_sem, Int.reduceEq, Int.reduceAdd, Int.reduceSub, Int.reduceMul, Nat.reduceLT, Int.reduceLT, Int.reduceLE, Int.reduceToNat, Nat.reduceAdd, Nat.reduceSub, Nat.reduceMul, Nat.reduceLeDiff, reduceCtorEq, hadd]
      refine hN (i + 1, b, t) _ _ (by simp only; omega) ?_ ⟨hlt, rfl, by simpa using hg⟩
      simp only [go_sem, Int.reduceEq, Int.reduceAdd, Int.reduceSub, Int.reduceMul, Nat.reduceLT, Int.reduceLT, Int.reduceLE, Int.reduceToNat, Nat.reduceAdd, Nat.reduceSub, Nat.reduceMul, Nat.reduceLeDiff, reduceCtorEq, d28_0]
    · rw [e1, Bool.true_and] at hg
      by_cases e2 : b < l[i].2
      · have c2 : decide (b < l[i].2) = true := decide_eq_true e2
        rw [c2] at hg
        simp only [go_sem, Int.reduceEq, Int.reduceAdd, Int.reduceSub, Int.reduceMul, Nat.reduceLT, Int.reduceLT, Int.reduceLE, Int.reduceToNat, Nat.reduceAdd, Nat.reduceSub, Nat.reduceMul, Nat.reduceLeDiff, reduceCtorEq, d16, c2, hadd]
        refine hN (i + 1, l[i].2, (i : Int)) _ _ (by simp only; omega) ?_ ⟨hlt, rfl, by simpa using hg⟩
        simp only [go_sem, Int.reduceEq, Int.reduceAdd, Int.reduceSub, Int.reduceMul, Nat.reduceLT, Int.reduceLT, Int.reduceLE, Int.reduceToNat, Nat.reduceAdd, Nat.reduceSub, Nat.reduceMul, Nat.reduceLeDiff, reduceCtorEq, d28_0]
      · have c2 : decide (b < l[i].2) = false := decide_eq_false e2
        rw [c2] at hg
        simp only [go_sem, Int.reduceEq, Int.reduceAdd, Int.reduceSub, Int.reduceMul, Nat.reduceLT, Int.reduceLT, Int.reduceLE, Int.reduceToNat, Nat.reduceAdd, Nat.reduceSub, Nat.reduceMul, Nat.reduceLeDiff, reduceCtorEq, d16, c2, hadd]
        refine hN (i + 1, b, t) _ _ (by simp only; omega) ?_ ⟨hlt, rfl, by simpa using hg⟩
        simp only [go_sem, Int.reduceEq, Int.reduceAdd, Int.reduceSub, Int.reduceMul, Nat.reduceLT, Int.reduceLT, Int.reduceLE, Int.reduceToNat, Nat.reduceAdd, Nat.reduceSub, Nat.reduceMul, Nat.reduceLeDiff, reduceCtorEq, d28_0]
  · rw [List.drop_of_length_le (by omega)] at hg
    have hg2 : lgI a l = (b, t) := hg.symm
    simp only [go_sem, Int.reduceEq, Int.reduceAdd, Int.reduceSub, Int.reduceMul, Nat.reduceLT, Int.reduceLT, Int.reduceLE, Int.reduceToNat, Nat.reduceAdd, Nat.reduceSub, Nat.reduceMul, Nat.reduceLeDiff, reduceCtorEq, d28_0, hlt]
    refine frz_id ?_
    by_cases e : b < 0
    · have c1 : decide (b < 0) = true := decide_eq_true e
      simp only [go_sem, Int.reduceEq, Int.reduceAdd, Int.reduceSub, Int.reduceMul, Nat.reduceLT, Int.reduceLT, Int.reduceLE, Int.reduceToNat, Nat.reduceAdd, Nat.reduceSub, Nat.reduceMul, Nat.reduceLeDiff, reduceCtorEq, c1]
      (refine hQ _ _ _ _ _ (by first | exact .inr rfl | exact .inl rfl) rfl (by first | exact FzH.refl _ | exact FzH.sub (by (repeat' (first | exact Sub.refl _ | assumption | (refine Sub.upd ?_ (by first | assumption | (simp only [*]; done) | exact Sub.isNone (by assumption) (by assumption) | exact Sub.isNone (by assumption) (by simp only [*]))))))) (FzL.refl _ _ _) ?_; try (simp only [go_sem, Int.reduceEq, Int.reduceAdd, Int.reduceSub, Int.reduceMul, Nat.reduceLT, Int.reduceLT, Int.reduceLE, Int.reduceToNat, Nat.reduceAdd, Nat.reduceSub, Nat.reduceMul, Nat.reduceLeDiff, reduceCtorEq]))
      simp [lgV, hg2, e]
    · have c1 : decide (b < 0) = false := decide_eq_false e
      simp only [go_sem, Int.reduceEq, Int.reduceAdd, Int.reduceSub, Int.reduceMul, Nat.reduceLT, Int.reduceLT, Int.reduceLE, Int.reduceToNat, Nat.reduceAdd, Nat.reduceSub, Nat.reduceMul, Nat.reduceLeDiff, reduceCtorEq, c1]
      (refine hQ _ _ _ _ _ (by first | exact .inr rfl | exact .inl rfl) rfl (by first | exact FzH.refl _ | exact FzH.sub (by (repeat' (first | exact Sub.refl _ | assumption | (refine Sub.upd ?_ (by first | assumption | (simp only [*]; done) | exact Sub.isNone (by assumption) (by assumption) | exact Sub.isNone (by assumption) (by simp only [*]))))))) (FzL.refl _ _ _) ?_; try (simp only [go_sem, Int.reduceEq, Int.reduceAdd, Int.reduceSub, Int.reduceMul, Nat.reduceLT, Int.reduceLT, Int.reduceLE, Int.reduceToNat, Nat.reduceAdd, Nat.reduceSub, Nat.reduceMul, Nat.reduceLeDiff, reduceCtorEq]))
      simp [lgV, hg2, e]

theorem eqCells_self : ∀ (a : List Int) (n : Int), eqCells (List.replicate (a.length + 1) .i) (cat b1 a ++ [.int .i64 n]) (cat b1 a ++ [.int .i64 n]) = some true
  | [], n => by simp [cat, eqCells, eqCell]
  | x :: a, n => by
    have ih := eqCells_self a n
    have e1 : cat b1 (x :: a) ++ [AV.int .i64 n] = .int .u8 x :: (cat b1 a ++ [.int .i64 n]) := rfl
    rw [e1, List.length_cons, List.replicate_succ]
    simp only [eqCells, eqCell, if_true, ih, decide_true, Bool.and_self]
theorem eq17 {a : List Int} (ha : a.length = 16) (n : Int) : eqCells [.i, .i, .i, .i, .i, .i, .i, .i, .i, .i, .i, .i, .i, .i, .i, .i, .i] (pfx a n) (pfx a n) = some true := by
  have := eqCells_self a n
  rw [ha] at this
  exact this

set_option maxHeartbeats 8000000 in
theorem pref_walk (a : List Int) (ha : isA a) (l0 : List Pf) (hl : l0.length ≤ maxLen) (bits : Int) : PureA Tryd.prog 7 [.agg (cat b1 a), .ro (cat encP l0) l0.length false, .int .i64 bits] emp (.bool true) := by
  have hm := maxLen_le
  have la : (cat b1 a).length = 16 := by rw [cat_len b1_len, ha.1]
  have ta : (cat b1 a).take 16 = cat b1 a := List.take_of_length_le (by omega)
  have ps := prefs_spec l0 hl
  have hl20 : (l0.take 20).length ≤ 20 := by rw [List.length_take]; omega
  have hlle : (l0.take 20).length ≤ l0.length := by rw [List.length_take]; omega
  have hget : ∀ (i : Nat) (h : i < (l0.take 20).length) (h0 : i < l0.length), l0[i] = (l0.take 20)[i] := fun i h h0 => by rw [List.getElem_take]
  generalize l0.take 20 = l at *
  have lgs := longest_spec a ha l false (by omega)
  (refine PureA.enter (ac := c7) (rs := r7) Tryd.func7 rfl (by decide) c7_ok r7_ok ?_; intro Q hQ; simp only [go_sem, Int.reduceEq, Int.reduceAdd, Int.reduceSub, Int.reduceMul, Nat.reduceLT, Int.reduceLT, Int.reduceLE, Int.reduceToNat, Nat.reduceAdd, Nat.reduceSub, Nat.reduceMul, Nat.reduceLeDiff, reduceCtorEq, c7, Tryd.ntmps7])
  refine (ps _).use ?_
  simp only [go_sem, Int.reduceEq, Int.reduceAdd, Int.reduceSub, Int.reduceMul, Nat.reduceLT, Int.reduceLT, Int.reduceLE, Int.reduceToNat, Nat.reduceAdd, Nat.reduceSub, Nat.reduceMul, Nat.reduceLeDiff, reduceCtorEq]
  refine loop_st d7_0 (fun x : Nat × Int × Int => l.length - x.1) (fun x s => ((s.set 8 (.int .i64 x.2.1)).set 9 (.int .i64 x.2.2)).set 10 (.int .i64 (x.1 : Int))) (fun x H => x.1 ≤ l.length ∧ H = emp ∧ lgF a (l.drop x.1) x.1 x.2.1 x.2.2 = lgI a l) (0, -1, 0) ?_ ⟨Nat.zero_le _, rfl, rfl⟩ ?_
  · (simp only [go_sem, Int.reduceEq, Int.reduceAdd, Int.reduceSub, Int.reduceMul, Nat.reduceLT, Int.reduceLT, Int.reduceLE, Int.reduceToNat, Nat.reduceAdd, Nat.reduceSub, Nat.reduceMul, Nat.reduceLeDiff, reduceCtorEq, d7_0] <;> rfl)
  rintro N ⟨i, b, t⟩ H ⟨hi, rfl, hg⟩ hN
  simp only at hi hg
  have hadd := wadd1 (k := i) (by omega)
  by_cases hlt : i < l.length
  · rw [lgF_step a l i hlt] at hg
    have hlt0 : i < l0.length := by omega
    have bd : (0 : Int) ≤ (i : Int) ∧ (i : Int) < (l.length : Int) := by omega
    have bd0 : (0 : Int) ≤ (i : Int) ∧ (i : Int) < (l0.length : Int) := by omega
    have rd1 := rd_all (h := emp) encP_len hlt
    have rd0 := rd_all (h := emp) encP_len hlt0
    have rh1 := rd_cell (h := emp) encP_len hlt (off := 16) (by omega)
    have rh0 := rd_cell (h := emp) encP_len hlt0 (off := 16) (by omega)
    simp only [aload, encP_at] at rh1 rh0
    have ru1 := rd1
    simp only [aloads] at ru1
    rw [hget i hlt hlt0] at rd0 rh0
    generalize l[i] = x at *
    have l17 := encP_len x
    have s17 := encP_sca x
    have t17 := encP_take17 x
    have d16 := encP_drop x
    have hs := has_spec x.1.val x.1.property x.2 a ha
    have hrs := rhas_spec x.1.val x.1.property x.2 a ha
    have rs := right_spec x.1.val x.1.property x.2
    have rrs := rright_spec x.1.val x.1.property x.2
    simp only [go_sem, Int.reduceEq, Int.reduceAdd, Int.reduceSub, Int.reduceMul, Nat.reduceLT, Int.reduceLT, Int.reduceLE, Int.reduceToNat, Nat.reduceAdd, Nat.reduceSub, Nat.reduceMul, Nat.reduceLeDiff, reduceCtorEq, d7_0, hlt, bd, bd0, Int.toNat_natCast, true_and, rd0, rd1, la, ta, Nat.le_refl, if_true]
    refine (hrs _).use ?_
    simp only [go_sem, Int.reduceEq, Int.reduceAdd, Int.reduceSub, Int.reduceMul, Nat.reduceLT, Int.reduceLT, Int.reduceLE, Int.reduceToNat, Nat.reduceAdd, Nat.reduceSub, Nat.reduceMul, Nat.reduceLeDiff, reduceCtorEq, bd, bd0, Int.toNat_natCast, true_and, rd0, rd1, la, ta, Nat.le_refl, if_true]
    refine (rs _).use ?_
    simp only [go_sem, Int.reduceEq, Int.reduceAdd, Int.reduceSub, Int.reduceMul, Nat.reduceLT, Int.reduceLT, Int.reduceLE, Int.reduceToNat, Nat.reduceAdd, Nat.reduceSub, Nat.reduceMul, Nat.reduceLeDiff, reduceCtorEq, rd0, rd1]
    refine (rrs _).use ?_
    simp only [go_sem, Int.reduceEq, Int.reduceAdd, Int.reduceSub, Int.reduceMul, Nat.reduceLT, Int.reduceLT, Int.reduceLE, Int.reduceToNat, Nat.reduceAdd, Nat.reduceSub, Nat.reduceMul, Nat.reduceLeDiff, reduceCtorEq, beq_self_eq_true, Bool.not_true, bd, bd0, Int.toNat_natCast, true_and, rd0, rd1, la, ta, Nat.le_refl, if_true]
    refine (hs _).use ?_
    simp only [go_sem, Int.reduceEq, Int.reduceAdd, Int.reduceSub, Int.reduceMul, Nat.reduceLT, Int.reduceLT, Int.reduceLE, Int.reduceToNat, Nat.reduceAdd, Nat.reduceSub, Nat.reduceMul, Nat.reduceLeDiff, reduceCtorEq, beq_self_eq_true, Bool.not_true]
    have nx : ∀ (b' t' : Int) (s' : List AV), lgF a (l.drop (i + 1)) (i + 1) b' t' = lgI a l → kill d7_0 s' = _ → N s' emp := fun b' t' s' e1 e2 => hN (i + 1, b', t') s' _ (by simp only; omega) e2 ⟨hlt, rfl, e1⟩
    have hcut := cutp_spec a ha x.2
    cases e1 : hasB x.1.val x.2 a
    · rw [e1, Bool.false_and] at hg
      obtain ⟨u, k, ee, hu, hcv⟩ : ∃ u k ee, isA u ∧ cutV a x.2 = .tup [.agg (pfx u k), .int .i64 ee] := by
        unfold cutV
        split
        · exact ⟨cutL a x.2, x.2, 0, cutL_is ha _, rfl⟩
        · exact ⟨zeroA, 0, 1, by decide, rfl⟩
      rw [hcv] at hcut
      have u17 := pfx_len (n := k) hu.1
      have us : (pfx u k).all scalar = true := encP_sca (⟨u, hu⟩, k)
      simp only [go_sem, Int.reduceEq, Int.reduceAdd, Int.reduceSub, Int.reduceMul, Nat.reduceLT, Int.reduceLT, Int.reduceLE, Int.reduceToNat, Nat.reduceAdd, Nat.reduceSub, Nat.reduceMul, Nat.reduceLeDiff, reduceCtorEq, bd, bd0, Int.toNat_natCast, true_and, rd0, rd1, rh0, rh1, la, ta, Nat.le_refl, if_true]
      refine (hcut _).use ?_
      simp only [go_sem, Int.reduceEq, Int.reduceAdd, Int.reduceSub, Int.reduceMul, Nat.reduceLT, Int.reduceLT, Int.reduceLE, Int.reduceToNat, Nat.reduceAdd, Nat.reduceSub, Nat.reduceMul, Nat.reduceLeDiff, reduceCtorEq]
      intro p hp
      simp only [go_sem, Int.reduceEq, Int.reduceAdd, Int.reduceSub, Int.reduceMul, Nat.reduceLT, Int.reduceLT, Int.reduceLE, Int.reduceToNat, Nat.reduceAdd, Nat.reduceSub, Nat.reduceMul, Nat.reduceLeDiff, reduceCtorEq, del_same, del_none hp, u17, us, hadd]
      refine nx b t _ (by simpa using hg) ?_
      simp only [go_sem, Int.reduceEq, Int.reduceAdd, Int.reduceSub, Int.reduceMul, Nat.reduceLT, Int.reduceLT, Int.reduceLE, Int.reduceToNat, Nat.reduceAdd, Nat.reduceSub, Nat.reduceMul, Nat.reduceLeDiff, reduceCtorEq, d7_0]
    · rw [e1, Bool.true_and] at hg
      have hB := e1
      simp only [hasB, rightB, Bool.and_eq_true, decide_eq_true_eq] at hB
      have hcv : cutV a x.2 = .tup [.agg (pfx x.1.val x.2), .int .i64 0] := by
        unfold cutV
        rw [if_pos (by simp [hB.1.1.1, hB.1.1.2]), hB.2]
      rw [hcv] at hcut
      have u17 := pfx_len (n := x.2) x.1.property.1
      have us : (pfx x.1.val x.2).all scalar = true := encP_sca x
      have u17t : (pfx x.1.val x.2).take 17 = pfx x.1.val x.2 := encP_take17 x
      have ee : eqCells [.i, .i, .i, .i, .i, .i, .i, .i, .i, .i, .i, .i, .i, .i, .i, .i, .i] (pfx x.1.val x.2) (encP x) = some true := eq17 x.1.property.1 x.2
      have ee2 : eqCells [.i, .i, .i, .i, .i, .i, .i, .i, .i, .i, .i, .i, .i, .i, .i, .i, .i] (pfx x.1.val x.2) (pfx x.1.val x.2) = some true := ee
      have ee3 : eqCells [.i, .i, .i, .i, .i, .i, .i, .i, .i, .i, .i, .i, .i, .i, .i, .i, .i] (encP x) (encP x) = some true := ee
      by_cases e2 : b < x.2
      · have c2 : decide (b < x.2) = true := decide_eq_true e2
        rw [c2] at hg
        simp only [go_sem, Int.reduceEq, Int.reduceAdd, Int.reduceSub, Int.reduceMul, Nat.reduceLT, Int.reduceLT, Int.reduceLE, Int.reduceToNat, Nat.reduceAdd, Nat.reduceSub, Nat.reduceMul, Nat.reduceLeDiff, reduceCtorEq, bd, bd0, Int.toNat_natCast, true_and, rd0, rd1, rh0, rh1, la, ta, Nat.le_refl, if_true, c2]
        refine (hcut _).use ?_
        simp only [go_sem, Int.reduceEq, Int.reduceAdd, Int.reduceSub, Int.reduceMul, Nat.reduceLT, Int.reduceLT, Int.reduceLE, Int.reduceToNat, Nat.reduceAdd, Nat.reduceSub, Nat.reduceMul, Nat.reduceLeDiff, reduceCtorEq]
        intro p hp
        simp only [go_sem, Int.reduceEq, Int.reduceAdd, Int.reduceSub, Int.reduceMul, Nat.reduceLT, Int.reduceLT, Int.reduceLE, Int.reduceToNat, Nat.reduceAdd, Nat.reduceSub, Nat.reduceMul, Nat.reduceLeDiff, reduceCtorEq, del_same, del_none hp, u17, us, u17t, hlt, ru1, ee, ee2, ee3, Bool.true_xor, Bool.not_true, hadd, bd, bd0, Int.toNat_natCast, true_and, rd0, rd1, rh0, rh1, la, ta, Nat.le_refl, if_true]
        refine nx x.2 (i : Int) _ (by simpa using hg) ?_
        simp only [go_sem, Int.reduceEq, Int.reduceAdd, Int.reduceSub, Int.reduceMul, Nat.reduceLT, Int.reduceLT, Int.reduceLE, Int.reduceToNat, Nat.reduceAdd, Nat.reduceSub, Nat.reduceMul, Nat.reduceLeDiff, reduceCtorEq, d7_0]
      · have c2 : decide (b < x.2) = false := decide_eq_false e2
        rw [c2] at hg
        simp only [go_sem, Int.reduceEq, Int.reduceAdd, Int.reduceSub, Int.reduceMul, Nat.reduceLT, Int.reduceLT, Int.reduceLE, Int.reduceToNat, Nat.reduceAdd, Nat.reduceSub, Nat.reduceMul, Nat.reduceLeDiff, reduceCtorEq, bd, bd0, Int.toNat_natCast, true_and, rd0, rd1, rh0, rh1, la, ta, Nat.le_refl, if_true, c2]
        refine (hcut _).use ?_
        simp only [go_sem, Int.reduceEq, Int.reduceAdd, Int.reduceSub, Int.reduceMul, Nat.reduceLT, Int.reduceLT, Int.reduceLE, Int.reduceToNat, Nat.reduceAdd, Nat.reduceSub, Nat.reduceMul, Nat.reduceLeDiff, reduceCtorEq]
        intro p hp
        simp only [go_sem, Int.reduceEq, Int.reduceAdd, Int.reduceSub, Int.reduceMul, Nat.reduceLT, Int.reduceLT, Int.reduceLE, Int.reduceToNat, Nat.reduceAdd, Nat.reduceSub, Nat.reduceMul, Nat.reduceLeDiff, reduceCtorEq, del_same, del_none hp, u17, us, u17t, hlt, ru1, ee, ee2, ee3, Bool.true_xor, Bool.not_true, hadd, bd, bd0, Int.toNat_natCast, true_and, rd0, rd1, rh0, rh1, la, ta, Nat.le_refl, if_true]
        refine nx b t _ (by simpa using hg) ?_
        simp only [go_sem, Int.reduceEq, Int.reduceAdd, Int.reduceSub, Int.reduceMul, Nat.reduceLT, Int.reduceLT, Int.reduceLE, Int.reduceToNat, Nat.reduceAdd, Nat.reduceSub, Nat.reduceMul, Nat.reduceLeDiff, reduceCtorEq, d7_0]
  · rw [List.drop_of_length_le (by omega)] at hg
    have hg2 : lgI a l = (b, t) := hg.symm
    have hlg : lgV a l = if b < 0 then .tup [.int .i64 0, .int .i64 8] else .tup [.int .i64 t, .int .i64 0] := by
      unfold lgV; rw [hg2]
    have hcut := cutp_spec a ha bits
    simp only [go_sem, Int.reduceEq, Int.reduceAdd, Int.reduceSub, Int.reduceMul, Nat.reduceLT, Int.reduceLT, Int.reduceLE, Int.reduceToNat, Nat.reduceAdd, Nat.reduceSub, Nat.reduceMul, Nat.reduceLeDiff, reduceCtorEq, d7_0, hlt]
    refine frz_id ?_
    simp only [go_sem, Int.reduceEq, Int.reduceAdd, Int.reduceSub, Int.reduceMul, Nat.reduceLT, Int.reduceLT, Int.reduceLE, Int.reduceToNat, Nat.reduceAdd, Nat.reduceSub, Nat.reduceMul, Nat.reduceLeDiff, reduceCtorEq, la, ta, Nat.le_refl, if_true]
    refine (lgs _).use ?_
    obtain ⟨ln, le, hlv, hln⟩ : ∃ ln le, lgV a l = .tup [.int .i64 ln, .int .i64 le] ∧ (if b < 0 then ln = 0 ∧ le = 8 else ln = t ∧ le = 0) := by
      rw [hlg]
      by_cases hb0 : b < 0
      · rw [if_pos hb0]; exact ⟨0, 8, rfl, by simp [hb0]⟩
      · rw [if_neg hb0]; exact ⟨t, 0, rfl, by simp [hb0]⟩
    simp only [go_sem, Int.reduceEq, Int.reduceAdd, Int.reduceSub, Int.reduceMul, Nat.reduceLT, Int.reduceLT, Int.reduceLE, Int.reduceToNat, Nat.reduceAdd, Nat.reduceSub, Nat.reduceMul, Nat.reduceLeDiff, reduceCtorEq, hlv, la, ta, Nat.le_refl, if_true]
    have z17 := pfx_len (a := zeroA) (n := 0) rfl
    have zs : (pfx zeroA 0).all scalar = true := encP_sca (⟨zeroA, by decide⟩, 0)
    have zt : (pfx zeroA 0).take 17 = pfx zeroA 0 := List.take_of_length_le (by omega)
    have zc : pfx zeroA 0 = [.int .u8 0, .int .u8 0, .int .u8 0, .int .u8 0, .int .u8 0, .int .u8 0, .int .u8 0, .int .u8 0, .int .u8 0, .int .u8 0, .int .u8 0, .int .u8 0, .int .u8 0, .int .u8 0, .int .u8 0, .int .u8 0, .int .i64 0] := rfl
    have ze : eqCells [.i, .i, .i, .i, .i, .i, .i, .i, .i, .i, .i, .i, .i, .i, .i, .i, .i] (pfx zeroA 0) [.int .u8 0, .int .u8 0, .int .u8 0, .int .u8 0, .int .u8 0, .int .u8 0, .int .u8 0, .int .u8 0, .int .u8 0, .int .u8 0, .int .u8 0, .int .u8 0, .int .u8 0, .int .u8 0, .int .u8 0, .int .u8 0, .int .i64 0] = some true := eq17 rfl 0
    by_cases hin : 0 ≤ bits ∧ bits ≤ 128
    · have hcv : cutV a bits = .tup [.agg (pfx (cutL a bits) bits), .int .i64 0] := by
        unfold cutV
        rw [if_pos (by simp [hin.1, hin.2])]
      rw [hcv] at hcut
      have hu := cutL_is ha bits
      have u17 := pfx_len (n := bits) hu.1
      have us : (pfx (cutL a bits) bits).all scalar = true := encP_sca (⟨_, hu⟩, bits)
      have ut : (pfx (cutL a bits) bits).take 17 = pfx (cutL a bits) bits := List.take_of_length_le (by omega)
      have ut16 := pfx_take (n := bits) hu.1
      have ud16 := pfx_drop (n := bits) hu.1
      have uc : (cat b1 (cutL a bits)).length = 16 := by rw [cat_len b1_len, hu.1]
      have d1 : decide (bits < 0) = false := decide_eq_false (by omega)
      have d2 : decide (128 < bits) = false := decide_eq_false (by omega)
      refine (hcut _).use ?_
      simp only [go_sem, Int.reduceEq, Int.reduceAdd, Int.reduceSub, Int.reduceMul, Nat.reduceLT, Int.reduceLT, Int.reduceLE, Int.reduceToNat, Nat.reduceAdd, Nat.reduceSub, Nat.reduceMul, Nat.reduceLeDiff, reduceCtorEq]
      intro p hp
      simp only [go_sem, Int.reduceEq, Int.reduceAdd, Int.reduceSub, Int.reduceMul, Nat.reduceLT, Int.reduceLT, Int.reduceLE, Int.reduceToNat, Nat.reduceAdd, Nat.reduceSub, Nat.reduceMul, Nat.reduceLeDiff, reduceCtorEq, del_same, del_none hp, u17, us, ut, d1, d2, ud16, decide_true, Bool.not_true, uc, pfill hu.1, ut16, la, ta, Nat.le_refl, if_true]
      refine (rhas_spec _ hu bits a ha _).use ?_
      simp only [go_sem, Int.reduceEq, Int.reduceAdd, Int.reduceSub, Int.reduceMul, Nat.reduceLT, Int.reduceLT, Int.reduceLE, Int.reduceToNat, Nat.reduceAdd, Nat.reduceSub, Nat.reduceMul, Nat.reduceLeDiff, reduceCtorEq, has_cut ha hin.1 hin.2, Bool.not_true]
      by_cases hb0 : b < 0
      · have c1 : decide (b < 0) = true := decide_eq_true hb0
        rw [if_pos hb0] at hln
        obtain ⟨rfl, rfl⟩ := hln
        simp only [go_sem, Int.reduceEq, Int.reduceAdd, Int.reduceSub, Int.reduceMul, Nat.reduceLT, Int.reduceLT, Int.reduceLE, Int.reduceToNat, Nat.reduceAdd, Nat.reduceSub, Nat.reduceMul, Nat.reduceLeDiff, reduceCtorEq, c1]
        refine (known_spec _).use ?_
        simp only [go_sem, Int.reduceEq, Int.reduceAdd, Int.reduceSub, Int.reduceMul, Nat.reduceLT, Int.reduceLT, Int.reduceLE, Int.reduceToNat, Nat.reduceAdd, Nat.reduceSub, Nat.reduceMul, Nat.reduceLeDiff, reduceCtorEq]
        (refine hQ _ _ _ _ _ (by first | exact .inr rfl | exact .inl rfl) rfl (by first | exact FzH.refl _ | exact FzH.sub (by (repeat' (first | exact Sub.refl _ | assumption | (refine Sub.upd ?_ (by first | assumption | (simp only [*]; done) | exact Sub.isNone (by assumption) (by assumption) | exact Sub.isNone (by assumption) (by simp only [*]))))))) (FzL.refl _ _ _) ?_; try (simp only [go_sem, Int.reduceEq, Int.reduceAdd, Int.reduceSub, Int.reduceMul, Nat.reduceLT, Int.reduceLT, Int.reduceLE, Int.reduceToNat, Nat.reduceAdd, Nat.reduceSub, Nat.reduceMul, Nat.reduceLeDiff, reduceCtorEq]))
      · have c1 : decide (b < 0) = false := decide_eq_false hb0
        rw [if_neg hb0] at hln
        obtain ⟨rfl, rfl⟩ := hln
        simp only [go_sem, Int.reduceEq, Int.reduceAdd, Int.reduceSub, Int.reduceMul, Nat.reduceLT, Int.reduceLT, Int.reduceLE, Int.reduceToNat, Nat.reduceAdd, Nat.reduceSub, Nat.reduceMul, Nat.reduceLeDiff, reduceCtorEq, c1]
        refine (known_spec _).use ?_
        simp only [go_sem, Int.reduceEq, Int.reduceAdd, Int.reduceSub, Int.reduceMul, Nat.reduceLT, Int.reduceLT, Int.reduceLE, Int.reduceToNat, Nat.reduceAdd, Nat.reduceSub, Nat.reduceMul, Nat.reduceLeDiff, reduceCtorEq, decide_true]
        (refine hQ _ _ _ _ _ (by first | exact .inr rfl | exact .inl rfl) rfl (by first | exact FzH.refl _ | exact FzH.sub (by (repeat' (first | exact Sub.refl _ | assumption | (refine Sub.upd ?_ (by first | assumption | (simp only [*]; done) | exact Sub.isNone (by assumption) (by assumption) | exact Sub.isNone (by assumption) (by simp only [*]))))))) (FzL.refl _ _ _) ?_; try (simp only [go_sem, Int.reduceEq, Int.reduceAdd, Int.reduceSub, Int.reduceMul, Nat.reduceLT, Int.reduceLT, Int.reduceLE, Int.reduceToNat, Nat.reduceAdd, Nat.reduceSub, Nat.reduceMul, Nat.reduceLeDiff, reduceCtorEq]))
    · have hcv : cutV a bits = .tup [.agg (pfx zeroA 0), .int .i64 1] := by
        unfold cutV
        rw [if_neg (by simp; omega)]
      rw [hcv] at hcut
      refine (hcut _).use ?_
      simp only [go_sem, Int.reduceEq, Int.reduceAdd, Int.reduceSub, Int.reduceMul, Nat.reduceLT, Int.reduceLT, Int.reduceLE, Int.reduceToNat, Nat.reduceAdd, Nat.reduceSub, Nat.reduceMul, Nat.reduceLeDiff, reduceCtorEq]
      intro p hp
      by_cases hneg : bits < 0
      · have d1 : decide (bits < 0) = true := decide_eq_true hneg
        simp only [go_sem, Int.reduceEq, Int.reduceAdd, Int.reduceSub, Int.reduceMul, Nat.reduceLT, Int.reduceLT, Int.reduceLE, Int.reduceToNat, Nat.reduceAdd, Nat.reduceSub, Nat.reduceMul, Nat.reduceLeDiff, reduceCtorEq, del_same, del_none hp, z17, zs, zt, d1, ze, Bool.true_xor, Bool.not_true, Nat.le_refl, if_true]
        by_cases hb0 : b < 0
        · have c1 : decide (b < 0) = true := decide_eq_true hb0
          rw [if_pos hb0] at hln
          obtain ⟨rfl, rfl⟩ := hln
          simp only [go_sem, Int.reduceEq, Int.reduceAdd, Int.reduceSub, Int.reduceMul, Nat.reduceLT, Int.reduceLT, Int.reduceLE, Int.reduceToNat, Nat.reduceAdd, Nat.reduceSub, Nat.reduceMul, Nat.reduceLeDiff, reduceCtorEq, c1]
          refine (known_spec _).use ?_
          simp only [go_sem, Int.reduceEq, Int.reduceAdd, Int.reduceSub, Int.reduceMul, Nat.reduceLT, Int.reduceLT, Int.reduceLE, Int.reduceToNat, Nat.reduceAdd, Nat.reduceSub, Nat.reduceMul, Nat.reduceLeDiff, reduceCtorEq]
          (refine hQ _ _ _ _ _ (by first | exact .inr rfl | exact .inl rfl) rfl (by first | exact FzH.refl _ | exact FzH.sub (by (repeat' (first | exact Sub.refl _ | assumption | (refine Sub.upd ?_ (by first | assumption | (simp only [*]; done) | exact Sub.isNone (by assumption) (by assumption) | exact Sub.isNone (by assumption) (by simp only [*]))))))) (FzL.refl _ _ _) ?_; try (simp only [go_sem, Int.reduceEq, Int.reduceAdd, Int.reduceSub, Int.reduceMul, Nat.reduceLT, Int.reduceLT, Int.reduceLE, Int.reduceToNat, Nat.reduceAdd, Nat.reduceSub, Nat.reduceMul, Nat.reduceLeDiff, reduceCtorEq]))
        · have c1 : decide (b < 0) = false := decide_eq_false hb0
          rw [if_neg hb0] at hln
          obtain ⟨rfl, rfl⟩ := hln
          simp only [go_sem, Int.reduceEq, Int.reduceAdd, Int.reduceSub, Int.reduceMul, Nat.reduceLT, Int.reduceLT, Int.reduceLE, Int.reduceToNat, Nat.reduceAdd, Nat.reduceSub, Nat.reduceMul, Nat.reduceLeDiff, reduceCtorEq, c1]
          refine (known_spec _).use ?_
          simp only [go_sem, Int.reduceEq, Int.reduceAdd, Int.reduceSub, Int.reduceMul, Nat.reduceLT, Int.reduceLT, Int.reduceLE, Int.reduceToNat, Nat.reduceAdd, Nat.reduceSub, Nat.reduceMul, Nat.reduceLeDiff, reduceCtorEq, decide_true]
          (refine hQ _ _ _ _ _ (by first | exact .inr rfl | exact .inl rfl) rfl (by first | exact FzH.refl _ | exact FzH.sub (by (repeat' (first | exact Sub.refl _ | assumption | (refine Sub.upd ?_ (by first | assumption | (simp only [*]; done) | exact Sub.isNone (by assumption) (by assumption) | exact Sub.isNone (by assumption) (by simp only [*]))))))) (FzL.refl _ _ _) ?_; try (simp only [go_sem, Int.reduceEq, Int.reduceAdd, Int.reduceSub, Int.reduceMul, Nat.reduceLT, Int.reduceLT, Int.reduceLE, Int.reduceToNat, Nat.reduceAdd, Nat.reduceSub, Nat.reduceMul, Nat.reduceLeDiff, reduceCtorEq]))
      · have d1 : decide (bits < 0) = false := decide_eq_false hneg
        have d2 : decide (128 < bits) = true := decide_eq_true (by omega)
        simp only [go_sem, Int.reduceEq, Int.reduceAdd, Int.reduceSub, Int.reduceMul, Nat.reduceLT, Int.reduceLT, Int.reduceLE, Int.reduceToNat, Nat.reduceAdd, Nat.reduceSub, Nat.reduceMul, Nat.reduceLeDiff, reduceCtorEq, del_same, del_none hp, z17, zs, zt, d1, d2, ze, Bool.true_xor, Bool.not_true, Nat.le_refl, if_true]
        by_cases hb0 : b < 0
        · have c1 : decide (b < 0) = true := decide_eq_true hb0
          rw [if_pos hb0] at hln
          obtain ⟨rfl, rfl⟩ := hln
          simp only [go_sem, Int.reduceEq, Int.reduceAdd, Int.reduceSub, Int.reduceMul, Nat.reduceLT, Int.reduceLT, Int.reduceLE, Int.reduceToNat, Nat.reduceAdd, Nat.reduceSub, Nat.reduceMul, Nat.reduceLeDiff, reduceCtorEq, c1]
          refine (known_spec _).use ?_
          simp only [go_sem, Int.reduceEq, Int.reduceAdd, Int.reduceSub, Int.reduceMul, Nat.reduceLT, Int.reduceLT, Int.reduceLE, Int.reduceToNat, Nat.reduceAdd, Nat.reduceSub, Nat.reduceMul, Nat.reduceLeDiff, reduceCtorEq]
          (refine hQ _ _ _ _ _ (by first | exact .inr rfl | exact .inl rfl) rfl (by first | exact FzH.refl _ | exact FzH.sub (by (repeat' (first | exact Sub.refl _ | assumption | (refine Sub.upd ?_ (by first | assumption | (simp only [*]; done) | exact Sub.isNone (by assumption) (by assumption) | exact Sub.isNone (by assumption) (by simp only [*]))))))) (FzL.refl _ _ _) ?_; try (simp only [go_sem, Int.reduceEq, Int.reduceAdd, Int.reduceSub, Int.reduceMul, Nat.reduceLT, Int.reduceLT, Int.reduceLE, Int.reduceToNat, Nat.reduceAdd, Nat.reduceSub, Nat.reduceMul, Nat.reduceLeDiff, reduceCtorEq]))
        · have c1 : decide (b < 0) = false := decide_eq_false hb0
          rw [if_neg hb0] at hln
          obtain ⟨rfl, rfl⟩ := hln
          simp only [go_sem, Int.reduceEq, Int.reduceAdd, Int.reduceSub, Int.reduceMul, Nat.reduceLT, Int.reduceLT, Int.reduceLE, Int.reduceToNat, Nat.reduceAdd, Nat.reduceSub, Nat.reduceMul, Nat.reduceLeDiff, reduceCtorEq, c1]
          refine (known_spec _).use ?_
          simp only [go_sem, Int.reduceEq, Int.reduceAdd, Int.reduceSub, Int.reduceMul, Nat.reduceLT, Int.reduceLT, Int.reduceLE, Int.reduceToNat, Nat.reduceAdd, Nat.reduceSub, Nat.reduceMul, Nat.reduceLeDiff, reduceCtorEq, decide_true]
          (refine hQ _ _ _ _ _ (by first | exact .inr rfl | exact .inl rfl) rfl (by first | exact FzH.refl _ | exact FzH.sub (by (repeat' (first | exact Sub.refl _ | assumption | (refine Sub.upd ?_ (by first | assumption | (simp only [*]; done) | exact Sub.isNone (by assumption) (by assumption) | exact Sub.isNone (by assumption) (by simp only [*]))))))) (FzL.refl _ _ _) ?_; try (simp only [go_sem, Int.reduceEq, Int.reduceAdd, Int.reduceSub, Int.reduceMul, Nat.reduceLT, Int.reduceLT, Int.reduceLE, Int.reduceToNat, Nat.reduceAdd, Nat.reduceSub, Nat.reduceMul, Nat.reduceLeDiff, reduceCtorEq]))

/-- Prefixes that come in. -/
theorem sh_pfx {els : List (List AV)} (h : ∀ el ∈ els, el.length = Tryd.prog.cellsOf 47 ∧ ShC Tryd.prog 5 47 el) : ∃ l : List Pf, els.flatten = cat encP l ∧ els.length = l.length := by
  obtain ⟨l, e1, e2, _⟩ := sh_list (enc := encP) (R := fun _ => True) (els := els) fun el hel => by
    have := (h el hel).2
    rw [ShC] at this
    simp only [Tryd.underlying47, ShFs] at this
    obtain ⟨_, _, rfl, _, hy, _, _, rfl, _, hn, rfl⟩ := this
    obtain ⟨a, rfl, ha⟩ := sh_addr Tryd.underlying22 Tryd.underlying5 hy
    simp only [ShC, Tryd.underlying3] at hn
    obtain ⟨n, rfl, _⟩ := hn
    exact ⟨⟨⟨a, ha⟩, n⟩, rfl, trivial⟩
  exact ⟨l, e1, e2⟩

theorem pref_law (xs : List AV) (h : ArgsSh Tryd.prog 6 Tryd.f7.params.toList xs) : PureA Tryd.prog 7 xs emp (.bool true) := by
  rw [Tryd.params7] at h
  simp only [ArgsSh, ArgSh, Tryd.underlying22, Tryd.underlying57, Tryd.underlying3] at h
  obtain ⟨_, _, rfl, ⟨ys, rfl, hy⟩, _, _, rfl, hx, _, _, rfl, hm, rfl⟩ := h
  obtain ⟨a, rfl, ha⟩ := sh_addr Tryd.underlying22 Tryd.underlying5 hy
  rw [ShC] at hx hm
  simp only [Tryd.underlying57] at hx
  simp only [Tryd.underlying3] at hm
  obtain ⟨els, e, hl, hels⟩ := hx
  obtain ⟨m, e2, _⟩ := hm
  cases e
  cases e2
  obtain ⟨l, e1, e2⟩ := sh_pfx hels
  rw [e1, e2]
  exact pref_walk a ha l (by omega) m

end Go.Proofs.YtdlghfekgecjjaaDoor
