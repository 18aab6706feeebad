/-
  AddrTexts on abstract values.
-/
import Derived.Test.YtdlghfekgecjjaaDoorAt
import Derived.Test.YtdlghfekgecjjaaDoorAi
import Derived.Test.YtdlghfekgecjjaaDoorAj
namespace Go.Proofs.YtdlghfekgecjjaaDoor
open Go E
set_option linter.unusedVariables false
set_option linter.unusedSimpArgs false
set_option maxRecDepth 100000

theorem parse_any (s : ByteArray) (hs : s.size ≤ 60) : ∃ r, (∀ h, PureA Tryd.prog 10 [.str s] h r) ∧ ((∃ A, isA A ∧ r = .tup [.agg (cat b1 A), .int .i64 0] ∧ s = strOfNums (textL A)) ∨ (r = noA ∧ ∀ A, isA A → s ≠ strOfNums (textL A))) := by
  by_cases hx : ∃ A, isA A ∧ s = strOfNums (textL A)
  · obtain ⟨A, hA, rfl⟩ := hx
    exact ⟨_, parse_text A hA, .inl ⟨A, hA, rfl, rfl⟩⟩
  · obtain ⟨r, h1, h2 | h2⟩ := parse_gen s hs
    · exact ⟨r, h1, .inl h2⟩
    · exact ⟨r, h1, .inr ⟨h2, fun A hA e => hx ⟨A, hA, e⟩⟩⟩

theorem eqI_self : ∀ (g : List Int), eqCells (List.replicate g.length .i) (cat i1 g) (cat i1 g) = some true
  | [] => rfl
  | x :: g => by
    have ih := eqI_self g
    have e : cat i1 (x :: g) = .int .i64 x :: cat i1 g := rfl
    rw [e, List.length_cons, List.replicate_succ]
    simp only [eqCells, eqCell, if_true, ih, decide_true, Bool.and_self]
theorem eqI8 {g : List Int} (h8 : g.length = 8) : eqCells [.i, .i, .i, .i, .i, .i, .i, .i] (cat i1 g) (cat i1 g) = some true := by
  have := eqI_self g
  rw [h8] at this
  exact this

set_option maxHeartbeats 4000000 in
theorem texts_walk (a : List Int) (ha : isA a) (s0 : ByteArray) (hs0 : s0.size ≤ maxLen) : PureA Tryd.prog 3 [.agg (cat b1 a), .str s0] emp (.bool true) := by
  have hm := maxLen_le
  have e0 : (if (60 : Int) < (s0.size : Int) then (60 : Int) else (s0.size : Int)) = ((min 60 s0.size : Nat) : Int) := by split <;> omega
  have e1 : strA s0 none (some (.int .i64 ((min 60 s0.size : Nat) : Int))) = some (.str (s0.extract 0 (min 60 s0.size))) := by
    have h1 : (0 : Int) ≤ ((min 60 s0.size : Nat) : Int) ∧ ((min 60 s0.size : Nat) : Int) ≤ (s0.size : Int) := by omega
    simp only [strA, bnd, if_pos h1, Int.toNat_natCast]
  have hsz : (s0.extract 0 (min 60 s0.size)).size ≤ 60 := by rw [ByteArray.size_extract]; omega
  generalize hs' : s0.extract 0 (min 60 s0.size) = s at *
  have la : (cat b1 a).length = 16 := by rw [cat_len b1_len, ha.1]
  have ta : (cat b1 a).take 16 = cat b1 a := List.take_of_length_le (by omega)
  have sa := cat_sca b1_sca a
  have h8 := grps_len a
  have lg : (cat i1 (grps a)).length = 8 := by rw [cat_len i1_len, h8]
  have tg : (cat i1 (grps a)).take 8 = cat i1 (grps a) := List.take_of_length_le (by omega)
  have sg := cat_sca i1_sca (grps a)
  have hof := of_spec (grps a)
  have hV : ofV (grps a) = .tup [.agg (cat b1 a), .int .i64 0] := by
    unfold ofV
    rw [if_pos (ofOk_grps ha), ofG_grps ha]
  rw [hV] at hof
  have hall := arr_all h8
  have eI := eqI8 h8
  have eA : eqCells [.i, .i, .i, .i, .i, .i, .i, .i, .i, .i, .i, .i, .i, .i, .i, .i] (cat b1 a) (cat b1 a) = some (decide (a = a)) := eq16 ha.1 ha.1
  have dA : decide (a = a) = true := decide_eq_true rfl
  have hT := text_spec a ha
  have hR := rtext_spec a ha
  rw [rtext_eq _ (grps_bound ha) h8, show textG (grps a) = textL a from rfl] at hR
  have hP := parse_text a ha
  obtain ⟨r, hr, hcase⟩ := parse_any s hsz
  (refine PureA.enter (ac := c3) (rs := r3) Tryd.func3 rfl (by decide) c3_ok r3_ok ?_; intro Q hQ; simp only [go_sem, Int.reduceEq, Int.reduceAdd, Int.reduceSub, Int.reduceMul, Nat.reduceLT, Int.reduceLT, Int.reduceLE, Int.reduceToNat, Nat.reduceAdd, Nat.reduceSub, Nat.reduceMul, Nat.reduceLeDiff, reduceCtorEq, c3, Tryd.ntmps3, lenA_str, e0, Option.map_none, Option.map_some, e1, la, ta, Nat.le_refl, if_true])
  refine (groups_spec a ha _).use ?_
  simp only [go_sem, Int.reduceEq, Int.reduceAdd, Int.reduceSub, Int.reduceMul, Nat.reduceLT, Int.reduceLT, Int.reduceLE, Int.reduceToNat, Nat.reduceAdd, Nat.reduceSub, Nat.reduceMul, Nat.reduceLeDiff, reduceCtorEq]
  intro q1 hq1
  simp only [go_sem, Int.reduceEq, Int.reduceAdd, Int.reduceSub, Int.reduceMul, Nat.reduceLT, Int.reduceLT, Int.reduceLE, Int.reduceToNat, Nat.reduceAdd, Nat.reduceSub, Nat.reduceMul, Nat.reduceLeDiff, reduceCtorEq, del_same, del_none hq1, lg, tg, sg, hall, Nat.le_refl, if_true]
  refine (hof true _ (by omega)).use ?_
  simp only [go_sem, Int.reduceEq, Int.reduceAdd, Int.reduceSub, Int.reduceMul, Nat.reduceLT, Int.reduceLT, Int.reduceLE, Int.reduceToNat, Nat.reduceAdd, Nat.reduceSub, Nat.reduceMul, Nat.reduceLeDiff, reduceCtorEq]
  intro q2 hq2
  simp only [go_sem, Int.reduceEq, Int.reduceAdd, Int.reduceSub, Int.reduceMul, Nat.reduceLT, Int.reduceLT, Int.reduceLE, Int.reduceToNat, Nat.reduceAdd, Nat.reduceSub, Nat.reduceMul, Nat.reduceLeDiff, reduceCtorEq, del_same, del_none hq2, la, ta, sa, Nat.le_refl, if_true]
  refine (hT _).use ?_
  simp only [go_sem, Int.reduceEq, Int.reduceAdd, Int.reduceSub, Int.reduceMul, Nat.reduceLT, Int.reduceLT, Int.reduceLE, Int.reduceToNat, Nat.reduceAdd, Nat.reduceSub, Nat.reduceMul, Nat.reduceLeDiff, reduceCtorEq]
  refine (hP _).use ?_
  simp only [go_sem, Int.reduceEq, Int.reduceAdd, Int.reduceSub, Int.reduceMul, Nat.reduceLT, Int.reduceLT, Int.reduceLE, Int.reduceToNat, Nat.reduceAdd, Nat.reduceSub, Nat.reduceMul, Nat.reduceLeDiff, reduceCtorEq]
  intro q3 hq3
  simp only [go_sem, Int.reduceEq, Int.reduceAdd, Int.reduceSub, Int.reduceMul, Nat.reduceLT, Int.reduceLT, Int.reduceLE, Int.reduceToNat, Nat.reduceAdd, Nat.reduceSub, Nat.reduceMul, Nat.reduceLeDiff, reduceCtorEq, del_same, del_none hq3, la, ta, sa, Nat.le_refl, if_true]
  refine (hr _).use ?_
  rcases hcase with ⟨A, hA, rfl, hsA⟩ | ⟨rfl, hno⟩
  · have lA : (cat b1 A).length = 16 := by rw [cat_len b1_len, hA.1]
    have tA : (cat b1 A).take 16 = cat b1 A := List.take_of_length_le (by omega)
    have sA := cat_sca b1_sca A
    have hRA := rtext_spec A hA
    rw [rtext_eq _ (grps_bound hA) (grps_len A), show textG (grps A) = textL A from rfl, ← hsA] at hRA
    simp only [go_sem, Int.reduceEq, Int.reduceAdd, Int.reduceSub, Int.reduceMul, Nat.reduceLT, Int.reduceLT, Int.reduceLE, Int.reduceToNat, Nat.reduceAdd, Nat.reduceSub, Nat.reduceMul, Nat.reduceLeDiff, reduceCtorEq]
    intro q4 hq4
    simp only [go_sem, Int.reduceEq, Int.reduceAdd, Int.reduceSub, Int.reduceMul, Nat.reduceLT, Int.reduceLT, Int.reduceLE, Int.reduceToNat, Nat.reduceAdd, Nat.reduceSub, Nat.reduceMul, Nat.reduceLeDiff, reduceCtorEq, del_same, del_none hq4, la, ta, sa, lA, tA, sA, lg, tg, Nat.le_refl, if_true]
    refine (rgroups_spec a ha _).use ?_
    simp only [go_sem, Int.reduceEq, Int.reduceAdd, Int.reduceSub, Int.reduceMul, Nat.reduceLT, Int.reduceLT, Int.reduceLE, Int.reduceToNat, Nat.reduceAdd, Nat.reduceSub, Nat.reduceMul, Nat.reduceLeDiff, reduceCtorEq, eI, eA, dA, la, ta, lg, tg, Nat.le_refl, if_true]
    refine (hT _).use ?_
    simp only [go_sem, Int.reduceEq, Int.reduceAdd, Int.reduceSub, Int.reduceMul, Nat.reduceLT, Int.reduceLT, Int.reduceLE, Int.reduceToNat, Nat.reduceAdd, Nat.reduceSub, Nat.reduceMul, Nat.reduceLeDiff, reduceCtorEq, la, ta, Nat.le_refl, if_true]
    refine (hR _).use ?_
    simp only [go_sem, Int.reduceEq, Int.reduceAdd, Int.reduceSub, Int.reduceMul, Nat.reduceLT, Int.reduceLT, Int.reduceLE, Int.reduceToNat, Nat.reduceAdd, Nat.reduceSub, Nat.reduceMul, Nat.reduceLeDiff, reduceCtorEq, beq_self_eq_true, eA, dA, la, ta, Nat.le_refl, if_true]
    refine (known_spec _).use ?_
    simp only [go_sem, Int.reduceEq, Int.reduceAdd, Int.reduceSub, Int.reduceMul, Nat.reduceLT, Int.reduceLT, Int.reduceLE, Int.reduceToNat, Nat.reduceAdd, Nat.reduceSub, Nat.reduceMul, Nat.reduceLeDiff, reduceCtorEq, lA, tA, Nat.le_refl, if_true]
    refine (hRA _).use ?_
    simp only [go_sem, Int.reduceEq, Int.reduceAdd, Int.reduceSub, Int.reduceMul, Nat.reduceLT, Int.reduceLT, Int.reduceLE, Int.reduceToNat, Nat.reduceAdd, Nat.reduceSub, Nat.reduceMul, Nat.reduceLeDiff, reduceCtorEq, beq_self_eq_true]
    (refine hQ _ _ _ _ _ (by first | exact .inr rfl | exact .inl rfl) rfl (by first | exact FzH.refl _ | exact FzH.sub (by (repeat' (first | exact Sub.refl _ | assumption | (refine Sub.upd ?_ (by first | assumption | (simp only [*]; done) | exact Sub.isNone (by assumption) (by assumption) | exact Sub.isNone (by assumption) (by simp only [*]))))))) (FzL.refl _ _ _) ?_; try (simp only [go_sem, Int.reduceEq, Int.reduceAdd, Int.reduceSub, Int.reduceMul, Nat.reduceLT, Int.reduceLT, Int.reduceLE, Int.reduceToNat, Nat.reduceAdd, Nat.reduceSub, Nat.reduceMul, Nat.reduceLeDiff, reduceCtorEq]))
  · unfold noA
    have lA : (cat b1 zeroA).length = 16 := rfl
    have tA : (cat b1 zeroA).take 16 = cat b1 zeroA := rfl
    have sA := cat_sca b1_sca zeroA
    have eZ : eqCells [.i, .i, .i, .i, .i, .i, .i, .i, .i, .i, .i, .i, .i, .i, .i, .i] (cat b1 zeroA) [.int .u8 0, .int .u8 0, .int .u8 0, .int .u8 0, .int .u8 0, .int .u8 0, .int .u8 0, .int .u8 0, .int .u8 0, .int .u8 0, .int .u8 0, .int .u8 0, .int .u8 0, .int .u8 0, .int .u8 0, .int .u8 0] = some true := rfl
    have hbq : (s.toList == (strOfNums (textL a)).toList) = false := by
      rw [Lib.toList_data, Lib.toList_data]
      apply Bool.eq_false_iff.2
      intro e
      exact hno a ha (data_inj (eq_of_beq e))
    simp only [go_sem, Int.reduceEq, Int.reduceAdd, Int.reduceSub, Int.reduceMul, Nat.reduceLT, Int.reduceLT, Int.reduceLE, Int.reduceToNat, Nat.reduceAdd, Nat.reduceSub, Nat.reduceMul, Nat.reduceLeDiff, reduceCtorEq]
    intro q4 hq4
    simp only [go_sem, Int.reduceEq, Int.reduceAdd, Int.reduceSub, Int.reduceMul, Nat.reduceLT, Int.reduceLT, Int.reduceLE, Int.reduceToNat, Nat.reduceAdd, Nat.reduceSub, Nat.reduceMul, Nat.reduceLeDiff, reduceCtorEq, del_same, del_none hq4, la, ta, sa, lA, tA, sA, lg, tg, Nat.le_refl, if_true]
    refine (rgroups_spec a ha _).use ?_
    simp only [go_sem, Int.reduceEq, Int.reduceAdd, Int.reduceSub, Int.reduceMul, Nat.reduceLT, Int.reduceLT, Int.reduceLE, Int.reduceToNat, Nat.reduceAdd, Nat.reduceSub, Nat.reduceMul, Nat.reduceLeDiff, reduceCtorEq, eI, eA, dA, la, ta, lg, tg, Nat.le_refl, if_true]
    refine (hT _).use ?_
    simp only [go_sem, Int.reduceEq, Int.reduceAdd, Int.reduceSub, Int.reduceMul, Nat.reduceLT, Int.reduceLT, Int.reduceLE, Int.reduceToNat, Nat.reduceAdd, Nat.reduceSub, Nat.reduceMul, Nat.reduceLeDiff, reduceCtorEq, la, ta, Nat.le_refl, if_true]
    refine (hR _).use ?_
    simp only [go_sem, Int.reduceEq, Int.reduceAdd, Int.reduceSub, Int.reduceMul, Nat.reduceLT, Int.reduceLT, Int.reduceLE, Int.reduceToNat, Nat.reduceAdd, Nat.reduceSub, Nat.reduceMul, Nat.reduceLeDiff, reduceCtorEq, beq_self_eq_true, eA, dA, la, ta, Nat.le_refl, if_true]
    refine (known_spec _).use ?_
    simp only [go_sem, Int.reduceEq, Int.reduceAdd, Int.reduceSub, Int.reduceMul, Nat.reduceLT, Int.reduceLT, Int.reduceLE, Int.reduceToNat, Nat.reduceAdd, Nat.reduceSub, Nat.reduceMul, Nat.reduceLeDiff, reduceCtorEq, lA, tA, eZ, la, ta, Nat.le_refl, if_true]
    refine (hR _).use ?_
    simp only [go_sem, Int.reduceEq, Int.reduceAdd, Int.reduceSub, Int.reduceMul, Nat.reduceLT, Int.reduceLT, Int.reduceLE, Int.reduceToNat, Nat.reduceAdd, Nat.reduceSub, Nat.reduceMul, Nat.reduceLeDiff, reduceCtorEq, hbq]
    (refine hQ _ _ _ _ _ (by first | exact .inr rfl | exact .inl rfl) rfl (by first | exact FzH.refl _ | exact FzH.sub (by (repeat' (first | exact Sub.refl _ | assumption | (refine Sub.upd ?_ (by first | assumption | (simp only [*]; done) | exact Sub.isNone (by assumption) (by assumption) | exact Sub.isNone (by assumption) (by simp only [*]))))))) (FzL.refl _ _ _) ?_; try (simp only [go_sem, Int.reduceEq, Int.reduceAdd, Int.reduceSub, Int.reduceMul, Nat.reduceLT, Int.reduceLT, Int.reduceLE, Int.reduceToNat, Nat.reduceAdd, Nat.reduceSub, Nat.reduceMul, Nat.reduceLeDiff, reduceCtorEq]))

theorem texts_law (xs : List AV) (h : ArgsSh Tryd.prog 6 Tryd.f3.params.toList xs) : PureA Tryd.prog 3 xs emp (.bool true) := by
  rw [Tryd.params3] at h
  simp only [ArgsSh, ArgSh, Tryd.underlying22, Tryd.underlying9] at h
  obtain ⟨_, _, rfl, ⟨ys, rfl, hy⟩, _, _, rfl, hm, rfl⟩ := h
  obtain ⟨a, rfl, ha⟩ := sh_addr Tryd.underlying22 Tryd.underlying5 hy
  rw [ShC] at hm
  simp only [Tryd.underlying9] at hm
  obtain ⟨s, e2, hs⟩ := hm
  cases e2
  exact texts_walk a ha s hs

end Go.Proofs.YtdlghfekgecjjaaDoor
