/-
  AddrNodes on abstract values.
-/
import Derived.Test.YtdlghfekgecjjaaDoorAm
import Derived.Test.YtdlghfekgecjjaaDoorAn
namespace Go.Proofs.YtdlghfekgecjjaaDoor
open Go E
set_option linter.unusedVariables false
set_option linter.unusedSimpArgs false
set_option maxRecDepth 100000

theorem linkV_is (n : Int) : ∃ L e, linkV n = .tup [.agg (cat b1 L), .int .i64 e] ∧ L.length = 16 ∧ (isNode n = true → L = linkL n ∧ e = 0) ∧ (isNode n = false → e = 1) := by
  unfold linkV
  cases isNode n
  · exact ⟨_, _, rfl, rfl, by simp, by simp⟩
  · exact ⟨_, _, rfl, rfl, by simp, by simp⟩
theorem globV_is (p : List Int) (hp : isA p) (bits n : Int) : ∃ B f, globV p bits n = .tup [.agg (cat b1 B), .int .i64 f] ∧ B.length = 16 ∧ (globOk p bits n = true → B = globL p n ∧ f = 0) ∧ (globOk p bits n = false → B = zeroA ∧ f = 1) := by
  unfold globV
  cases globOk p bits n
  · exact ⟨_, _, rfl, rfl, by simp, by simp⟩
  · refine ⟨_, _, rfl, ?_, by simp, by simp⟩
    simp [globL, hp.1, linkL]
theorem nodeV_is (a : List Int) : ∃ M g, nodeV (grps a) = .tup [.int .i64 M, .int .i64 g] ∧ (decide (rnodeI a < 0) = true ∧ decide (0 ≤ rnodeI a) = false ∧ g = 8 ∨ decide (rnodeI a < 0) = false ∧ decide (0 ≤ rnodeI a) = true ∧ g = 0 ∧ M = rnodeI a) := by
  unfold nodeV rnodeI
  cases e : nodeOk (grps a)
  · exact ⟨_, _, rfl, .inl ⟨rfl, rfl, rfl⟩⟩
  · have e2 := e
    simp only [nodeOk, isNode, Bool.and_eq_true, decide_eq_true_eq] at e2
    refine ⟨_, _, rfl, .inr ⟨?_, ?_, rfl, ?_⟩⟩
    · rw [if_pos rfl]; exact decide_eq_false (by omega)
    · rw [if_pos rfl]; exact decide_eq_true (by omega)
    · rw [if_pos rfl]

theorem rdP {h : AHeap} {l : List Int} {bits : Int} {k : Nat} (hk : k < l.length) : aload h (.rp ((pfx l bits).drop k)) = some (.int .u8 l[k]) := by
  have e : (pfx l bits).drop k = (cat b1 l).drop k ++ [.int .i64 bits] := by
    rw [pfx, List.drop_append_of_le_length (by rw [cat_len b1_len]; omega)]
  have := rdB (h := h) hk
  rw [e]
  cases e2 : (cat b1 l).drop k with
  | nil => rw [e2] at this; cases this
  | cons x r => rw [e2] at this; exact this
theorem globL_lo {p : List Int} {n : Int} (hp : isA p) {i : Nat} (h8 : i < 8) {h1 : i < (globL p n).length} {h2 : i < p.length} : (globL p n)[i] = p[i] := by
  have hl := hp.1
  simp only [globL]
  rw [List.getElem_append_left (by simp; omega)]
  simp
theorem globL_hi {p : List Int} {n : Int} (hp : isA p) {i : Nat} (h8 : ¬ i < 8) (h16 : i < 16) {h1 : i < (globL p n).length} {h2 : i < (linkL n).length} : (globL p n)[i] = (linkL n)[i] := by
  have hl := hp.1
  have l8 : (p.take 8).length = 8 := by simp; omega
  simp only [globL]
  rw [List.getElem_append_right (by omega)]
  simp only [l8, List.getElem_drop]
  congr 1
  omega

set_option maxHeartbeats 4000000 in
theorem nodes_walk (n : Int) (p : List Int) (hp : isA p) (bits : Int) (a : List Int) (ha : isA a) : PureA Tryd.prog 6 [.int .i64 n, .agg (pfx p bits), .agg (cat b1 a)] emp (.bool true) := by
  have la : (cat b1 a).length = 16 := by rw [cat_len b1_len, ha.1]
  have lp : (cat b1 p).length = 16 := by rw [cat_len b1_len, hp.1]
  have ta : (cat b1 a).take 16 = cat b1 a := List.take_of_length_le (by omega)
  have tp : (cat b1 p).take 16 = cat b1 p := List.take_of_length_le (by omega)
  have l17 := pfx_len (n := bits) hp.1
  have t16 := pfx_take (n := bits) hp.1
  have t17 : (pfx p bits).take 17 = pfx p bits := List.take_of_length_le (by omega)
  have d16 := pfx_drop (n := bits) hp.1
  have s17 : (pfx p bits).all scalar = true := by rw [pfx, List.all_append, cat_sca b1_sca]; rfl
  have hfill : (if 17 ≤ (cat b1 p ++ [AV.int .i64 0]).length then some (List.take 16 (cat b1 p ++ [AV.int .i64 0]) ++ [AV.int .i64 bits] ++ List.drop 17 (cat b1 p ++ [AV.int .i64 0])) else none) = some (pfx p bits) := pfill hp.1
  obtain ⟨L, e, eL, lL, hL1, hL0⟩ := linkV_is n
  obtain ⟨B, f, eB, lB, hB1, hB0⟩ := globV_is p hp bits n
  obtain ⟨M, g, eM, hM⟩ := nodeV_is a
  have kL : (cat b1 L).length = 16 := by rw [cat_len b1_len, lL]
  have tL : (cat b1 L).take 16 = cat b1 L := List.take_of_length_le (by omega)
  have sL := cat_sca b1_sca L
  have kB : (cat b1 B).length = 16 := by rw [cat_len b1_len, lB]
  have tB : (cat b1 B).take 16 = cat b1 B := List.take_of_length_le (by omega)
  have sB := cat_sca b1_sca B
  (refine PureA.enter (ac := c6) (rs := r6) Tryd.func6 rfl (by decide) c6_ok r6_ok ?_; intro Q hQ; simp only [go_sem, Int.reduceEq, Int.reduceAdd, Int.reduceSub, Int.reduceMul, Nat.reduceLT, Int.reduceLT, Int.reduceLE, Int.reduceToNat, Nat.reduceAdd, Nat.reduceSub, Nat.reduceMul, Nat.reduceLeDiff, reduceCtorEq, c6, Tryd.ntmps6])
  refine (link_spec n _).use ?_
  simp only [go_sem, Int.reduceEq, Int.reduceAdd, Int.reduceSub, Int.reduceMul, Nat.reduceLT, Int.reduceLT, Int.reduceLE, Int.reduceToNat, Nat.reduceAdd, Nat.reduceSub, Nat.reduceMul, Nat.reduceLeDiff, reduceCtorEq, eL]
  intro q1 hq1
  simp only [go_sem, Int.reduceEq, Int.reduceAdd, Int.reduceSub, Int.reduceMul, Nat.reduceLT, Int.reduceLT, Int.reduceLE, Int.reduceToNat, Nat.reduceAdd, Nat.reduceSub, Nat.reduceMul, Nat.reduceLeDiff, reduceCtorEq, del_same, del_none hq1, kL, tL, sL, l17, t16, d16, lp, tp, Nat.le_refl, if_true]
  rw [hfill]
  simp only [go_sem, Int.reduceEq, Int.reduceAdd, Int.reduceSub, Int.reduceMul, Nat.reduceLT, Int.reduceLT, Int.reduceLE, Int.reduceToNat, Nat.reduceAdd, Nat.reduceSub, Nat.reduceMul, Nat.reduceLeDiff, reduceCtorEq]
  intro q2 hq2
  simp only [go_sem, Int.reduceEq, Int.reduceAdd, Int.reduceSub, Int.reduceMul, Nat.reduceLT, Int.reduceLT, Int.reduceLE, Int.reduceToNat, Nat.reduceAdd, Nat.reduceSub, Nat.reduceMul, Nat.reduceLeDiff, reduceCtorEq, del_same, del_none hq2, l17, t17, s17, Nat.le_refl, if_true]
  refine (global_spec p hp bits n _).use ?_
  simp only [go_sem, Int.reduceEq, Int.reduceAdd, Int.reduceSub, Int.reduceMul, Nat.reduceLT, Int.reduceLT, Int.reduceLE, Int.reduceToNat, Nat.reduceAdd, Nat.reduceSub, Nat.reduceMul, Nat.reduceLeDiff, reduceCtorEq, eB]
  intro q3 hq3
  simp only [go_sem, Int.reduceEq, Int.reduceAdd, Int.reduceSub, Int.reduceMul, Nat.reduceLT, Int.reduceLT, Int.reduceLE, Int.reduceToNat, Nat.reduceAdd, Nat.reduceSub, Nat.reduceMul, Nat.reduceLeDiff, reduceCtorEq, del_same, del_none hq3, kB, tB, sB, la, ta, Nat.le_refl, if_true]
  refine (nodeA_spec a ha _).use ?_
  simp only [go_sem, Int.reduceEq, Int.reduceAdd, Int.reduceSub, Int.reduceMul, Nat.reduceLT, Int.reduceLT, Int.reduceLE, Int.reduceToNat, Nat.reduceAdd, Nat.reduceSub, Nat.reduceMul, Nat.reduceLeDiff, reduceCtorEq, eM, la, ta, Nat.le_refl, if_true]
  refine (rnode_spec a ha _).use ?_
  simp only [go_sem, Int.reduceEq, Int.reduceAdd, Int.reduceSub, Int.reduceMul, Nat.reduceLT, Int.reduceLT, Int.reduceLE, Int.reduceToNat, Nat.reduceAdd, Nat.reduceSub, Nat.reduceMul, Nat.reduceLeDiff, reduceCtorEq, la, ta, Nat.le_refl, if_true]
  have hal : 0 < a.length := by rw [ha.1]; decide
  have hd0 : (cat b1 a).head? = some (.int .u8 (a.getD 0 0)) := by
    cases a with
    | nil => simp at hal
    | cons x r => rfl
  have eZ : eqCells [.i, .i, .i, .i, .i, .i, .i, .i, .i, .i, .i, .i, .i, .i, .i, .i] (cat b1 zeroA) [.int .u8 0, .int .u8 0, .int .u8 0, .int .u8 0, .int .u8 0, .int .u8 0, .int .u8 0, .int .u8 0, .int .u8 0, .int .u8 0, .int .u8 0, .int .u8 0, .int .u8 0, .int .u8 0, .int .u8 0, .int .u8 0] = some true := rfl
  rcases hM with ⟨h1, h2, rfl⟩ | ⟨h1, h2, rfl, rfl⟩ <;> (
    simp only [go_sem, Int.reduceEq, Int.reduceAdd, Int.reduceSub, Int.reduceMul, Nat.reduceLT, Int.reduceLT, Int.reduceLE, Int.reduceToNat, Nat.reduceAdd, Nat.reduceSub, Nat.reduceMul, Nat.reduceLeDiff, reduceCtorEq, h1, h2, la, ta, hd0, Nat.le_refl, if_true, decide_true]
    refine (mcast_spec a ha _).use ?_
    simp only [go_sem, Int.reduceEq, Int.reduceAdd, Int.reduceSub, Int.reduceMul, Nat.reduceLT, Int.reduceLT, Int.reduceLE, Int.reduceToNat, Nat.reduceAdd, Nat.reduceSub, Nat.reduceMul, Nat.reduceLeDiff, reduceCtorEq, hd0]
    cases en : isNode n
    · have eo : globOk p bits n = false := by simp [globOk, en]
      obtain rfl := hL0 en
      obtain ⟨rfl, rfl⟩ := hB0 eo
      by_cases hn0 : n < 0
      · have c1 : decide (n < 0) = true := decide_eq_true hn0
        simp only [go_sem, Int.reduceEq, Int.reduceAdd, Int.reduceSub, Int.reduceMul, Nat.reduceLT, Int.reduceLT, Int.reduceLE, Int.reduceToNat, Nat.reduceAdd, Nat.reduceSub, Nat.reduceMul, Nat.reduceLeDiff, reduceCtorEq, c1]
        refine (known_spec _).use ?_
        simp only [go_sem, Int.reduceEq, Int.reduceAdd, Int.reduceSub, Int.reduceMul, Nat.reduceLT, Int.reduceLT, Int.reduceLE, Int.reduceToNat, Nat.reduceAdd, Nat.reduceSub, Nat.reduceMul, Nat.reduceLeDiff, reduceCtorEq]
        (refine hQ _ _ _ _ _ (by first | exact .inr rfl | exact .inl rfl) rfl (by first | exact FzH.refl _ | exact FzH.sub (by (repeat' (first | exact Sub.refl _ | assumption | (refine Sub.upd ?_ (by first | assumption | (simp only [*]; done) | exact Sub.isNone (by assumption) (by assumption) | exact Sub.isNone (by assumption) (by simp only [*]))))))) (FzL.refl _ _ _) ?_; try (simp only [go_sem, Int.reduceEq, Int.reduceAdd, Int.reduceSub, Int.reduceMul, Nat.reduceLT, Int.reduceLT, Int.reduceLE, Int.reduceToNat, Nat.reduceAdd, Nat.reduceSub, Nat.reduceMul, Nat.reduceLeDiff, reduceCtorEq]))
      · have c1 : decide (n < 0) = false := decide_eq_false hn0
        have c2 : decide (63 < n) = true := by simp [isNode] at en; exact decide_eq_true (by omega)
        simp only [go_sem, Int.reduceEq, Int.reduceAdd, Int.reduceSub, Int.reduceMul, Nat.reduceLT, Int.reduceLT, Int.reduceLE, Int.reduceToNat, Nat.reduceAdd, Nat.reduceSub, Nat.reduceMul, Nat.reduceLeDiff, reduceCtorEq, c1, c2]
        refine (known_spec _).use ?_
        simp only [go_sem, Int.reduceEq, Int.reduceAdd, Int.reduceSub, Int.reduceMul, Nat.reduceLT, Int.reduceLT, Int.reduceLE, Int.reduceToNat, Nat.reduceAdd, Nat.reduceSub, Nat.reduceMul, Nat.reduceLeDiff, reduceCtorEq]
        (refine hQ _ _ _ _ _ (by first | exact .inr rfl | exact .inl rfl) rfl (by first | exact FzH.refl _ | exact FzH.sub (by (repeat' (first | exact Sub.refl _ | assumption | (refine Sub.upd ?_ (by first | assumption | (simp only [*]; done) | exact Sub.isNone (by assumption) (by assumption) | exact Sub.isNone (by assumption) (by simp only [*]))))))) (FzL.refl _ _ _) ?_; try (simp only [go_sem, Int.reduceEq, Int.reduceAdd, Int.reduceSub, Int.reduceMul, Nat.reduceLT, Int.reduceLT, Int.reduceLE, Int.reduceToNat, Nat.reduceAdd, Nat.reduceSub, Nat.reduceMul, Nat.reduceLeDiff, reduceCtorEq]))
    · have en2 := en
      simp only [isNode, Bool.and_eq_true, decide_eq_true_eq] at en2
      have c1 : decide (n < 0) = false := decide_eq_false (by omega)
      have c2 : decide (63 < n) = false := decide_eq_false (by omega)
      obtain ⟨rfl, rfl⟩ := hL1 en
      have eE : eqCells [.i, .i, .i, .i, .i, .i, .i, .i, .i, .i, .i, .i, .i, .i, .i, .i] (cat b1 (linkL n)) (cat b1 (linkL n)) = some (decide (linkL n = linkL n)) := eq16 rfl rfl
      have dz : decide (linkL n = linkL n) = true := decide_eq_true rfl
      simp only [go_sem, Int.reduceEq, Int.reduceAdd, Int.reduceSub, Int.reduceMul, Nat.reduceLT, Int.reduceLT, Int.reduceLE, Int.reduceToNat, Nat.reduceAdd, Nat.reduceSub, Nat.reduceMul, Nat.reduceLeDiff, reduceCtorEq, c1, c2, kL, tL, Nat.le_refl, if_true]
      refine (rlink_spec n en _).use ?_
      simp only [go_sem, Int.reduceEq, Int.reduceAdd, Int.reduceSub, Int.reduceMul, Nat.reduceLT, Int.reduceLT, Int.reduceLE, Int.reduceToNat, Nat.reduceAdd, Nat.reduceSub, Nat.reduceMul, Nat.reduceLeDiff, reduceCtorEq, eE, dz, kL, tL, l17, t17, Nat.le_refl, if_true]
      refine (rright_spec p hp bits _).use ?_
      cases er : rightB p bits
      · have eo : globOk p bits n = false := by simp [globOk, er]
        obtain ⟨rfl, rfl⟩ := hB0 eo
        simp only [go_sem, Int.reduceEq, Int.reduceAdd, Int.reduceSub, Int.reduceMul, Nat.reduceLT, Int.reduceLT, Int.reduceLE, Int.reduceToNat, Nat.reduceAdd, Nat.reduceSub, Nat.reduceMul, Nat.reduceLeDiff, reduceCtorEq]
        refine (known_spec _).use ?_
        simp only [go_sem, Int.reduceEq, Int.reduceAdd, Int.reduceSub, Int.reduceMul, Nat.reduceLT, Int.reduceLT, Int.reduceLE, Int.reduceToNat, Nat.reduceAdd, Nat.reduceSub, Nat.reduceMul, Nat.reduceLeDiff, reduceCtorEq, kB, tB, eZ, Nat.le_refl, if_true]
        (refine hQ _ _ _ _ _ (by first | exact .inr rfl | exact .inl rfl) rfl (by first | exact FzH.refl _ | exact FzH.sub (by (repeat' (first | exact Sub.refl _ | assumption | (refine Sub.upd ?_ (by first | assumption | (simp only [*]; done) | exact Sub.isNone (by assumption) (by assumption) | exact Sub.isNone (by assumption) (by simp only [*]))))))) (FzL.refl _ _ _) ?_; try (simp only [go_sem, Int.reduceEq, Int.reduceAdd, Int.reduceSub, Int.reduceMul, Nat.reduceLT, Int.reduceLT, Int.reduceLE, Int.reduceToNat, Nat.reduceAdd, Nat.reduceSub, Nat.reduceMul, Nat.reduceLeDiff, reduceCtorEq]))
      · by_cases e64 : bits = 64
        · have c3 : decide (bits = 64) = true := decide_eq_true e64
          have eo : globOk p bits n = true := by rw [globOk, en, er, c3]; rfl
          obtain ⟨rfl, rfl⟩ := hB1 eo
          simp only [go_sem, Int.reduceEq, Int.reduceAdd, Int.reduceSub, Int.reduceMul, Nat.reduceLT, Int.reduceLT, Int.reduceLE, Int.reduceToNat, Nat.reduceAdd, Nat.reduceSub, Nat.reduceMul, Nat.reduceLeDiff, reduceCtorEq, c3, d16]
          refine loop_range d6_0 16 (fun i s => s.set 15 (.int .i64 (i : Int))) (fun i H => H = emp) ?_ rfl ?_
          · (simp only [go_sem, Int.reduceEq, Int.reduceAdd, Int.reduceSub, Int.reduceMul, Nat.reduceLT, Int.reduceLT, Int.reduceLE, Int.reduceToNat, Nat.reduceAdd, Nat.reduceSub, Nat.reduceMul, Nat.reduceLeDiff, reduceCtorEq, d6_0] <;> rfl)
          rintro N i H hi rfl hN
          have hadd := wadd1 (k := i) (by omega)
          by_cases hlt : i < 16
          · have k1 : decide ((i : Int) < 16) = true := decide_eq_true (by omega)
            have k2 : (0 : Int) ≤ (i : Int) ∧ (i : Int) < 16 := by omega
            have hil : i < (linkL n).length := hlt
            have hip : i < p.length := by rw [hp.1]; exact hlt
            have hig : i < (globL p n).length := by rw [lB]; exact hlt
            have rp := rdP (h := emp) (bits := bits) hip
            by_cases h8 : i < 8
            · have k3 : decide ((i : Int) < 8) = true := decide_eq_true (by omega)
              have k4 : decide (8 ≤ (i : Int)) = false := decide_eq_false (by omega)
              have rg : aload emp (.rp ((cat b1 (globL p n)).drop i)) = some (.int .u8 p[i]) := by rw [rdB hig, globL_lo hp h8]
              simp only [go_sem, Int.reduceEq, Int.reduceAdd, Int.reduceSub, Int.reduceMul, Nat.reduceLT, Int.reduceLT, Int.reduceLE, Int.reduceToNat, Nat.reduceAdd, Nat.reduceSub, Nat.reduceMul, Nat.reduceLeDiff, reduceCtorEq, d6_0, k1, k2, k3, k4, rg, rp, rdB hil, hadd, Int.toNat_natCast, Nat.mul_one, true_and, decide_true, List.drop_zero]
              refine hN _ _ hlt ?_ rfl
              simp only [go_sem, Int.reduceEq, Int.reduceAdd, Int.reduceSub, Int.reduceMul, Nat.reduceLT, Int.reduceLT, Int.reduceLE, Int.reduceToNat, Nat.reduceAdd, Nat.reduceSub, Nat.reduceMul, Nat.reduceLeDiff, reduceCtorEq, d6_0]
            · have k3 : decide ((i : Int) < 8) = false := decide_eq_false (by omega)
              have k4 : decide (8 ≤ (i : Int)) = true := decide_eq_true (by omega)
              have rg : aload emp (.rp ((cat b1 (globL p n)).drop i)) = some (.int .u8 (linkL n)[i]) := by rw [rdB hig, globL_hi hp h8 hlt]
              simp only [go_sem, Int.reduceEq, Int.reduceAdd, Int.reduceSub, Int.reduceMul, Nat.reduceLT, Int.reduceLT, Int.reduceLE, Int.reduceToNat, Nat.reduceAdd, Nat.reduceSub, Nat.reduceMul, Nat.reduceLeDiff, reduceCtorEq, d6_0, k1, k2, k3, k4, rg, rp, rdB hil, hadd, Int.toNat_natCast, Nat.mul_one, true_and, decide_true, List.drop_zero]
              refine hN _ _ hlt ?_ rfl
              simp only [go_sem, Int.reduceEq, Int.reduceAdd, Int.reduceSub, Int.reduceMul, Nat.reduceLT, Int.reduceLT, Int.reduceLE, Int.reduceToNat, Nat.reduceAdd, Nat.reduceSub, Nat.reduceMul, Nat.reduceLeDiff, reduceCtorEq, d6_0]
          · have k1 : decide ((i : Int) < 16) = false := decide_eq_false (by omega)
            simp only [go_sem, Int.reduceEq, Int.reduceAdd, Int.reduceSub, Int.reduceMul, Nat.reduceLT, Int.reduceLT, Int.reduceLE, Int.reduceToNat, Nat.reduceAdd, Nat.reduceSub, Nat.reduceMul, Nat.reduceLeDiff, reduceCtorEq, d6_0, k1]
            refine frz_id ?_
            simp only [go_sem, Int.reduceEq, Int.reduceAdd, Int.reduceSub, Int.reduceMul, Nat.reduceLT, Int.reduceLT, Int.reduceLE, Int.reduceToNat, Nat.reduceAdd, Nat.reduceSub, Nat.reduceMul, Nat.reduceLeDiff, reduceCtorEq]
            refine (known_spec _).use ?_
            simp only [go_sem, Int.reduceEq, Int.reduceAdd, Int.reduceSub, Int.reduceMul, Nat.reduceLT, Int.reduceLT, Int.reduceLE, Int.reduceToNat, Nat.reduceAdd, Nat.reduceSub, Nat.reduceMul, Nat.reduceLeDiff, reduceCtorEq]
            (refine hQ _ _ _ _ _ (by first | exact .inr rfl | exact .inl rfl) rfl (by first | exact FzH.refl _ | exact FzH.sub (by (repeat' (first | exact Sub.refl _ | assumption | (refine Sub.upd ?_ (by first | assumption | (simp only [*]; done) | exact Sub.isNone (by assumption) (by assumption) | exact Sub.isNone (by assumption) (by simp only [*]))))))) (FzL.refl _ _ _) ?_; try (simp only [go_sem, Int.reduceEq, Int.reduceAdd, Int.reduceSub, Int.reduceMul, Nat.reduceLT, Int.reduceLT, Int.reduceLE, Int.reduceToNat, Nat.reduceAdd, Nat.reduceSub, Nat.reduceMul, Nat.reduceLeDiff, reduceCtorEq]))
        · have c3 : decide (bits = 64) = false := decide_eq_false e64
          have eo : globOk p bits n = false := by simp [globOk, e64]
          obtain ⟨rfl, rfl⟩ := hB0 eo
          simp only [go_sem, Int.reduceEq, Int.reduceAdd, Int.reduceSub, Int.reduceMul, Nat.reduceLT, Int.reduceLT, Int.reduceLE, Int.reduceToNat, Nat.reduceAdd, Nat.reduceSub, Nat.reduceMul, Nat.reduceLeDiff, reduceCtorEq, c3, d16]
          refine (known_spec _).use ?_
          simp only [go_sem, Int.reduceEq, Int.reduceAdd, Int.reduceSub, Int.reduceMul, Nat.reduceLT, Int.reduceLT, Int.reduceLE, Int.reduceToNat, Nat.reduceAdd, Nat.reduceSub, Nat.reduceMul, Nat.reduceLeDiff, reduceCtorEq, kB, tB, eZ, Nat.le_refl, if_true]
          (refine hQ _ _ _ _ _ (by first | exact .inr rfl | exact .inl rfl) rfl (by first | exact FzH.refl _ | exact FzH.sub (by (repeat' (first | exact Sub.refl _ | assumption | (refine Sub.upd ?_ (by first | assumption | (simp only [*]; done) | exact Sub.isNone (by assumption) (by assumption) | exact Sub.isNone (by assumption) (by simp only [*]))))))) (FzL.refl _ _ _) ?_; try (simp only [go_sem, Int.reduceEq, Int.reduceAdd, Int.reduceSub, Int.reduceMul, Nat.reduceLT, Int.reduceLT, Int.reduceLE, Int.reduceToNat, Nat.reduceAdd, Nat.reduceSub, Nat.reduceMul, Nat.reduceLeDiff, reduceCtorEq])))

theorem nodes_law (xs : List AV) (h : ArgsSh Tryd.prog 6 Tryd.f6.params.toList xs) : PureA Tryd.prog 6 xs emp (.bool true) := by
  rw [Tryd.params6] at h
  simp only [ArgsSh, ArgSh, Tryd.underlying22, Tryd.underlying47, Tryd.underlying3] at h
  obtain ⟨_, _, rfl, hm, _, _, rfl, ⟨ps, rfl, hp⟩, _, _, rfl, ⟨ys, rfl, hy⟩, rfl⟩ := h
  obtain ⟨a, rfl, ha⟩ := sh_addr Tryd.underlying22 Tryd.underlying5 hy
  rw [ShC] at hm hp
  simp only [Tryd.underlying3] at hm
  simp only [Tryd.underlying47, ShFs] at hp
  obtain ⟨n, e2, _⟩ := hm
  cases e2
  obtain ⟨_, _, rfl, _, hz, _, _, rfl, _, hn, rfl⟩ := hp
  obtain ⟨p, rfl, hp⟩ := sh_addr Tryd.underlying22 Tryd.underlying5 hz
  simp only [ShC, Tryd.underlying3] at hn
  obtain ⟨b, rfl, _⟩ := hn
  exact nodes_walk n p hp b a ha

end Go.Proofs.YtdlghfekgecjjaaDoor
