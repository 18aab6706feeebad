/-
  rivuletref31.Ranks.
-/
import Derived.Test.YtaeppifdbcoipaaIm
import Derived.Test.YtaeppifdbcoipaaIi
import Derived.Test.YtaeppifdbcoipaaId
import Derived.Test.YtaeppifdbcoipaaZp
namespace Go.Proofs.Ytaeppifdbcoipaa
open Go E
set_option linter.unusedVariables false
set_option linter.unusedSimpArgs false
set_option maxRecDepth 100000


theorem rby_spec {y : Nat} {n : Int} {f : Lk} {cs : List Int} {H : AHeap} (hd : H y = some (dC n cs)) (s : Same n f cs) (hn : n ≤ 64) {code least inc zf zs a5 a6 a7 a8 : Int} (h1 : okFn zf zs = true) (h2 : isLeast least = true)
    {a b : Nat} (ha : (a : Int) < n) (hb : (b : Int) < n) (r : Int) (hone : ∀ c, 128 ≤ c → c < 65535 → oneB ⟨a, r, c⟩ = true) :
    PureA Try.prog 25 [.ptr y 0, .agg [.int .i64 code, .int .i64 least, .int .i64 inc, .int .i64 zf, .int .i64 zs, .int .i64 a5, .int .i64 a6, .int .i64 a7, .int .i64 a8], .int .i64 (a : Int), .int .i64 r, .int .i64 (b : Int)] H (.int .i64 (byS zf zs least f a r b)) := by
  have hat := s.at' a b ha hb
  have ha64 : (a : Int) < 64 := by omega
  have hb64 : (b : Int) < 64 := by omega
  have rd : (AV.int .i64 n :: cat i1 cs)[1 + a * 64 + b]? = some (.int .i64 (match alook f (ofP a b) with | some c => c | none => 0)) := by
    have hlt : a * 64 + b < cs.length := by rw [s.len]; omega
    have h3 := cat_get0 i1_len (by omega) hlt
    rw [List.getElem?_eq_getElem hlt] at hat
    injection hat with hat
    rw [Nat.mul_one, hat] at h3
    rw [show 1 + a * 64 + b = (a * 64 + b) + 1 by omega, List.getElem?_cons_succ]
    exact h3
  unfold dC at hd
  (refine PureA.enter (ac := c25) (rs := r25) Try.func25 rfl (by decide) c25_ok r25_ok ?_; intro Q hQ; simp only [go_sem, Int.reduceEq, Int.reduceAdd, Int.reduceSub, Int.reduceMul, Nat.reduceLT, Int.reduceLT, Int.reduceLE, Int.reduceToNat, Nat.reduceAdd, Nat.reduceSub, Nat.reduceMul, Nat.reduceLeDiff, reduceCtorEq, c25, Try.ntmps25])
  refine ⟨ha64, hb64, ?_⟩
  cases g : alook f (ofP (a : Int) (b : Int)) with
  | none =>
    rw [g] at rd
    have e2 : byS zf zs least f a r b = 65535 := by unfold byS; rw [g]
    simp only [go_sem, Int.reduceEq, Int.reduceAdd, Int.reduceSub, Int.reduceMul, Nat.reduceLT, Int.reduceLT, Int.reduceLE, Int.reduceToNat, Nat.reduceAdd, Nat.reduceSub, Nat.reduceMul, Nat.reduceLeDiff, reduceCtorEq, hd, rd]
    (refine hQ _ _ _ _ _ (by first | exact .inr rfl | exact .inl rfl) rfl (by first | exact FzH.refl _ | exact FzH.sub (by (repeat' (first | exact Sub.refl _ | assumption | (refine Sub.upd ?_ (by first | assumption | (simp only [*]; done) | exact Sub.isNone (by assumption) (by assumption) | exact Sub.isNone (by assumption) (by simp only [*]))))))) (FzL.refl _ _ _) ?_; try (simp only [go_sem, Int.reduceEq, Int.reduceAdd, Int.reduceSub, Int.reduceMul, Nat.reduceLT, Int.reduceLT, Int.reduceLE, Int.reduceToNat, Nat.reduceAdd, Nat.reduceSub, Nat.reduceMul, Nat.reduceLeDiff, reduceCtorEq, e2]))
  | some c =>
    rw [g] at rd
    obtain ⟨c1, c2⟩ := s.pos _ _ g
    have e2 : byS zf zs least f a r b = min (r + incN zf zs c least) 65535 := by unfold byS; rw [g]
    have ok : okRank zf zs least ⟨(a : Int), r, c⟩ = true := by
      have hcst : isCost c = true := by unfold isCost; rw [decide_eq_true c1, decide_eq_true (by omega)]; rfl
      unfold okRank okInc
      rw [h1, h2, hcst, hone c c1 c2]; rfl
    have e3 : rankN zf zs least ⟨(a : Int), r, c⟩ = min (r + incN zf zs c least) 65535 := by unfold rankN; rw [if_neg (by simp only; omega)]
    have hz := rrank_spec zf zs least ⟨(a : Int), r, c⟩ ok H
    rw [e3] at hz
    have c0 : decide (c = 0) = false := decide_eq_false (by omega)
    simp only [go_sem, Int.reduceEq, Int.reduceAdd, Int.reduceSub, Int.reduceMul, Nat.reduceLT, Int.reduceLT, Int.reduceLE, Int.reduceToNat, Nat.reduceAdd, Nat.reduceSub, Nat.reduceMul, Nat.reduceLeDiff, reduceCtorEq, hd, rd, c0, ha64, hb64]
    refine (show PureA Try.prog 81 [.agg [.int .i64 zf, .int .i64 zs], .agg [.int .i64 (a : Int), .int .i64 r, .int .i64 c], .int .i64 least] H _ from hz).use ?_
    simp only [go_sem, Int.reduceEq, Int.reduceAdd, Int.reduceSub, Int.reduceMul, Nat.reduceLT, Int.reduceLT, Int.reduceLE, Int.reduceToNat, Nat.reduceAdd, Nat.reduceSub, Nat.reduceMul, Nat.reduceLeDiff, reduceCtorEq]
    (refine hQ _ _ _ _ _ (by first | exact .inr rfl | exact .inl rfl) rfl (by first | exact FzH.refl _ | exact FzH.sub (by (repeat' (first | exact Sub.refl _ | assumption | (refine Sub.upd ?_ (by first | assumption | (simp only [*]; done) | exact Sub.isNone (by assumption) (by assumption) | exact Sub.isNone (by assumption) (by simp only [*]))))))) (FzL.refl _ _ _) ?_; try (simp only [go_sem, Int.reduceEq, Int.reduceAdd, Int.reduceSub, Int.reduceMul, Nat.reduceLT, Int.reduceLT, Int.reduceLE, Int.reduceToNat, Nat.reduceAdd, Nat.reduceSub, Nat.reduceMul, Nat.reduceLeDiff, reduceCtorEq, e2]))

theorem relB_yes {step : Nat → Int → Nat → Int} {L : List Int} {a b : Nat} (hb : b < L.length) (h : step a (rk L a) b < rk L b) : rk (L.set b (step a (rk L a) b)) = relB step (rk L) a b := by
  rw [rk_set hb]
  funext c
  unfold relB
  by_cases e : c = b
  · rw [if_pos e, if_pos ⟨e, h⟩]
  · rw [if_neg e, if_neg (fun x => e x.1)]
theorem relB_no {step : Nat → Int → Nat → Int} {L : List Int} {a b : Nat} (h : ¬ step a (rk L a) b < rk L b) : rk L = relB step (rk L) a b := by
  funext c
  unfold relB
  rw [if_neg (fun x => h x.2)]

set_option maxHeartbeats 4000000 in
theorem rranks_spec {y : Nat} {N : Nat} {f : Lk} {cs : List Int} {h : AHeap} (hd : h y = some (dC (N : Int) cs)) (s : Same (N : Int) f cs) (hN : 1 ≤ N ∧ N ≤ 8) (p : Pol) (he : p.ierr = 0) {D : Nat → Int} (d : Least N (pstep p f) p.least D) (lo : ∀ b, p.least ≤ D b) :
    CallsA Try.prog 23 [.ptr y 0, .agg p.av] h (fun r H => H = h ∧ ∃ L : List Int, r = .ro (cat i1 L) L.length false ∧ L.length = N ∧ ∀ c, c < N → rk L c = D c) := by
  obtain ⟨h1, h2, _, _⟩ := pfit he
  have ok := pstep_ok he N f
  have hl : 1 ≤ p.least ∧ p.least ≤ 65535 := by simpa [isLeast] using h2
  have hd0 := hd
  unfold dC at hd
  (refine CallsA.enterR (ac := c23) (rs := r23) Try.func23 rfl (by decide) c23_ok r23_ok ?_; intro Q hQ; simp only [go_sem, Int.reduceEq, Int.reduceAdd, Int.reduceSub, Int.reduceMul, Nat.reduceLT, Int.reduceLT, Int.reduceLE, Int.reduceToNat, Nat.reduceAdd, Nat.reduceSub, Nat.reduceMul, Nat.reduceLeDiff, reduceCtorEq, c23, Try.ntmps23, Pol.av, hd])
  refine aw_make N N rfl rfl (Nat.le_refl _) (by omega) (by omega) fun P hP => ?_
  rw [zrep_ints]
  have hyP : y ≠ P := by rintro rfl; rw [hP] at hd; cases hd
  have hdP : ∀ o, upd h P o y = some (dC (N : Int) cs) := fun o => by rw [upd_ne hyP]; exact hd0
  have hdC : ∀ o, upd h P o y = some (.cells (.int .i64 (N : Int) :: cat i1 cs) 4097) := hdP
  simp only [go_sem, Int.reduceEq, Int.reduceAdd, Int.reduceSub, Int.reduceMul, Nat.reduceLT, Int.reduceLT, Int.reduceLE, Int.reduceToNat, Nat.reduceAdd, Nat.reduceSub, Nat.reduceMul, Nat.reduceLeDiff, reduceCtorEq]
  refine loop_st d23_0 (fun k : Nat => N - k) (fun k s => s.set 6 (.int .i64 (k : Int))) (fun k H => k ≤ N ∧ H = upd h P (.cells (cat i1 (infL N k)) N)) 0 ?_ ⟨Nat.zero_le _, by simp [infL]⟩ ?_
  · (simp only [go_sem, Int.reduceEq, Int.reduceAdd, Int.reduceSub, Int.reduceMul, Nat.reduceLT, Int.reduceLT, Int.reduceLE, Int.reduceToNat, Nat.reduceAdd, Nat.reduceSub, Nat.reduceMul, Nat.reduceLeDiff, reduceCtorEq, d23_0] <;> rfl)
  rintro K1 j H1 ⟨hj, rfl⟩ hK1
  simp only [go_sem, Int.reduceEq, Int.reduceAdd, Int.reduceSub, Int.reduceMul, Nat.reduceLT, Int.reduceLT, Int.reduceLE, Int.reduceToNat, Nat.reduceAdd, Nat.reduceSub, Nat.reduceMul, Nat.reduceLeDiff, reduceCtorEq, d23_0, hdC]
  have hadd := wadd1 (k := j) (by omega)
  by_cases hlt : j < N
  · have hil := infL_len (n := N) (k := j) (by omega)
    have hle : j + 1 ≤ (cat i1 (infL N j)).length := by rw [cat_len i1_len, hil]; omega
    have hcut : List.take j (cat i1 (infL N j)) ++ [AV.int .i64 65535] ++ List.drop (j + 1) (cat i1 (infL N j)) = cat i1 (infL N (j + 1)) := by rw [set_ints (by omega), infL_set hlt]
    simp only [go_sem, Int.reduceEq, Int.reduceAdd, Int.reduceSub, Int.reduceMul, Nat.reduceLT, Int.reduceLT, Int.reduceLE, Int.reduceToNat, Nat.reduceAdd, Nat.reduceSub, Nat.reduceMul, Nat.reduceLeDiff, reduceCtorEq, hlt, hle, hcut, upd_upd, hadd]
    refine hK1 (j + 1) _ _ (by omega) ?_ ⟨hlt, rfl⟩
    simp only [go_sem, Int.reduceEq, Int.reduceAdd, Int.reduceSub, Int.reduceMul, Nat.reduceLT, Int.reduceLT, Int.reduceLE, Int.reduceToNat, Nat.reduceAdd, Nat.reduceSub, Nat.reduceMul, Nat.reduceLeDiff, reduceCtorEq, d23_0]
  have hjN : j = N := by omega
  subst hjN
  rw [infL_all]
  simp only [go_sem, Int.reduceEq, Int.reduceAdd, Int.reduceSub, Int.reduceMul, Nat.reduceLT, Int.reduceLT, Int.reduceLE, Int.reduceToNat, Nat.reduceAdd, Nat.reduceSub, Nat.reduceMul, Nat.reduceLeDiff, reduceCtorEq, hlt]
  refine frz_id ?_
  have hle : 0 + 1 ≤ (cat i1 (List.replicate j 65535)).length := by rw [cat_len i1_len, List.length_replicate]; omega
  have hcut : List.take 0 (cat i1 (List.replicate j 65535)) ++ [AV.int .i64 p.least] ++ List.drop (0 + 1) (cat i1 (List.replicate j 65535)) = cat i1 ((List.replicate j 65535).set 0 p.least) := set_ints (by rw [List.length_replicate]; omega) _
  rw [List.take_zero, List.nil_append, Nat.zero_add] at hcut
  rw [Nat.zero_add] at hle
  simp only [go_sem, Int.reduceEq, Int.reduceAdd, Int.reduceSub, Int.reduceMul, Nat.reduceLT, Int.reduceLT, Int.reduceLE, Int.reduceToNat, Nat.reduceAdd, Nat.reduceSub, Nat.reduceMul, Nat.reduceLeDiff, reduceCtorEq, show (0 : Int) < (j : Int) by omega, hle, hcut, upd_upd]
  have hl0 : 0 < (List.replicate j (65535 : Int)).length := by rw [List.length_replicate]; omega
  have e0 : rk (List.replicate j (65535 : Int)) = fun _ => 65535 := by
    funext b; unfold rk
    rw [List.getD_eq_getElem?_getD, List.getElem?_replicate]
    split <;> rfl
  have eB : rk ((List.replicate j 65535).set 0 p.least) = fun b => if b = 0 then p.least else 65535 := by rw [rk_set hl0, e0]
  have m0 : Mid j (pstep p f) D 0 0 1 (rk ((List.replicate j 65535).set 0 p.least)) := by
    rw [eB]
    exact Mid.start d (by simp only [if_true]; exact d.root.symm) fun c _ hc => by simp only [if_neg hc]
  have t0 : ∀ c, rk ((List.replicate j 65535).set 0 p.least) c ≤ 65535 := fun c => by rw [eB]; simp only; split <;> omega
  refine loop_st d23_1 (fun x : Nat × List Int => j - x.1) (fun x s => s.set 7 (.int .i64 (x.1 : Int))) (fun x H => x.1 ≤ j ∧ H = upd h P (.cells (cat i1 x.2) j) ∧ x.2.length = j ∧ (∀ c, rk x.2 c ≤ 65535) ∧ Mid j (pstep p f) D x.1 0 1 (rk x.2)) (0, _) ?_ ⟨Nat.zero_le _, rfl, by simp, t0, m0⟩ ?_
  · (simp only [go_sem, Int.reduceEq, Int.reduceAdd, Int.reduceSub, Int.reduceMul, Nat.reduceLT, Int.reduceLT, Int.reduceLE, Int.reduceToNat, Nat.reduceAdd, Nat.reduceSub, Nat.reduceMul, Nat.reduceLeDiff, reduceCtorEq, d23_1] <;> rfl)
  rintro K2 ⟨t, L⟩ H2 ⟨ht, eH2, hL, tL, mL⟩ hK2
  simp only at ht eH2 hL tL mL hK2
  rw [eH2]
  simp only [go_sem, Int.reduceEq, Int.reduceAdd, Int.reduceSub, Int.reduceMul, Nat.reduceLT, Int.reduceLT, Int.reduceLE, Int.reduceToNat, Nat.reduceAdd, Nat.reduceSub, Nat.reduceMul, Nat.reduceLeDiff, reduceCtorEq, d23_1, hdC]
  have hadd2 := wadd1 (k := t) (by omega)
  by_cases htj : t < j
  · simp only [go_sem, Int.reduceEq, Int.reduceAdd, Int.reduceSub, Int.reduceMul, Nat.reduceLT, Int.reduceLT, Int.reduceLE, Int.reduceToNat, Nat.reduceAdd, Nat.reduceSub, Nat.reduceMul, Nat.reduceLeDiff, reduceCtorEq, htj]
    refine loop_st d23_2 (fun x : Nat × List Int => j - x.1) (fun x s => s.set 8 (.int .i64 (x.1 : Int))) (fun x H => x.1 ≤ j ∧ H = upd h P (.cells (cat i1 x.2) j) ∧ x.2.length = j ∧ (∀ c, rk x.2 c ≤ 65535) ∧ Mid j (pstep p f) D t x.1 1 (rk x.2)) (0, L) ?_ ⟨Nat.zero_le _, rfl, hL, tL, mL⟩ ?_
    · (simp only [go_sem, Int.reduceEq, Int.reduceAdd, Int.reduceSub, Int.reduceMul, Nat.reduceLT, Int.reduceLT, Int.reduceLE, Int.reduceToNat, Nat.reduceAdd, Nat.reduceSub, Nat.reduceMul, Nat.reduceLeDiff, reduceCtorEq, d23_2] <;> rfl)
    rintro K3 ⟨a, M⟩ H3 ⟨ha, eH3, hM, tM, mM⟩ hK3
    simp only at ha eH3 hM tM mM hK3
    rw [eH3]
    simp only [go_sem, Int.reduceEq, Int.reduceAdd, Int.reduceSub, Int.reduceMul, Nat.reduceLT, Int.reduceLT, Int.reduceLE, Int.reduceToNat, Nat.reduceAdd, Nat.reduceSub, Nat.reduceMul, Nat.reduceLeDiff, reduceCtorEq, d23_2, hdC]
    have hadd3 := wadd1 (k := a) (by omega)
    by_cases haj : a < j
    · simp only [go_sem, Int.reduceEq, Int.reduceAdd, Int.reduceSub, Int.reduceMul, Nat.reduceLT, Int.reduceLT, Int.reduceLE, Int.reduceToNat, Nat.reduceAdd, Nat.reduceSub, Nat.reduceMul, Nat.reduceLeDiff, reduceCtorEq, haj]
      refine loop_st d23_3 (fun x : Nat × List Int => j - x.1) (fun x s => s.set 9 (.int .i64 (x.1 : Int))) (fun x H => x.1 ≤ j ∧ 1 ≤ x.1 ∧ H = upd h P (.cells (cat i1 x.2) j) ∧ x.2.length = j ∧ (∀ c, rk x.2 c ≤ 65535) ∧ Mid j (pstep p f) D t a x.1 (rk x.2)) (1, M) ?_ ⟨by simp only; omega, Nat.le_refl _, rfl, hM, tM, mM⟩ ?_
      · (simp only [go_sem, Int.reduceEq, Int.reduceAdd, Int.reduceSub, Int.reduceMul, Nat.reduceLT, Int.reduceLT, Int.reduceLE, Int.reduceToNat, Nat.reduceAdd, Nat.reduceSub, Nat.reduceMul, Nat.reduceLeDiff, reduceCtorEq, d23_3] <;> rfl)
      rintro K4 ⟨b, Q4⟩ H4 ⟨hb, hb1, eH4, hQ4, tQ, mQ⟩ hK4
      simp only at hb hb1 eH4 hQ4 tQ mQ hK4
      rw [eH4]
      simp only [go_sem, Int.reduceEq, Int.reduceAdd, Int.reduceSub, Int.reduceMul, Nat.reduceLT, Int.reduceLT, Int.reduceLE, Int.reduceToNat, Nat.reduceAdd, Nat.reduceSub, Nat.reduceMul, Nat.reduceLeDiff, reduceCtorEq, d23_3, hdC]
      have hadd4 := wadd1 (k := b) (by omega)
      by_cases hbj : b < j
      · have haj' : (a : Int) < (j : Int) := by omega
        have hbj' : (b : Int) < (j : Int) := by omega
        have blk : upd h P (.cells (cat i1 Q4) j) P = some (.cells (cat i1 Q4) j) := upd_same
        have rda := own_rd blk (show a < Q4.length by omega)
        have rdb := own_rd blk (show b < Q4.length by omega)
        have hga := mQ.ge a haj
        have hla := lo a
        simp only [go_sem, Int.reduceEq, Int.reduceAdd, Int.reduceSub, Int.reduceMul, Nat.reduceLT, Int.reduceLT, Int.reduceLE, Int.reduceToNat, Nat.reduceAdd, Nat.reduceSub, Nat.reduceMul, Nat.reduceLeDiff, reduceCtorEq, hbj, haj', rda]
        refine (rby_spec (hdP _) s (by omega) h1 h2 (a := a) (b := b) haj' hbj' (rk Q4 a) (fun cc g1 g2 => oneB_iff.2 ⟨by simp only; omega, by simp only; omega, by simp only; omega, tQ a, g1, by simp only; omega⟩)).use ?_
        have hst : byS p.zf p.zs p.least f a (rk Q4 a) b = pstep p f a (rk Q4 a) b := rfl
        rw [hst]
        by_cases hlt4 : pstep p f a (rk Q4 a) b < rk Q4 b
        · have hle4 : b + 1 ≤ (cat i1 Q4).length := by rw [cat_len i1_len]; omega
          have hcut4 := set_ints (show b < Q4.length by omega) (pstep p f a (rk Q4 a) b)
          have eR := relB_yes (step := pstep p f) (show b < Q4.length by omega) hlt4
          simp only [go_sem, Int.reduceEq, Int.reduceAdd, Int.reduceSub, Int.reduceMul, Nat.reduceLT, Int.reduceLT, Int.reduceLE, Int.reduceToNat, Nat.reduceAdd, Nat.reduceSub, Nat.reduceMul, Nat.reduceLeDiff, reduceCtorEq, hbj', rdb, hlt4, hle4, hcut4, upd_upd, hadd4]
          refine hK4 (b + 1, Q4.set b (pstep p f a (rk Q4 a) b)) _ _ (by simp only; omega) ?_ ⟨hbj, by simp only; omega, rfl, by simp [hQ4], fun c => ?_, ?_⟩
          · simp only [go_sem, Int.reduceEq, Int.reduceAdd, Int.reduceSub, Int.reduceMul, Nat.reduceLT, Int.reduceLT, Int.reduceLE, Int.reduceToNat, Nat.reduceAdd, Nat.reduceSub, Nat.reduceMul, Nat.reduceLeDiff, reduceCtorEq, d23_3]
          · rw [eR]; exact Int.le_trans (relB_le _ _ _ _) (tQ c)
          · rw [eR]; exact mQ.step' ok.toStepOk d haj hbj (by omega)
        · have eR := relB_no (step := pstep p f) hlt4
          simp only [go_sem, Int.reduceEq, Int.reduceAdd, Int.reduceSub, Int.reduceMul, Nat.reduceLT, Int.reduceLT, Int.reduceLE, Int.reduceToNat, Nat.reduceAdd, Nat.reduceSub, Nat.reduceMul, Nat.reduceLeDiff, reduceCtorEq, hbj', rdb, hlt4, hadd4]
          refine hK4 (b + 1, Q4) _ _ (by simp only; omega) ?_ ⟨hbj, by simp only; omega, rfl, hQ4, tQ, ?_⟩
          · simp only [go_sem, Int.reduceEq, Int.reduceAdd, Int.reduceSub, Int.reduceMul, Nat.reduceLT, Int.reduceLT, Int.reduceLE, Int.reduceToNat, Nat.reduceAdd, Nat.reduceSub, Nat.reduceMul, Nat.reduceLeDiff, reduceCtorEq, d23_3]
          · have := mQ.step' ok.toStepOk d haj hbj (by omega)
            rw [← eR] at this; exact this
      · have hbe : b = j := by omega
        rw [hbe] at mQ
        simp only [go_sem, Int.reduceEq, Int.reduceAdd, Int.reduceSub, Int.reduceMul, Nat.reduceLT, Int.reduceLT, Int.reduceLE, Int.reduceToNat, Nat.reduceAdd, Nat.reduceSub, Nat.reduceMul, Nat.reduceLeDiff, reduceCtorEq, hbj]
        refine frz_id ?_
        simp only [go_sem, Int.reduceEq, Int.reduceAdd, Int.reduceSub, Int.reduceMul, Nat.reduceLT, Int.reduceLT, Int.reduceLE, Int.reduceToNat, Nat.reduceAdd, Nat.reduceSub, Nat.reduceMul, Nat.reduceLeDiff, reduceCtorEq, hadd3]
        refine hK3 (a + 1, Q4) _ _ (by simp only; omega) ?_ ⟨haj, rfl, hQ4, tQ, mQ.turn⟩
        simp only [go_sem, Int.reduceEq, Int.reduceAdd, Int.reduceSub, Int.reduceMul, Nat.reduceLT, Int.reduceLT, Int.reduceLE, Int.reduceToNat, Nat.reduceAdd, Nat.reduceSub, Nat.reduceMul, Nat.reduceLeDiff, reduceCtorEq, d23_2]
    · have hae : a = j := by omega
      rw [hae] at mM
      simp only [go_sem, Int.reduceEq, Int.reduceAdd, Int.reduceSub, Int.reduceMul, Nat.reduceLT, Int.reduceLT, Int.reduceLE, Int.reduceToNat, Nat.reduceAdd, Nat.reduceSub, Nat.reduceMul, Nat.reduceLeDiff, reduceCtorEq, haj]
      refine frz_id ?_
      simp only [go_sem, Int.reduceEq, Int.reduceAdd, Int.reduceSub, Int.reduceMul, Nat.reduceLT, Int.reduceLT, Int.reduceLE, Int.reduceToNat, Nat.reduceAdd, Nat.reduceSub, Nat.reduceMul, Nat.reduceLeDiff, reduceCtorEq, hadd2]
      refine hK2 (t + 1, M) _ _ (by simp only; omega) ?_ ⟨htj, rfl, hM, tM, Mid.next d mM fun c _ => tM c⟩
      simp only [go_sem, Int.reduceEq, Int.reduceAdd, Int.reduceSub, Int.reduceMul, Nat.reduceLT, Int.reduceLT, Int.reduceLE, Int.reduceToNat, Nat.reduceAdd, Nat.reduceSub, Nat.reduceMul, Nat.reduceLeDiff, reduceCtorEq, d23_1]
  · have hte : t = j := by omega
    rw [hte] at mL
    simp only [go_sem, Int.reduceEq, Int.reduceAdd, Int.reduceSub, Int.reduceMul, Nat.reduceLT, Int.reduceLT, Int.reduceLE, Int.reduceToNat, Nat.reduceAdd, Nat.reduceSub, Nat.reduceMul, Nat.reduceLeDiff, reduceCtorEq, htj]
    refine frz_id ?_
    simp only [go_sem, Int.reduceEq, Int.reduceAdd, Int.reduceSub, Int.reduceMul, Nat.reduceLT, Int.reduceLT, Int.reduceLE, Int.reduceToNat, Nat.reduceAdd, Nat.reduceSub, Nat.reduceMul, Nat.reduceLeDiff, reduceCtorEq]
    refine hQ _ _ _ _ h [.ro (cat i1 L) L.length false] (.inr rfl) rfl (FzH.sub (Sub.upd (Sub.refl h) hP)) (.cons ?_ .nil) ⟨rfl, L, rfl, hL, mL.all⟩
    rw [hL]
    refine .sl (cs := cat i1 L) (tot := j) (cat i1 L).length upd_same hP (by simp) ?_ (by simp)
    rw [List.drop_zero, List.take_length]; exact .refl _ _ _

end Go.Proofs.Ytaeppifdbcoipaa
