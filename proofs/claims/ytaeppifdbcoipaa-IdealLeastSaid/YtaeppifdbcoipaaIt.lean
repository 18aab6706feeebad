/-
  IdealLeast; the laws of chapter 31 on abstract values.
-/
import Derived.Test.YtaeppifdbcoipaaIs
import Derived.Test.YtaeppifdbcoipaaEY
namespace Go.Proofs.Ytaeppifdbcoipaa
open Go E
set_option linter.unusedVariables false
set_option linter.unusedSimpArgs false
set_option maxRecDepth 100000

theorem tree_ok {p : Pol} {f : Lk} {N : Nat} {L : List Int} {i : Nat} {w : Int} (ok : Step2 N (pstep p f)) (l : Least N (pstep p f) p.least (rk L)) (hi : i < N) (h0 : i ≠ 0) (hw : IsFirst N (whomP p f L i) w) :
    (rk L i = 65535 ∧ w = -1) ∨ (rk L i ≠ 65535 ∧ ∃ k : Nat, k < N ∧ w = (k : Int) ∧ rk L k < rk L i) := by
  by_cases e : rk L i = 65535
  · refine .inl ⟨e, ?_⟩
    rcases hw with ⟨h, _⟩ | ⟨k, _, _, hk, _⟩
    · exact h
    · exact absurd e hk.2.1
  · refine .inr ⟨e, ?_⟩
    rcases hw with ⟨_, h⟩ | ⟨k, hk, e2, hp, _⟩
    · obtain ⟨a, ha, e3, _⟩ := l.by' i hi h0 e
      exact absurd ⟨h0, e, e3.symm⟩ (h a ha)
    · have h1 := hp.2.2
      have h2 := ok.up k (rk L k) i (by rw [h1]; exact e)
      exact ⟨k, hk, e2, by omega⟩

set_option maxHeartbeats 8000000 in
theorem lleast_spec (m : Int) (l : List T3) (p : Pol) (h : AHeap) (hl : l.length ≤ 9223372036854775807) : PureA Try.prog 4 [.int .i64 m, .ro (cat encT l) l.length false, .agg p.av] h (.bool true) := by
  (refine PureA.enter (ac := c4) (rs := r4) Try.func4 rfl (by decide) c4_ok r4_ok ?_; intro Q hQ; simp only [go_sem, Int.reduceEq, Int.reduceAdd, Int.reduceSub, Int.reduceMul, Nat.reduceLT, Int.reduceLT, Int.reduceLE, Int.reduceToNat, Nat.reduceAdd, Nat.reduceSub, Nat.reduceMul, Nat.reduceLeDiff, reduceCtorEq, c4, Try.ntmps4, Pol.av])
  refine (made_spec m l false h hl).use ?_
  rintro _ H ⟨x, id, y, f, cs, rfl, hf, hx, hid, hy, kin, hd, s, hs⟩
  obtain ⟨N, hN, hN8⟩ : ∃ N : Nat, (1 + m % 18446744073709551616 % 8 : Int) = (N : Int) ∧ 1 ≤ N ∧ N ≤ 8 := ⟨(1 + m % 18446744073709551616 % 8).toNat, by omega, by omega, by omega⟩
  rw [hN] at hf kin hd s
  clear hf
  have hdC : H y = some (.cells (.int .i64 (N : Int) :: cat i1 cs) 4097) := hd
  simp only [go_sem, Int.reduceEq, Int.reduceAdd, Int.reduceSub, Int.reduceMul, Nat.reduceLT, Int.reduceLT, Int.reduceLE, Int.reduceToNat, Nat.reduceAdd, Nat.reduceSub, Nat.reduceMul, Nat.reduceLeDiff, reduceCtorEq]
  refine (to17_spec p _).use ?_
  simp only [go_sem, Int.reduceEq, Int.reduceAdd, Int.reduceSub, Int.reduceMul, Nat.reduceLT, Int.reduceLT, Int.reduceLE, Int.reduceToNat, Nat.reduceAdd, Nat.reduceSub, Nat.reduceMul, Nat.reduceLeDiff, reduceCtorEq]
  by_cases he : p.ierr = 0
  · obtain ⟨h1, h2, herr, hcode⟩ := pfit he
    have ok := pstep_ok he N f
    refine CallsA.use (show CallsA Try.prog 18 _ _ _ from iranks_spec kin hN8 s.pos s.dom p he) ?_
    rintro _ _ ⟨eH, L, rfl, hL, lL, loL⟩
    rw [eH]
    simp only [go_sem, Int.reduceEq, Int.reduceAdd, Int.reduceSub, Int.reduceMul, Nat.reduceLT, Int.reduceLT, Int.reduceLE, Int.reduceToNat, Nat.reduceAdd, Nat.reduceSub, Nat.reduceMul, Nat.reduceLeDiff, reduceCtorEq]
    refine (to17_spec p _).use ?_
    simp only [go_sem, Int.reduceEq, Int.reduceAdd, Int.reduceSub, Int.reduceMul, Nat.reduceLT, Int.reduceLT, Int.reduceLE, Int.reduceToNat, Nat.reduceAdd, Nat.reduceSub, Nat.reduceMul, Nat.reduceLeDiff, reduceCtorEq]
    refine CallsA.use (show CallsA Try.prog 20 _ _ _ from itree_spec kin hN8 s.pos s.dom p he) ?_
    rintro _ _ ⟨eH2, L2, T, rfl, hL2, lL2, loL2, hT, hF⟩
    rw [eH2]
    have hLe : L2 = L := rk_ext hL2 hL fun c hc => lL2.uniq ok.toStepOk lL hc
    subst hLe
    have hL0 : 0 < L2.length := by omega
    have e0 : L2[0] = p.least := by rw [← rk_at hL0]; exact lL2.root
    have r0 := rdI (h := H) hL0
    rw [e0, List.drop_zero] at r0
    have d1 : decide ((L2.length : Int) = (N : Int)) = true := decide_eq_true (by omega)
    have d2 : decide ((T.length : Int) = (N : Int)) = true := decide_eq_true (by omega)
    have d3 : decide (L2.length = N) = true := decide_eq_true (by omega)
    have d4 : decide (T.length = N) = true := decide_eq_true (by omega)
    simp only [go_sem, Int.reduceEq, Int.reduceAdd, Int.reduceSub, Int.reduceMul, Nat.reduceLT, Int.reduceLT, Int.reduceLE, Int.reduceToNat, Nat.reduceAdd, Nat.reduceSub, Nat.reduceMul, Nat.reduceLeDiff, reduceCtorEq, hdC, d1, d2, d3, d4, hL0, show (0 : Int) < (L2.length : Int) by omega, r0]
    refine loop_st d4_0 (fun k : Nat => N - k) (fun k s => s.set 13 (.int .i64 (k : Int))) (fun k H' => 1 ≤ k ∧ k ≤ N ∧ H' = H) 1 ?_ ⟨Nat.le_refl _, hN8.1, rfl⟩ ?_
    · (simp only [go_sem, Int.reduceEq, Int.reduceAdd, Int.reduceSub, Int.reduceMul, Nat.reduceLT, Int.reduceLT, Int.reduceLE, Int.reduceToNat, Nat.reduceAdd, Nat.reduceSub, Nat.reduceMul, Nat.reduceLeDiff, reduceCtorEq, d4_0] <;> rfl)
    rintro K1 i H1 ⟨hi1, hiN, eH1⟩ hK1
    rw [eH1]
    simp only [go_sem, Int.reduceEq, Int.reduceAdd, Int.reduceSub, Int.reduceMul, Nat.reduceLT, Int.reduceLT, Int.reduceLE, Int.reduceToNat, Nat.reduceAdd, Nat.reduceSub, Nat.reduceMul, Nat.reduceLeDiff, reduceCtorEq, d4_0, hdC]
    have hadd := wadd1 (k := i) (by omega)
    by_cases hlt : i < N
    · have hiL : i < L2.length := by omega
      have hiT : i < T.length := by omega
      have hin : (i : Int) < (N : Int) := by omega
      have rki := rk_at hiL
      simp only [go_sem, Int.reduceEq, Int.reduceAdd, Int.reduceSub, Int.reduceMul, Nat.reduceLT, Int.reduceLT, Int.reduceLE, Int.reduceToNat, Nat.reduceAdd, Nat.reduceSub, Nat.reduceMul, Nat.reduceLeDiff, reduceCtorEq, hlt]
      refine loop_st d4_1 (fun k : Nat => N - k) (fun k s => s.set 14 (.int .i64 (k : Int))) (fun k H' => k ≤ N ∧ H' = H) 0 ?_ ⟨Nat.zero_le _, rfl⟩ ?_
      · (simp only [go_sem, Int.reduceEq, Int.reduceAdd, Int.reduceSub, Int.reduceMul, Nat.reduceLT, Int.reduceLT, Int.reduceLE, Int.reduceToNat, Nat.reduceAdd, Nat.reduceSub, Nat.reduceMul, Nat.reduceLeDiff, reduceCtorEq, d4_1] <;> rfl)
      rintro K2 k H2 ⟨hkN, eH2'⟩ hK2
      rw [eH2']
      simp only [go_sem, Int.reduceEq, Int.reduceAdd, Int.reduceSub, Int.reduceMul, Nat.reduceLT, Int.reduceLT, Int.reduceLE, Int.reduceToNat, Nat.reduceAdd, Nat.reduceSub, Nat.reduceMul, Nat.reduceLeDiff, reduceCtorEq, d4_1, hdC]
      have hadd2 := wadd1 (k := k) (by omega)
      by_cases hlt2 : k < N
      · have hkn : (k : Int) < (N : Int) := by omega
        have hkL : k < L2.length := by omega
        have rkk := rk_at hkL
        have hlo := loL2 k
        have htop := lL2.top k
        have hl1 : 1 ≤ p.least := by
          have : 1 ≤ p.least ∧ p.least ≤ 65535 := by simpa [isLeast] using h2
          omega
        simp only [go_sem, Int.reduceEq, Int.reduceAdd, Int.reduceSub, Int.reduceMul, Nat.reduceLT, Int.reduceLT, Int.reduceLE, Int.reduceToNat, Nat.reduceAdd, Nat.reduceSub, Nat.reduceMul, Nat.reduceLeDiff, reduceCtorEq, hlt2, hiL, rdI hiL, hkL, rdI hkL]
        rw [← rkk]
        refine (rby_spec hd s (by omega) h1 h2 (a := k) (b := i) hkn hin (rk L2 k) (fun cc g1 g2 => oneB_iff.2 ⟨by simp only; omega, by simp only; omega, by simp only; omega, htop, g1, by simp only; omega⟩)).use ?_
        have hst : byS p.zf p.zs p.least f k (rk L2 k) i = pstep p f k (rk L2 k) i := rfl
        rw [hst]
        have hle : ¬ pstep p f k (rk L2 k) i < L2[i] := by
          have := lL2.relaxed k i hlt2 hlt (by omega)
          rw [rki] at this; omega
        have hh : (List.drop i (cat i1 L2)).head? = some (.int .i64 L2[i]) := rdI (h := H) hiL
        simp only [go_sem, Int.reduceEq, Int.reduceAdd, Int.reduceSub, Int.reduceMul, Nat.reduceLT, Int.reduceLT, Int.reduceLE, Int.reduceToNat, Nat.reduceAdd, Nat.reduceSub, Nat.reduceMul, Nat.reduceLeDiff, reduceCtorEq, hle, hh, hadd2]
        refine hK2 (k + 1) _ _ (by omega) ?_ ⟨by omega, rfl⟩
        simp only [go_sem, Int.reduceEq, Int.reduceAdd, Int.reduceSub, Int.reduceMul, Nat.reduceLT, Int.reduceLT, Int.reduceLE, Int.reduceToNat, Nat.reduceAdd, Nat.reduceSub, Nat.reduceMul, Nat.reduceLeDiff, reduceCtorEq, d4_1]
      · simp only [go_sem, Int.reduceEq, Int.reduceAdd, Int.reduceSub, Int.reduceMul, Nat.reduceLT, Int.reduceLT, Int.reduceLE, Int.reduceToNat, Nat.reduceAdd, Nat.reduceSub, Nat.reduceMul, Nat.reduceLeDiff, reduceCtorEq, hlt2]
        refine frz_id ?_
        rcases tree_ok ok lL2 hlt (by omega) (hF i hiT) with ⟨e1, e2⟩ | ⟨e1, c, hc, e2, e3⟩
        · rw [rki] at e1
          have e1' : decide (L2[i] = 65535) = true := decide_eq_true e1
          have e2' : decide (T[i] = -1) = true := decide_eq_true e2
          simp only [go_sem, Int.reduceEq, Int.reduceAdd, Int.reduceSub, Int.reduceMul, Nat.reduceLT, Int.reduceLT, Int.reduceLE, Int.reduceToNat, Nat.reduceAdd, Nat.reduceSub, Nat.reduceMul, Nat.reduceLeDiff, reduceCtorEq, hiL, rdI hiL, e1', hiT, rdI hiT, e2', hadd]
          refine hK1 (i + 1) _ _ (by omega) ?_ ⟨by omega, hlt, rfl⟩
          simp only [go_sem, Int.reduceEq, Int.reduceAdd, Int.reduceSub, Int.reduceMul, Nat.reduceLT, Int.reduceLT, Int.reduceLE, Int.reduceToNat, Nat.reduceAdd, Nat.reduceSub, Nat.reduceMul, Nat.reduceLeDiff, reduceCtorEq, d4_0]
        · have hcL : c < L2.length := by omega
          rw [rki] at e1 e3
          rw [rk_at hcL] at e3
          have e1' : decide (L2[i] = 65535) = false := decide_eq_false e1
          have c1 : decide ((c : Int) < 0) = false := decide_eq_false (by omega)
          have c2 : decide ((N : Int) ≤ (c : Int)) = false := decide_eq_false (by omega)
          have c2' : decide (N ≤ c) = false := decide_eq_false (by omega)
          have c3 : decide (L2[i] ≤ L2[c]) = false := decide_eq_false (by omega)
          have rT := rdI (h := H) hiT
          rw [e2] at rT
          simp only [go_sem, Int.reduceEq, Int.reduceAdd, Int.reduceSub, Int.reduceMul, Nat.reduceLT, Int.reduceLT, Int.reduceLE, Int.reduceToNat, Nat.reduceAdd, Nat.reduceSub, Nat.reduceMul, Nat.reduceLeDiff, reduceCtorEq, hiL, rdI hiL, e1', hiT, rT, c1, c2, c2', hcL, rdI hcL, c3, hdC, hadd]
          refine hK1 (i + 1) _ _ (by omega) ?_ ⟨by omega, hlt, rfl⟩
          simp only [go_sem, Int.reduceEq, Int.reduceAdd, Int.reduceSub, Int.reduceMul, Nat.reduceLT, Int.reduceLT, Int.reduceLE, Int.reduceToNat, Nat.reduceAdd, Nat.reduceSub, Nat.reduceMul, Nat.reduceLeDiff, reduceCtorEq, d4_0]
    · simp only [go_sem, Int.reduceEq, Int.reduceAdd, Int.reduceSub, Int.reduceMul, Nat.reduceLT, Int.reduceLT, Int.reduceLE, Int.reduceToNat, Nat.reduceAdd, Nat.reduceSub, Nat.reduceMul, Nat.reduceLeDiff, reduceCtorEq, hlt]
      refine frz_id ?_
      simp only [go_sem, Int.reduceEq, Int.reduceAdd, Int.reduceSub, Int.reduceMul, Nat.reduceLT, Int.reduceLT, Int.reduceLE, Int.reduceToNat, Nat.reduceAdd, Nat.reduceSub, Nat.reduceMul, Nat.reduceLeDiff, reduceCtorEq]
      refine (known31_spec _).use ?_
      simp only [go_sem, Int.reduceEq, Int.reduceAdd, Int.reduceSub, Int.reduceMul, Nat.reduceLT, Int.reduceLT, Int.reduceLE, Int.reduceToNat, Nat.reduceAdd, Nat.reduceSub, Nat.reduceMul, Nat.reduceLeDiff, reduceCtorEq]
      (refine hQ _ _ _ _ _ (by first | exact .inr rfl | exact .inl rfl) rfl (by first | exact FzH.refl _ | exact FzH.sub (by (repeat' (first | exact Sub.refl _ | assumption | (refine Sub.upd ?_ (by first | assumption | (simp only [*]; done) | exact Sub.isNone (by assumption) (by assumption) | exact Sub.isNone (by assumption) (by simp only [*]))))))) (FzL.refl _ _ _) ?_; try (simp only [go_sem, Int.reduceEq, Int.reduceAdd, Int.reduceSub, Int.reduceMul, Nat.reduceLT, Int.reduceLT, Int.reduceLE, Int.reduceToNat, Nat.reduceAdd, Nat.reduceSub, Nat.reduceMul, Nat.reduceLeDiff, reduceCtorEq]))
  · have he' : decide (p.ierr = 0) = false := decide_eq_false he
    refine PureA.use (show PureA Try.prog 18 _ _ _ from iranks_bad x p _ he) ?_
    simp only [go_sem, Int.reduceEq, Int.reduceAdd, Int.reduceSub, Int.reduceMul, Nat.reduceLT, Int.reduceLT, Int.reduceLE, Int.reduceToNat, Nat.reduceAdd, Nat.reduceSub, Nat.reduceMul, Nat.reduceLeDiff, reduceCtorEq]
    refine (to17_spec p _).use ?_
    simp only [go_sem, Int.reduceEq, Int.reduceAdd, Int.reduceSub, Int.reduceMul, Nat.reduceLT, Int.reduceLT, Int.reduceLE, Int.reduceToNat, Nat.reduceAdd, Nat.reduceSub, Nat.reduceMul, Nat.reduceLeDiff, reduceCtorEq]
    refine PureA.use (show PureA Try.prog 20 _ _ _ from itree_bad x p _ he) ?_
    simp only [go_sem, Int.reduceEq, Int.reduceAdd, Int.reduceSub, Int.reduceMul, Nat.reduceLT, Int.reduceLT, Int.reduceLE, Int.reduceToNat, Nat.reduceAdd, Nat.reduceSub, Nat.reduceMul, Nat.reduceLeDiff, reduceCtorEq, he']
    refine (known31_spec _).use ?_
    simp only [go_sem, Int.reduceEq, Int.reduceAdd, Int.reduceSub, Int.reduceMul, Nat.reduceLT, Int.reduceLT, Int.reduceLE, Int.reduceToNat, Nat.reduceAdd, Nat.reduceSub, Nat.reduceMul, Nat.reduceLeDiff, reduceCtorEq]
    (refine hQ _ _ _ _ _ (by first | exact .inr rfl | exact .inl rfl) rfl (by first | exact FzH.refl _ | exact FzH.sub (by (repeat' (first | exact Sub.refl _ | assumption | (refine Sub.upd ?_ (by first | assumption | (simp only [*]; done) | exact Sub.isNone (by assumption) (by assumption) | exact Sub.isNone (by assumption) (by simp only [*]))))))) (FzL.refl _ _ _) ?_; try (simp only [go_sem, Int.reduceEq, Int.reduceAdd, Int.reduceSub, Int.reduceMul, Nat.reduceLT, Int.reduceLT, Int.reduceLE, Int.reduceToNat, Nat.reduceAdd, Nat.reduceSub, Nat.reduceMul, Nat.reduceLeDiff, reduceCtorEq]))

theorem t3s_sh {els : List (List AV)} (h : ∀ el ∈ els, el.length = 3 ∧ ShC Try.prog 5 138 el) : ∃ l : List T3, els.flatten = cat encT l ∧ els.length = l.length := by
  obtain ⟨l, e1, e2, _⟩ := sh_list (enc := encT) (R := fun _ => True) (els := els) fun el hel => by
    have := (h el hel).2
    rw [ShC] at this
    simp only [Try.underlying138] at this
    obtain ⟨els2, rfl, hl2, hels2⟩ := this
    match els2, hl2, hels2 with
    | [a, b, c], _, hels2 =>
      have ha := (hels2 a (by simp)).2
      have hb := (hels2 b (by simp)).2
      have hc := (hels2 c (by simp)).2
      simp only [ShC, Try.underlying3] at ha hb hc
      obtain ⟨i, rfl, _⟩ := ha
      obtain ⟨j, rfl, _⟩ := hb
      obtain ⟨k, rfl, _⟩ := hc
      exact ⟨(i, j, k), rfl, trivial⟩
  exact ⟨l, e1, e2⟩

theorem lranks_law (xs : List AV) (h : ArgsSh Try.prog 6 Try.f3.params.toList xs) : PureA Try.prog 3 xs emp (.bool true) := by
  rw [Try.params3] at h
  simp only [ArgsSh, ArgSh, Try.underlying28, Try.underlying22, Try.underlying3] at h
  obtain ⟨y, _, rfl, hy, z, _, rfl, hz, x, _, rfl, hx, rfl⟩ := h
  rw [ShC] at hz
  simp only [Try.underlying22] at hz
  simp only [Try.underlying28, Try.underlying26, Try.underlying24, Try.underlying3, ShC, ShFs] at hx hy
  obtain ⟨_, rfl, _, _, rfl, _, ⟨a, rfl, _⟩, _, _, rfl, _, ⟨b, rfl, _⟩, _, _, rfl, _, ⟨c, rfl, _⟩, _, _, rfl, _, ⟨_, _, rfl, _, ⟨d, rfl, _⟩, _, _, rfl, _, ⟨e, rfl, _⟩, rfl⟩, _, _, rfl, _, ⟨_, _, rfl, _, ⟨f, rfl, _⟩, _, _, rfl, _, ⟨g, rfl, _⟩, _, _, rfl, _, ⟨i, rfl, _⟩, _, _, rfl, _, ⟨j, rfl, _⟩, rfl⟩, rfl⟩ := hx
  obtain ⟨m, hm, _⟩ := hy
  cases hm
  obtain ⟨els, e0, hl, hels⟩ := hz
  cases e0
  obtain ⟨l, e1, e2⟩ := t3s_sh (els := els) fun el hel => ⟨(hels el hel).1, (hels el hel).2⟩
  rw [e1, e2]
  exact lranks_spec m l ⟨a, b, c, d, e, ⟨f, g, i, j⟩⟩ emp (by have := maxLen_le; omega)

theorem lleast_law (xs : List AV) (h : ArgsSh Try.prog 6 Try.f4.params.toList xs) : PureA Try.prog 4 xs emp (.bool true) := by
  rw [Try.params4] at h
  simp only [ArgsSh, ArgSh, Try.underlying28, Try.underlying22, Try.underlying3] at h
  obtain ⟨y, _, rfl, hy, z, _, rfl, hz, x, _, rfl, hx, rfl⟩ := h
  rw [ShC] at hz
  simp only [Try.underlying22] at hz
  simp only [Try.underlying28, Try.underlying26, Try.underlying24, Try.underlying3, ShC, ShFs] at hx hy
  obtain ⟨_, rfl, _, _, rfl, _, ⟨a, rfl, _⟩, _, _, rfl, _, ⟨b, rfl, _⟩, _, _, rfl, _, ⟨c, rfl, _⟩, _, _, rfl, _, ⟨_, _, rfl, _, ⟨d, rfl, _⟩, _, _, rfl, _, ⟨e, rfl, _⟩, rfl⟩, _, _, rfl, _, ⟨_, _, rfl, _, ⟨f, rfl, _⟩, _, _, rfl, _, ⟨g, rfl, _⟩, _, _, rfl, _, ⟨i, rfl, _⟩, _, _, rfl, _, ⟨j, rfl, _⟩, rfl⟩, rfl⟩ := hx
  obtain ⟨m, hm, _⟩ := hy
  cases hm
  obtain ⟨els, e0, hl, hels⟩ := hz
  cases e0
  obtain ⟨l, e1, e2⟩ := t3s_sh (els := els) fun el hel => ⟨(hels el hel).1, (hels el hel).2⟩
  rw [e1, e2]
  exact lleast_spec m l ⟨a, b, c, d, e, ⟨f, g, i, j⟩⟩ emp (by have := maxLen_le; omega)

theorem iheaps_law (xs : List AV) (h : ArgsSh Try.prog 6 Try.f5.params.toList xs) : PureA Try.prog 5 xs emp (.bool true) := by
  rw [Try.params5] at h
  simp only [ArgsSh, ArgSh, Try.underlying52, Try.underlying53] at h
  obtain ⟨y, _, rfl, hy, z, _, rfl, hz, rfl⟩ := h
  rw [ShC] at hz hy
  simp only [Try.underlying52] at hy
  simp only [Try.underlying53] at hz
  obtain ⟨els, e, hl, hels⟩ := hy
  cases e
  obtain ⟨l, e1, e2, _⟩ := sh_list (enc := encR) (R := fun _ => True) (els := els) fun el hel => by
    have := (hels el hel).2
    rw [ShC] at this
    simp only [Try.underlying61, ShFs, ShC, Try.underlying3] at this
    obtain ⟨_, _, rfl, _, ⟨a, rfl, _⟩, _, _, rfl, _, ⟨b, rfl, _⟩, rfl⟩ := this
    exact ⟨(a, b), rfl, trivial⟩
  obtain ⟨els2, e, hl2, hels2⟩ := hz
  cases e
  obtain ⟨l2, f1, f2, _⟩ := sh_list (enc := bo1) (R := fun _ => True) (els := els2) fun el hel => by
    have := (hels2 el hel).2
    simp only [ShC, Try.underlying4] at this
    obtain ⟨b, rfl⟩ := this
    exact ⟨b, rfl, trivial⟩
  rw [e1, e2, f1, f2]
  exact iheaps_spec l l2 emp (by have := maxLen_le; omega) (by have := maxLen_le; omega)

end Go.Proofs.Ytaeppifdbcoipaa
