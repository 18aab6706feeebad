/-
  IdealRanks, IdealLeast.
-/
import Derived.Test.YtaeppifdbcoipaaIr
namespace Go.Proofs.Ytaeppifdbcoipaa
open Go E
set_option linter.unusedVariables false
set_option linter.unusedSimpArgs false
set_option maxRecDepth 100000

theorem rdC {n : Int} {f : Lk} {cs : List Int} (s : Same n f cs) (hn : n ≤ 64) {a b : Nat} (ha : (a : Int) < n) (hb : (b : Int) < n) : (AV.int .i64 n :: cat i1 cs)[1 + a * 64 + b]? = some (.int .i64 (match alook f (ofP a b) with | some c => c | none => 0)) := by
  have hat := s.at' a b ha hb
  have hlt : a * 64 + b < cs.length := by rw [s.len]; omega
  have h3 := cat_get0 i1_len (by omega) hlt
  rw [List.getElem?_eq_getElem hlt] at hat
  injection hat with hat
  rw [Nat.mul_one, hat] at h3
  rw [show 1 + a * 64 + b = (a * 64 + b) + 1 by omega, List.getElem?_cons_succ]
  exact h3

theorem link_pos {n : Int} {f : Lk} {cs : List Int} (s : Same n f cs) (a b : Nat) : decide (0 < (match alook f (ofP (a : Int) b) with | some c => c | none => 0)) = (alook f (ofP (a : Int) b)).isSome := by
  cases g : alook f (ofP (a : Int) b) with
  | none => rfl
  | some c => have := s.pos _ _ g; exact decide_eq_true (by simp only; omega)

theorem whom_link {p : Pol} {f : Lk} {L : List Int} {i k : Nat} (h : whomP p f L i k) : (alook f (ofP (k : Int) i)).isSome = true := by
  obtain ⟨_, h2, h3⟩ := h
  cases g : alook f (ofP (k : Int) i) with
  | none =>
    exfalso; apply h2; rw [← h3]; unfold pstep byS; rw [g]
  | some c => rfl

theorem first0 {N : Nat} {p : Pol} {f : Lk} {L : List Int} {w : Int} (h : IsFirst N (whomP p f L 0) w) : w = -1 := by
  rcases h with ⟨e, _⟩ | ⟨k, _, _, hk, _⟩
  · exact e
  · exact absurd rfl hk.1

/-- So far, from above. -/
def FirstFrom (N j : Nat) (P : Nat → Prop) (w : Int) : Prop := (w = -1 ∧ ∀ k, j ≤ k → k < N → ¬ P k) ∨ ∃ k : Nat, j ≤ k ∧ k < N ∧ w = (k : Int) ∧ P k ∧ ∀ m, j ≤ m → m < k → ¬ P m
theorem FirstFrom.no {N j : Nat} {P : Nat → Prop} {w : Int} (h : FirstFrom N (j + 1) P w) (hp : ¬ P j) : FirstFrom N j P w := by
  rcases h with ⟨e, h⟩ | ⟨k, h1, h2, h3, h4, h5⟩
  · exact .inl ⟨e, fun k hk hk2 => if e : k = j then e ▸ hp else h k (by omega) hk2⟩
  · exact .inr ⟨k, by omega, h2, h3, h4, fun m hm hm2 => if e : m = j then e ▸ hp else h5 m (by omega) hm2⟩
theorem FirstFrom.yes {N j : Nat} {P : Nat → Prop} (hj : j < N) (hp : P j) : FirstFrom N j P (j : Int) := .inr ⟨j, Nat.le_refl _, hj, rfl, hp, fun m h1 h2 => by omega⟩
theorem FirstFrom.all {N : Nat} {P : Nat → Prop} {w : Int} (h : FirstFrom N 0 P w) : IsFirst N P w := by
  rcases h with ⟨e, h⟩ | ⟨k, h1, h2, h3, h4, h5⟩
  · exact .inl ⟨e, fun k hk => h k (Nat.zero_le _) hk⟩
  · exact .inr ⟨k, h2, h3, h4, fun m hm => h5 m (Nat.zero_le _) hm⟩

set_option maxHeartbeats 8000000 in
theorem lranks_spec (m : Int) (l : List T3) (p : Pol) (h : AHeap) (hl : l.length ≤ 9223372036854775807) : PureA Try.prog 3 [.int .i64 m, .ro (cat encT l) l.length false, .agg p.av] h (.bool true) := by
  (refine PureA.enter (ac := c3) (rs := r3) Try.func3 rfl (by decide) c3_ok r3_ok ?_; intro Q hQ; simp only [go_sem, Int.reduceEq, Int.reduceAdd, Int.reduceSub, Int.reduceMul, Nat.reduceLT, Int.reduceLT, Int.reduceLE, Int.reduceToNat, Nat.reduceAdd, Nat.reduceSub, Nat.reduceMul, Nat.reduceLeDiff, reduceCtorEq, c3, Try.ntmps3, Pol.av])
  refine (made_spec m l false h hl).use ?_
  rintro _ H ⟨x, id, y, f, cs, rfl, hf, hx, hid, hy, kin, hd, s, hs⟩
  obtain ⟨N, hN, hN8⟩ : ∃ N : Nat, (1 + m % 18446744073709551616 % 8 : Int) = (N : Int) ∧ 1 ≤ N ∧ N ≤ 8 := ⟨(1 + m % 18446744073709551616 % 8).toNat, by omega, by omega, by omega⟩
  rw [hN] at hf kin hd s
  clear hf
  have hdC : H y = some (.cells (.int .i64 (N : Int) :: cat i1 cs) 4097) := hd
  simp only [go_sem, Int.reduceEq, Int.reduceAdd, Int.reduceSub, Int.reduceMul, Nat.reduceLT, Int.reduceLT, Int.reduceLE, Int.reduceToNat, Nat.reduceAdd, Nat.reduceSub, Nat.reduceMul, Nat.reduceLeDiff, reduceCtorEq]
  refine (to17_spec p _).use ?_
  simp only [go_sem, Int.reduceEq, Int.reduceAdd, Int.reduceSub, Int.reduceMul, Nat.reduceLT, Int.reduceLT, Int.reduceLE, Int.reduceToNat, Nat.reduceAdd, Nat.reduceSub, Nat.reduceMul, Nat.reduceLeDiff, reduceCtorEq]
  by_cases he : p.ierr = 0
  · obtain ⟨h1, h2, herr, hcode⟩ := pfit he
    have ok := pstep_ok he N f
    refine CallsA.use (show CallsA Try.prog 18 _ _ _ from iranks_spec kin hN8 s.pos s.dom p he) ?_
    rintro _ _ ⟨eH, L, rfl, hL, lL, loL⟩
    rw [eH]
    simp only [go_sem, Int.reduceEq, Int.reduceAdd, Int.reduceSub, Int.reduceMul, Nat.reduceLT, Int.reduceLT, Int.reduceLE, Int.reduceToNat, Nat.reduceAdd, Nat.reduceSub, Nat.reduceMul, Nat.reduceLeDiff, reduceCtorEq]
    refine (to17_spec p _).use ?_
    simp only [go_sem, Int.reduceEq, Int.reduceAdd, Int.reduceSub, Int.reduceMul, Nat.reduceLT, Int.reduceLT, Int.reduceLE, Int.reduceToNat, Nat.reduceAdd, Nat.reduceSub, Nat.reduceMul, Nat.reduceLeDiff, reduceCtorEq]
    refine CallsA.use (show CallsA Try.prog 20 _ _ _ from itree_spec kin hN8 s.pos s.dom p he) ?_
    rintro _ _ ⟨eH2, L2, T, rfl, hL2, lL2, loL2, hT, hF⟩
    rw [eH2]
    have hLe : L2 = L := rk_ext hL2 hL fun c hc => lL2.uniq ok.toStepOk lL hc
    subst hLe
    simp only [go_sem, Int.reduceEq, Int.reduceAdd, Int.reduceSub, Int.reduceMul, Nat.reduceLT, Int.reduceLT, Int.reduceLE, Int.reduceToNat, Nat.reduceAdd, Nat.reduceSub, Nat.reduceMul, Nat.reduceLeDiff, reduceCtorEq]
    refine (rcheck17_spec p _).use ?_
    have hcode' : decide (p.code = 0) = true := decide_eq_true hcode
    simp only [go_sem, Int.reduceEq, Int.reduceAdd, Int.reduceSub, Int.reduceMul, Nat.reduceLT, Int.reduceLT, Int.reduceLE, Int.reduceToNat, Nat.reduceAdd, Nat.reduceSub, Nat.reduceMul, Nat.reduceLeDiff, reduceCtorEq, herr, hcode']
    refine (to17_spec p _).use ?_
    simp only [go_sem, Int.reduceEq, Int.reduceAdd, Int.reduceSub, Int.reduceMul, Nat.reduceLT, Int.reduceLT, Int.reduceLE, Int.reduceToNat, Nat.reduceAdd, Nat.reduceSub, Nat.reduceMul, Nat.reduceLeDiff, reduceCtorEq]
    refine PureA.use (show PureA Try.prog 18 _ _ _ from iranks_nil p _) ?_
    simp only [go_sem, Int.reduceEq, Int.reduceAdd, Int.reduceSub, Int.reduceMul, Nat.reduceLT, Int.reduceLT, Int.reduceLE, Int.reduceToNat, Nat.reduceAdd, Nat.reduceSub, Nat.reduceMul, Nat.reduceLeDiff, reduceCtorEq]
    refine CallsA.use (show CallsA Try.prog 23 _ _ _ from rranks_spec hd s hN8 p he lL2 loL2) ?_
    rintro _ _ ⟨eH3, L3, rfl, hL3, hR3⟩
    rw [eH3]
    have hLe : L3 = L2 := rk_ext hL3 hL2 hR3
    subst hLe
    simp only [go_sem, Int.reduceEq, Int.reduceAdd, Int.reduceSub, Int.reduceMul, Nat.reduceLT, Int.reduceLT, Int.reduceLE, Int.reduceToNat, Nat.reduceAdd, Nat.reduceSub, Nat.reduceMul, Nat.reduceLeDiff, reduceCtorEq]
    refine (same10_spec L3 L3 false false _ (by omega)).use ?_
    have hT0 : 0 < T.length := by omega
    have t0 : T[0] = -1 := first0 (hF 0 hT0)
    have r0 := rdI (h := H) hT0
    rw [t0, List.drop_zero] at r0
    have hTN : ((T.length : Int)) = (N : Int) := by omega
    have hTN' : decide ((T.length : Int) = (N : Int)) = true := decide_eq_true hTN
    have hTN2 : decide (T.length = N) = true := decide_eq_true (by omega)
    simp only [go_sem, Int.reduceEq, Int.reduceAdd, Int.reduceSub, Int.reduceMul, Nat.reduceLT, Int.reduceLT, Int.reduceLE, Int.reduceToNat, Nat.reduceAdd, Nat.reduceSub, Nat.reduceMul, Nat.reduceLeDiff, reduceCtorEq, hdC, hTN', hTN2, hT0, show (0 : Int) < (T.length : Int) by omega, r0]
    have rkT : ∀ i (hi : i < T.length), IsFirst N (whomP p f L3 i) T[i] := hF
    refine loop_st d3_0 (fun k : Nat => N - k) (fun k s => s.set 17 (.int .i64 (k : Int))) (fun k H' => 1 ≤ k ∧ k ≤ N ∧ H' = H) 1 ?_ ⟨Nat.le_refl _, hN8.1, rfl⟩ ?_
    · (simp only [go_sem, Int.reduceEq, Int.reduceAdd, Int.reduceSub, Int.reduceMul, Nat.reduceLT, Int.reduceLT, Int.reduceLE, Int.reduceToNat, Nat.reduceAdd, Nat.reduceSub, Nat.reduceMul, Nat.reduceLeDiff, reduceCtorEq, d3_0] <;> rfl)
    rintro K1 i H1 ⟨hi1, hiN, eH1⟩ hK1
    rw [eH1]
    simp only [go_sem, Int.reduceEq, Int.reduceAdd, Int.reduceSub, Int.reduceMul, Nat.reduceLT, Int.reduceLT, Int.reduceLE, Int.reduceToNat, Nat.reduceAdd, Nat.reduceSub, Nat.reduceMul, Nat.reduceLeDiff, reduceCtorEq, d3_0, hdC]
    have hadd := wadd1 (k := i) (by omega)
    by_cases hlt : i < N
    · have hiL : i < L3.length := by omega
      have hiT : i < T.length := by omega
      have hin : (i : Int) < (N : Int) := by omega
      have hi64 : (i : Int) < 64 := by omega
      have rki := rk_at hiL
      have wsub : IntKind.i64.wrap ((N : Int) - 1) = (N : Int) - 1 := w64 (by omega) (by omega)
      simp only [go_sem, Int.reduceEq, Int.reduceAdd, Int.reduceSub, Int.reduceMul, Nat.reduceLT, Int.reduceLT, Int.reduceLE, Int.reduceToNat, Nat.reduceAdd, Nat.reduceSub, Nat.reduceMul, Nat.reduceLeDiff, reduceCtorEq, hlt, hdC, wsub]
      refine loop_st d3_1 (fun z : Nat × Int => z.1) (fun z s => (s.set 19 (.int .i64 ((z.1 : Int) - 1))).set 18 (.int .i64 z.2)) (fun z H' => H' = H ∧ z.1 ≤ N ∧ FirstFrom N z.1 (whomP p f L3 i) z.2) (N, -1) ?_ ⟨rfl, Nat.le_refl _, .inl ⟨rfl, fun k h1 h2 => by omega⟩⟩ ?_
      · (simp only [go_sem, Int.reduceEq, Int.reduceAdd, Int.reduceSub, Int.reduceMul, Nat.reduceLT, Int.reduceLT, Int.reduceLE, Int.reduceToNat, Nat.reduceAdd, Nat.reduceSub, Nat.reduceMul, Nat.reduceLeDiff, reduceCtorEq, d3_1] <;> rfl)
      rintro K2 ⟨j, w⟩ H2 ⟨eH2', hjN, hw⟩ hK2
      simp only at hjN hw hK2
      rw [eH2']
      simp only [go_sem, Int.reduceEq, Int.reduceAdd, Int.reduceSub, Int.reduceMul, Nat.reduceLT, Int.reduceLT, Int.reduceLE, Int.reduceToNat, Nat.reduceAdd, Nat.reduceSub, Nat.reduceMul, Nat.reduceLeDiff, reduceCtorEq, d3_1]
      rcases Nat.eq_zero_or_pos j with hj0 | hj0
      · subst hj0
        have hwi : T[i] = w := IsFirst.uniq (hF i hiT) hw.all
        have hwi' : decide (T[i] = w) = true := decide_eq_true hwi
        simp only [go_sem, Int.reduceEq, Int.reduceAdd, Int.reduceSub, Int.reduceMul, Nat.reduceLT, Int.reduceLT, Int.reduceLE, Int.reduceToNat, Nat.reduceAdd, Nat.reduceSub, Nat.reduceMul, Nat.reduceLeDiff, reduceCtorEq, show decide ((0 : Int) ≤ ((0 : Nat) : Int) - 1) = false from rfl]
        refine frz_id ?_
        simp only [go_sem, Int.reduceEq, Int.reduceAdd, Int.reduceSub, Int.reduceMul, Nat.reduceLT, Int.reduceLT, Int.reduceLE, Int.reduceToNat, Nat.reduceAdd, Nat.reduceSub, Nat.reduceMul, Nat.reduceLeDiff, reduceCtorEq, hiT, rdI hiT, hwi', hadd]
        refine hK1 (i + 1) _ _ (by omega) ?_ ⟨by omega, hlt, rfl⟩
        simp only [go_sem, Int.reduceEq, Int.reduceAdd, Int.reduceSub, Int.reduceMul, Nat.reduceLT, Int.reduceLT, Int.reduceLE, Int.reduceToNat, Nat.reduceAdd, Nat.reduceSub, Nat.reduceMul, Nat.reduceLeDiff, reduceCtorEq, d3_0]
      · obtain ⟨k, rfl⟩ : ∃ k, j = k + 1 := ⟨j - 1, by omega⟩
        have ek : (((k + 1 : Nat) : Int) - 1) = (k : Int) := by omega
        have hk0 : decide ((0 : Int) ≤ (k : Int)) = true := decide_eq_true (by omega)
        have hkN : k < N := by omega
        have hkn : (k : Int) < (N : Int) := by omega
        have hkL : k < L3.length := by omega
        have hk64 : (k : Int) < 64 := by omega
        have rkk := rk_at hkL
        have wsk : IntKind.i64.wrap ((k : Int) - 1) = (k : Int) - 1 := w64 (by omega) (by omega)
        have hrd := rdC s (by omega) hkn hin
        have hpos := link_pos s k i
        have hk0' : (0 : Int) ≤ (k : Int) := by omega
        have hi0' : (0 : Int) ≤ (i : Int) := by omega
        rw [ek]
        by_cases hinf : L3[i] = 65535
        · have hinf' : decide (L3[i] = 65535) = true := decide_eq_true hinf
          simp only [go_sem, Int.reduceEq, Int.reduceAdd, Int.reduceSub, Int.reduceMul, Nat.reduceLT, Int.reduceLT, Int.reduceLE, Int.reduceToNat, Nat.reduceAdd, Nat.reduceSub, Nat.reduceMul, Nat.reduceLeDiff, reduceCtorEq, hk0, hiL, rdI hiL, hinf', wsk]
          refine hK2 (k, w) _ _ (by simp only; omega) ?_ ⟨rfl, by simp only; omega, hw.no fun hp => hp.2.1 (by rw [rki]; exact hinf)⟩
          simp only [go_sem, Int.reduceEq, Int.reduceAdd, Int.reduceSub, Int.reduceMul, Nat.reduceLT, Int.reduceLT, Int.reduceLE, Int.reduceToNat, Nat.reduceAdd, Nat.reduceSub, Nat.reduceMul, Nat.reduceLeDiff, reduceCtorEq, d3_1]
        · have hinf' : decide (L3[i] = 65535) = false := decide_eq_false hinf
          cases hlk : (alook f (ofP (k : Int) i)).isSome
          · rw [hlk] at hpos
            simp only [go_sem, Int.reduceEq, Int.reduceAdd, Int.reduceSub, Int.reduceMul, Nat.reduceLT, Int.reduceLT, Int.reduceLE, Int.reduceToNat, Nat.reduceAdd, Nat.reduceSub, Nat.reduceMul, Nat.reduceLeDiff, reduceCtorEq, hk0, hiL, rdI hiL, hinf', hk64, hi64, hdC, hrd, hpos, wsk]
            refine hK2 (k, w) _ _ (by simp only; omega) ?_ ⟨rfl, by simp only; omega, hw.no fun hp => by rw [whom_link hp] at hlk; cases hlk⟩
            simp only [go_sem, Int.reduceEq, Int.reduceAdd, Int.reduceSub, Int.reduceMul, Nat.reduceLT, Int.reduceLT, Int.reduceLE, Int.reduceToNat, Nat.reduceAdd, Nat.reduceSub, Nat.reduceMul, Nat.reduceLeDiff, reduceCtorEq, d3_1]
          · rw [hlk] at hpos
            have hlo := loL2 k
            have htop := lL2.top k
            simp only [go_sem, Int.reduceEq, Int.reduceAdd, Int.reduceSub, Int.reduceMul, Nat.reduceLT, Int.reduceLT, Int.reduceLE, Int.reduceToNat, Nat.reduceAdd, Nat.reduceSub, Nat.reduceMul, Nat.reduceLeDiff, reduceCtorEq, hk0, hiL, rdI hiL, hinf', hk64, hi64, hdC, hrd, hpos, hkL, rdI hkL]
            rw [← rkk]
            have hl1 : 1 ≤ p.least := by have : 1 ≤ p.least ∧ p.least ≤ 65535 := by simpa [isLeast] using h2
                                         omega
            refine (rby_spec hd s (by omega) h1 h2 (a := k) (b := i) hkn hin (rk L3 k) (fun cc g1 g2 => oneB_iff.2 ⟨by simp only; omega, by simp only; omega, by simp only; omega, htop, g1, by simp only; omega⟩)).use ?_
            have hst : byS p.zf p.zs p.least f k (rk L3 k) i = pstep p f k (rk L3 k) i := rfl
            rw [hst]
            have hh : (List.drop i (cat i1 L3)).head? = some (.int .i64 L3[i]) := rdI (h := H) hiL
            by_cases heq : pstep p f k (rk L3 k) i = L3[i]
            · have heq' : decide (pstep p f k (rk L3 k) i = L3[i]) = true := decide_eq_true heq
              simp only [go_sem, Int.reduceEq, Int.reduceAdd, Int.reduceSub, Int.reduceMul, Nat.reduceLT, Int.reduceLT, Int.reduceLE, Int.reduceToNat, Nat.reduceAdd, Nat.reduceSub, Nat.reduceMul, Nat.reduceLeDiff, reduceCtorEq, heq', wsk, hh]
              refine hK2 (k, (k : Int)) _ _ (by simp only; omega) ?_ ⟨rfl, by simp only; omega, .yes hkN ⟨by omega, by rw [rki]; exact hinf, by rw [rki]; exact heq⟩⟩
              simp only [go_sem, Int.reduceEq, Int.reduceAdd, Int.reduceSub, Int.reduceMul, Nat.reduceLT, Int.reduceLT, Int.reduceLE, Int.reduceToNat, Nat.reduceAdd, Nat.reduceSub, Nat.reduceMul, Nat.reduceLeDiff, reduceCtorEq, d3_1]
            · have heq' : decide (pstep p f k (rk L3 k) i = L3[i]) = false := decide_eq_false heq
              simp only [go_sem, Int.reduceEq, Int.reduceAdd, Int.reduceSub, Int.reduceMul, Nat.reduceLT, Int.reduceLT, Int.reduceLE, Int.reduceToNat, Nat.reduceAdd, Nat.reduceSub, Nat.reduceMul, Nat.reduceLeDiff, reduceCtorEq, heq', wsk, hh]
              refine hK2 (k, w) _ _ (by simp only; omega) ?_ ⟨rfl, by simp only; omega, hw.no fun hp => heq (by rw [← rki]; exact hp.2.2)⟩
              simp only [go_sem, Int.reduceEq, Int.reduceAdd, Int.reduceSub, Int.reduceMul, Nat.reduceLT, Int.reduceLT, Int.reduceLE, Int.reduceToNat, Nat.reduceAdd, Nat.reduceSub, Nat.reduceMul, Nat.reduceLeDiff, reduceCtorEq, d3_1]
    · simp only [go_sem, Int.reduceEq, Int.reduceAdd, Int.reduceSub, Int.reduceMul, Nat.reduceLT, Int.reduceLT, Int.reduceLE, Int.reduceToNat, Nat.reduceAdd, Nat.reduceSub, Nat.reduceMul, Nat.reduceLeDiff, reduceCtorEq, hlt]
      refine frz_id ?_
      simp only [go_sem, Int.reduceEq, Int.reduceAdd, Int.reduceSub, Int.reduceMul, Nat.reduceLT, Int.reduceLT, Int.reduceLE, Int.reduceToNat, Nat.reduceAdd, Nat.reduceSub, Nat.reduceMul, Nat.reduceLeDiff, reduceCtorEq]
      refine (known31_spec _).use ?_
      simp only [go_sem, Int.reduceEq, Int.reduceAdd, Int.reduceSub, Int.reduceMul, Nat.reduceLT, Int.reduceLT, Int.reduceLE, Int.reduceToNat, Nat.reduceAdd, Nat.reduceSub, Nat.reduceMul, Nat.reduceLeDiff, reduceCtorEq]
      (refine hQ _ _ _ _ _ (by first | exact .inr rfl | exact .inl rfl) rfl (by first | exact FzH.refl _ | exact FzH.sub (by (repeat' (first | exact Sub.refl _ | assumption | (refine Sub.upd ?_ (by first | assumption | (simp only [*]; done) | exact Sub.isNone (by assumption) (by assumption) | exact Sub.isNone (by assumption) (by simp only [*]))))))) (FzL.refl _ _ _) ?_; try (simp only [go_sem, Int.reduceEq, Int.reduceAdd, Int.reduceSub, Int.reduceMul, Nat.reduceLT, Int.reduceLT, Int.reduceLE, Int.reduceToNat, Nat.reduceAdd, Nat.reduceSub, Nat.reduceMul, Nat.reduceLeDiff, reduceCtorEq]))
  · have he' : decide (p.ierr = 0) = false := decide_eq_false he
    refine PureA.use (show PureA Try.prog 18 _ _ _ from iranks_bad x p _ he) ?_
    simp only [go_sem, Int.reduceEq, Int.reduceAdd, Int.reduceSub, Int.reduceMul, Nat.reduceLT, Int.reduceLT, Int.reduceLE, Int.reduceToNat, Nat.reduceAdd, Nat.reduceSub, Nat.reduceMul, Nat.reduceLeDiff, reduceCtorEq]
    refine (to17_spec p _).use ?_
    simp only [go_sem, Int.reduceEq, Int.reduceAdd, Int.reduceSub, Int.reduceMul, Nat.reduceLT, Int.reduceLT, Int.reduceLE, Int.reduceToNat, Nat.reduceAdd, Nat.reduceSub, Nat.reduceMul, Nat.reduceLeDiff, reduceCtorEq]
    refine PureA.use (show PureA Try.prog 20 _ _ _ from itree_bad x p _ he) ?_
    simp only [go_sem, Int.reduceEq, Int.reduceAdd, Int.reduceSub, Int.reduceMul, Nat.reduceLT, Int.reduceLT, Int.reduceLE, Int.reduceToNat, Nat.reduceAdd, Nat.reduceSub, Nat.reduceMul, Nat.reduceLeDiff, reduceCtorEq]
    refine (rcheck17_spec p _).use ?_
    by_cases e1 : p.err = 0
    · by_cases e2 : p.code = 0
      · exact absurd (by unfold Pol.ierr; rw [if_neg (fun x => x e1), if_neg (fun x => x e2)]) he
      · have hi : p.ierr = 6 := by unfold Pol.ierr; rw [if_neg (fun x => x e1), if_pos e2]
        have e1' : decide (p.err = 0) = true := decide_eq_true e1
        have e2' : decide (p.code = 0) = false := decide_eq_false e2
        simp only [go_sem, Int.reduceEq, Int.reduceAdd, Int.reduceSub, Int.reduceMul, Nat.reduceLT, Int.reduceLT, Int.reduceLE, Int.reduceToNat, Nat.reduceAdd, Nat.reduceSub, Nat.reduceMul, Nat.reduceLeDiff, reduceCtorEq, e1', e2', hi]
        refine (to17_spec p _).use ?_
        simp only [go_sem, Int.reduceEq, Int.reduceAdd, Int.reduceSub, Int.reduceMul, Nat.reduceLT, Int.reduceLT, Int.reduceLE, Int.reduceToNat, Nat.reduceAdd, Nat.reduceSub, Nat.reduceMul, Nat.reduceLeDiff, reduceCtorEq]
        refine PureA.use (show PureA Try.prog 18 _ _ _ from iranks_nil p _) ?_
        simp only [go_sem, Int.reduceEq, Int.reduceAdd, Int.reduceSub, Int.reduceMul, Nat.reduceLT, Int.reduceLT, Int.reduceLE, Int.reduceToNat, Nat.reduceAdd, Nat.reduceSub, Nat.reduceMul, Nat.reduceLeDiff, reduceCtorEq, show decide ((6 : Int) = 0) = false from rfl]
        refine (known31_spec _).use ?_
        simp only [go_sem, Int.reduceEq, Int.reduceAdd, Int.reduceSub, Int.reduceMul, Nat.reduceLT, Int.reduceLT, Int.reduceLE, Int.reduceToNat, Nat.reduceAdd, Nat.reduceSub, Nat.reduceMul, Nat.reduceLeDiff, reduceCtorEq]
        (refine hQ _ _ _ _ _ (by first | exact .inr rfl | exact .inl rfl) rfl (by first | exact FzH.refl _ | exact FzH.sub (by (repeat' (first | exact Sub.refl _ | assumption | (refine Sub.upd ?_ (by first | assumption | (simp only [*]; done) | exact Sub.isNone (by assumption) (by assumption) | exact Sub.isNone (by assumption) (by simp only [*]))))))) (FzL.refl _ _ _) ?_; try (simp only [go_sem, Int.reduceEq, Int.reduceAdd, Int.reduceSub, Int.reduceMul, Nat.reduceLT, Int.reduceLT, Int.reduceLE, Int.reduceToNat, Nat.reduceAdd, Nat.reduceSub, Nat.reduceMul, Nat.reduceLeDiff, reduceCtorEq]))
    · have hi : p.ierr = p.err := by unfold Pol.ierr; rw [if_pos e1]
      have e1' : decide (p.err = 0) = false := decide_eq_false e1
      simp only [go_sem, Int.reduceEq, Int.reduceAdd, Int.reduceSub, Int.reduceMul, Nat.reduceLT, Int.reduceLT, Int.reduceLE, Int.reduceToNat, Nat.reduceAdd, Nat.reduceSub, Nat.reduceMul, Nat.reduceLeDiff, reduceCtorEq, e1', hi]
      refine (to17_spec p _).use ?_
      simp only [go_sem, Int.reduceEq, Int.reduceAdd, Int.reduceSub, Int.reduceMul, Nat.reduceLT, Int.reduceLT, Int.reduceLE, Int.reduceToNat, Nat.reduceAdd, Nat.reduceSub, Nat.reduceMul, Nat.reduceLeDiff, reduceCtorEq]
      refine PureA.use (show PureA Try.prog 18 _ _ _ from iranks_nil p _) ?_
      simp only [go_sem, Int.reduceEq, Int.reduceAdd, Int.reduceSub, Int.reduceMul, Nat.reduceLT, Int.reduceLT, Int.reduceLE, Int.reduceToNat, Nat.reduceAdd, Nat.reduceSub, Nat.reduceMul, Nat.reduceLeDiff, reduceCtorEq, e1']
      refine (known31_spec _).use ?_
      simp only [go_sem, Int.reduceEq, Int.reduceAdd, Int.reduceSub, Int.reduceMul, Nat.reduceLT, Int.reduceLT, Int.reduceLE, Int.reduceToNat, Nat.reduceAdd, Nat.reduceSub, Nat.reduceMul, Nat.reduceLeDiff, reduceCtorEq]
      (refine hQ _ _ _ _ _ (by first | exact .inr rfl | exact .inl rfl) rfl (by first | exact FzH.refl _ | exact FzH.sub (by (repeat' (first | exact Sub.refl _ | assumption | (refine Sub.upd ?_ (by first | assumption | (simp only [*]; done) | exact Sub.isNone (by assumption) (by assumption) | exact Sub.isNone (by assumption) (by simp only [*]))))))) (FzL.refl _ _ _) ?_; try (simp only [go_sem, Int.reduceEq, Int.reduceAdd, Int.reduceSub, Int.reduceMul, Nat.reduceLT, Int.reduceLT, Int.reduceLE, Int.reduceToNat, Nat.reduceAdd, Nat.reduceSub, Nat.reduceMul, Nat.reduceLeDiff, reduceCtorEq]))

end Go.Proofs.Ytaeppifdbcoipaa
