/-
  ideal.Tree.
-/
import Derived.Test.YtaeppifdbcoipaaIm
namespace Go.Proofs.Ytaeppifdbcoipaa
open Go E
set_option linter.unusedVariables false
set_option linter.unusedSimpArgs false
set_option maxRecDepth 100000

/-- The first one of which P is so, or -1. -/
def IsFirst (N : Nat) (P : Nat → Prop) (w : Int) : Prop := (w = -1 ∧ ∀ k, k < N → ¬ P k) ∨ ∃ k : Nat, k < N ∧ w = (k : Int) ∧ P k ∧ ∀ m, m < k → ¬ P m
theorem IsFirst.uniq {N : Nat} {P : Nat → Prop} {v w : Int} (a : IsFirst N P v) (b : IsFirst N P w) : v = w := by
  rcases a with ⟨rfl, a⟩ | ⟨k, hk, rfl, pk, a⟩ <;> rcases b with ⟨rfl, b⟩ | ⟨m, hm, rfl, pm, b⟩
  · rfl
  · exact absurd pm (a m hm)
  · exact absurd pk (b k hk)
  · rcases Nat.lt_trichotomy k m with h | h | h
    · exact absurd pk (b k h)
    · rw [h]
    · exact absurd pm (a m h)

/-- By whom a node may have its rank. -/
def whomP (p : Pol) (f : Lk) (L : List Int) (i : Nat) (k : Nat) : Prop := i ≠ 0 ∧ rk L i ≠ 65535 ∧ pstep p f k (rk L k) i = rk L i

theorem nbs_pair (n : Int) (f : Lk) (a : Int) : (nbsL n f a).Pairwise (· < ·) := by
  unfold nbsL
  refine List.Pairwise.filter _ ?_
  rw [List.pairwise_map]
  exact List.pairwise_lt_range.imp fun h => by omega

set_option maxHeartbeats 4000000 in
theorem itree_spec {x id : Nat} {N : Nat} {f : Lk} {h : AHeap} (k : LIn x id (N : Int) f h) (hN : 1 ≤ N ∧ N ≤ 8) (hpos : ∀ p c, alook f p = some c → 128 ≤ c ∧ c < 65535) (hdom : ∀ p c, alook f p = some c → 0 ≤ p.1 ∧ p.1 < p.2 ∧ p.2 < (N : Int)) (p : Pol) (he : p.ierr = 0) :
    CallsA Try.prog 20 [.ptr x 0, .agg p.av] h (fun r H => H = h ∧ ∃ L T : List Int, r = .tup [.ro (cat i1 T) T.length false, .int .i64 0] ∧ L.length = N ∧ Least N (pstep p f) p.least (rk L) ∧ (∀ b, p.least ≤ rk L b) ∧ T.length = N ∧ ∀ i (hi : i < T.length), IsFirst N (whomP p f L i) T[i]) := by
  obtain ⟨h1, h2, _, _⟩ := pfit he
  have hl : 1 ≤ p.least ∧ p.least ≤ 65535 := by simpa [isLeast] using h2
  (refine CallsA.enterR (ac := c20) (rs := r20) Try.func20 rfl (by decide) c20_ok r20_ok ?_; intro Q hQ; simp only [go_sem, Int.reduceEq, Int.reduceAdd, Int.reduceSub, Int.reduceMul, Nat.reduceLT, Int.reduceLT, Int.reduceLE, Int.reduceToNat, Nat.reduceAdd, Nat.reduceSub, Nat.reduceMul, Nat.reduceLeDiff, reduceCtorEq, c20, Try.ntmps20, Pol.av])
  refine (iranks_spec k hN hpos hdom p he).use ?_
  rintro _ _ ⟨eH0, L, rfl, hL, least, lo⟩
  rw [eH0]
  subst hL
  simp only [go_sem, Int.reduceEq, Int.reduceAdd, Int.reduceSub, Int.reduceMul, Nat.reduceLT, Int.reduceLT, Int.reduceLE, Int.reduceToNat, Nat.reduceAdd, Nat.reduceSub, Nat.reduceMul, Nat.reduceLeDiff, reduceCtorEq]
  refine loop_st d20_0 (fun y : Nat × AV × List Int => L.length - y.1) (fun y s => (s.set 25 (.int .i64 (y.1 : Int))).set 8 y.2.1) (fun y H' => y.1 ≤ L.length ∧ Grow h 1 y.2.1 (cat i1 y.2.2) y.2.2.length H' ∧ y.2.2.length = y.1 ∧ ∀ i (hi : i < y.2.2.length), IsFirst L.length (whomP p f L i) y.2.2[i]) (0, .nils, []) ?_ ⟨Nat.zero_le _, Grow.nil, rfl, fun i hi => by simp at hi⟩ ?_
  · (simp only [go_sem, Int.reduceEq, Int.reduceAdd, Int.reduceSub, Int.reduceMul, Nat.reduceLT, Int.reduceLT, Int.reduceLE, Int.reduceToNat, Nat.reduceAdd, Nat.reduceSub, Nat.reduceMul, Nat.reduceLeDiff, reduceCtorEq, d20_0] <;> rfl)
  rintro K1 ⟨i, u, T⟩ H1 ⟨hi, g1, hT, hall⟩ hK1
  simp only at hi g1 hT hall hK1
  simp only [go_sem, Int.reduceEq, Int.reduceAdd, Int.reduceSub, Int.reduceMul, Nat.reduceLT, Int.reduceLT, Int.reduceLE, Int.reduceToNat, Nat.reduceAdd, Nat.reduceSub, Nat.reduceMul, Nat.reduceLeDiff, reduceCtorEq, d20_0]
  have hadd := wadd1 (k := i) (by omega)
  by_cases hlt : i < L.length
  · have hiL : i < L.length := by omega
    have hk1 := k.sub g1.sub
    have rkL := rk_at hiL
    simp only [go_sem, Int.reduceEq, Int.reduceAdd, Int.reduceSub, Int.reduceMul, Nat.reduceLT, Int.reduceLT, Int.reduceLE, Int.reduceToNat, Nat.reduceAdd, Nat.reduceSub, Nat.reduceMul, Nat.reduceLeDiff, reduceCtorEq, hiL, rdI hiL]
    refine (kNbs_spec hk1 (by omega) (i : Int)).use ?_
    have hin : (i : Int) < (L.length : Int) := by omega
    have hnb : ∀ jj (hjj : jj < (nbsL (L.length : Int) f (i : Int)).length), ∃ kk : Nat, (nbsL (L.length : Int) f (i : Int))[jj] = (kk : Int) ∧ kk < L.length := fun jj hjj => by
      obtain ⟨⟨a1, a2⟩, a3⟩ := mem_nbs.1 (List.getElem_mem hjj)
      exact ⟨((nbsL (L.length : Int) f (i : Int))[jj]).toNat, by omega, by omega⟩
    have hne : ∀ b, b < L.length → (b : Int) ∉ nbsL (L.length : Int) f (i : Int) → ¬ whomP p f L i b := fun b hb hm hw => by
      obtain ⟨w1, w2, w3⟩ := hw
      apply w2
      rw [← w3]
      unfold pstep byS
      cases g : alook f (ofP b i) with
      | none => rfl
      | some cc =>
        have e : ofP (b : Int) (i : Int) = ofP (i : Int) (b : Int) := by unfold ofP; rw [Int.min_comm, Int.max_comm]
        rw [e] at g
        exact absurd (mem_nbs.2 ⟨⟨by omega, by omega⟩, (cost_link hin (by omega)).2 ⟨cc, g⟩⟩) hm
    have hpw := nbs_pair (L.length : Int) f (i : Int)
    have hnbl : (nbsL (L.length : Int) f (i : Int)).length ≤ L.length := by
      unfold nbsL
      exact Nat.le_trans (List.length_filter_le _ _) (by simp)
    generalize nbsL (L.length : Int) f (i : Int) = nb at *
    simp only [go_sem, Int.reduceEq, Int.reduceAdd, Int.reduceSub, Int.reduceMul, Nat.reduceLT, Int.reduceLT, Int.reduceLE, Int.reduceToNat, Nat.reduceAdd, Nat.reduceSub, Nat.reduceMul, Nat.reduceLeDiff, reduceCtorEq]
    refine loop_st d20_1 (fun y : Nat × Int => nb.length - y.1) (fun y s => (s.set 34 (.int .i64 (y.1 : Int))).set 11 (.int .i64 y.2))
      (fun y H => H = H1 ∧ y.1 ≤ nb.length ∧ ((y.2 = -1 ∧ ∀ a (ha : a < nb.length), a < y.1 → ∀ kk : Nat, nb[a] = (kk : Int) → ¬ whomP p f L i kk) ∨ ∃ a, ∃ ha : a < nb.length, ∃ kk : Nat, a < y.1 ∧ nb[a] = (kk : Int) ∧ y.2 = (kk : Int) ∧ whomP p f L i kk ∧ ∀ b (hb : b < nb.length), b < a → ∀ kk : Nat, nb[b] = (kk : Int) → ¬ whomP p f L i kk)) (0, -1) ?_ ⟨rfl, Nat.zero_le _, .inl ⟨rfl, fun a ha ha0 => by simp at ha0⟩⟩ ?_
    · (simp only [go_sem, Int.reduceEq, Int.reduceAdd, Int.reduceSub, Int.reduceMul, Nat.reduceLT, Int.reduceLT, Int.reduceLE, Int.reduceToNat, Nat.reduceAdd, Nat.reduceSub, Nat.reduceMul, Nat.reduceLeDiff, reduceCtorEq, d20_1] <;> rfl)
    rintro K2 ⟨jj, w⟩ H2 ⟨eH, hjj, hw⟩ hK2
    simp only at hjj hw hK2
    rw [eH]
    simp only [go_sem, Int.reduceEq, Int.reduceAdd, Int.reduceSub, Int.reduceMul, Nat.reduceLT, Int.reduceLT, Int.reduceLE, Int.reduceToNat, Nat.reduceAdd, Nat.reduceSub, Nat.reduceMul, Nat.reduceLeDiff, reduceCtorEq, d20_1]
    have hadd2 := wadd1 (k := jj) (by omega)
    by_cases hlt2 : jj < nb.length
    · obtain ⟨kk, hkk, hkN⟩ := hnb jj hlt2
      have hkL : kk < L.length := by omega
      have rkk := rk_at hkL
      simp only [go_sem, Int.reduceEq, Int.reduceAdd, Int.reduceSub, Int.reduceMul, Nat.reduceLT, Int.reduceLT, Int.reduceLE, Int.reduceToNat, Nat.reduceAdd, Nat.reduceSub, Nat.reduceMul, Nat.reduceLeDiff, reduceCtorEq, hlt2, rdI hlt2, hkk]
      have next : ((w = -1 ∧ ∀ a (ha : a < nb.length), a < jj → ∀ kk : Nat, nb[a] = (kk : Int) → ¬ whomP p f L i kk) ∨ ∃ a, ∃ ha : a < nb.length, ∃ kk : Nat, a < jj ∧ nb[a] = (kk : Int) ∧ w = (kk : Int) ∧ whomP p f L i kk ∧ ∀ b (hb : b < nb.length), b < a → ∀ kk : Nat, nb[b] = (kk : Int) → ¬ whomP p f L i kk) → (w = -1 → ¬ whomP p f L i kk) →
          ((w = -1 ∧ ∀ a (ha : a < nb.length), a < jj + 1 → ∀ kk : Nat, nb[a] = (kk : Int) → ¬ whomP p f L i kk) ∨ ∃ a, ∃ ha : a < nb.length, ∃ kk : Nat, a < jj + 1 ∧ nb[a] = (kk : Int) ∧ w = (kk : Int) ∧ whomP p f L i kk ∧ ∀ b (hb : b < nb.length), b < a → ∀ kk : Nat, nb[b] = (kk : Int) → ¬ whomP p f L i kk) := by
        rintro (⟨e1, e2⟩ | ⟨a, ha, kk2, e1, e2⟩) hn
        · refine .inl ⟨e1, fun a ha haj kk2 e3 => ?_⟩
          by_cases e : a = jj
          · subst e
            have : kk2 = kk := by rw [hkk] at e3; omega
            rw [this]; exact hn e1
          · exact e2 a ha (by omega) kk2 e3
        · exact .inr ⟨a, ha, kk2, by omega, e2⟩
      by_cases hw1 : w = -1
      · have hw1' : decide (w = -1) = true := decide_eq_true hw1
        by_cases hi0 : i = 0
        · have hi0' : decide ((i : Int) = 0) = true := decide_eq_true (by omega)
          simp only [go_sem, Int.reduceEq, Int.reduceAdd, Int.reduceSub, Int.reduceMul, Nat.reduceLT, Int.reduceLT, Int.reduceLE, Int.reduceToNat, Nat.reduceAdd, Nat.reduceSub, Nat.reduceMul, Nat.reduceLeDiff, reduceCtorEq, hw1', hi0', hadd2]
          refine hK2 (jj + 1, w) _ _ (by simp only; omega) ?_ ⟨rfl, hlt2, next hw fun _ hp => hp.1 hi0⟩
          simp only [go_sem, Int.reduceEq, Int.reduceAdd, Int.reduceSub, Int.reduceMul, Nat.reduceLT, Int.reduceLT, Int.reduceLE, Int.reduceToNat, Nat.reduceAdd, Nat.reduceSub, Nat.reduceMul, Nat.reduceLeDiff, reduceCtorEq, d20_1]
        · have hi0' : decide ((i : Int) = 0) = false := decide_eq_false (by omega)
          by_cases hinf : L[i] = 65535
          · have hinf' : decide (L[i] = 65535) = true := decide_eq_true hinf
            simp only [go_sem, Int.reduceEq, Int.reduceAdd, Int.reduceSub, Int.reduceMul, Nat.reduceLT, Int.reduceLT, Int.reduceLE, Int.reduceToNat, Nat.reduceAdd, Nat.reduceSub, Nat.reduceMul, Nat.reduceLeDiff, reduceCtorEq, hw1', hi0', hinf', hadd2]
            refine hK2 (jj + 1, w) _ _ (by simp only; omega) ?_ ⟨rfl, hlt2, next hw fun _ hp => hp.2.1 (by rw [rkL]; exact hinf)⟩
            simp only [go_sem, Int.reduceEq, Int.reduceAdd, Int.reduceSub, Int.reduceMul, Nat.reduceLT, Int.reduceLT, Int.reduceLE, Int.reduceToNat, Nat.reduceAdd, Nat.reduceSub, Nat.reduceMul, Nat.reduceLeDiff, reduceCtorEq, d20_1]
          · have hinf' : decide (L[i] = 65535) = false := decide_eq_false hinf
            have hkk' : (kk : Int) < (L.length : Int) := by omega
            have hlo := lo kk
            have htop := least.top kk
            simp only [go_sem, Int.reduceEq, Int.reduceAdd, Int.reduceSub, Int.reduceMul, Nat.reduceLT, Int.reduceLT, Int.reduceLE, Int.reduceToNat, Nat.reduceAdd, Nat.reduceSub, Nat.reduceMul, Nat.reduceLeDiff, reduceCtorEq, hw1', hi0', hinf', hkL, rdI hkL]
            rw [← rkk]
            refine (iby_spec hk1 hpos h1 h2 (a := kk) (b := i) hkk' hin (rk L kk) ⟨by omega, htop⟩ (fun cc g1 g2 => oneB_iff.2 ⟨by simp only; omega, by simp only; omega, by simp only; omega, htop, g1, by simp only; omega⟩)).use ?_
            have hst : byS p.zf p.zs p.least f kk (rk L kk) i = pstep p f kk (rk L kk) i := rfl
            rw [hst]
            by_cases heq : pstep p f kk (rk L kk) i = L[i]
            · have heq' : decide (pstep p f kk (rk L kk) i = L[i]) = true := decide_eq_true heq
              simp only [go_sem, Int.reduceEq, Int.reduceAdd, Int.reduceSub, Int.reduceMul, Nat.reduceLT, Int.reduceLT, Int.reduceLE, Int.reduceToNat, Nat.reduceAdd, Nat.reduceSub, Nat.reduceMul, Nat.reduceLeDiff, reduceCtorEq, heq', hadd2]
              refine hK2 (jj + 1, (kk : Int)) _ _ (by simp only; omega) ?_ ⟨rfl, hlt2, .inr ⟨jj, hlt2, kk, by simp only; omega, hkk, rfl, ⟨hi0, by rw [rkL]; exact hinf, by rw [rkL]; exact heq⟩, ?_⟩⟩
              · simp only [go_sem, Int.reduceEq, Int.reduceAdd, Int.reduceSub, Int.reduceMul, Nat.reduceLT, Int.reduceLT, Int.reduceLE, Int.reduceToNat, Nat.reduceAdd, Nat.reduceSub, Nat.reduceMul, Nat.reduceLeDiff, reduceCtorEq, d20_1]
              · rcases hw with ⟨_, e2⟩ | ⟨a, ha, kk2, e1, e2, e3, _⟩
                · exact fun b hb hbj => e2 b hb hbj
                · omega
            · have heq' : decide (pstep p f kk (rk L kk) i = L[i]) = false := decide_eq_false heq
              simp only [go_sem, Int.reduceEq, Int.reduceAdd, Int.reduceSub, Int.reduceMul, Nat.reduceLT, Int.reduceLT, Int.reduceLE, Int.reduceToNat, Nat.reduceAdd, Nat.reduceSub, Nat.reduceMul, Nat.reduceLeDiff, reduceCtorEq, heq', hadd2]
              refine hK2 (jj + 1, w) _ _ (by simp only; omega) ?_ ⟨rfl, hlt2, next hw fun _ hp => heq (by rw [← rkL]; exact hp.2.2)⟩
              simp only [go_sem, Int.reduceEq, Int.reduceAdd, Int.reduceSub, Int.reduceMul, Nat.reduceLT, Int.reduceLT, Int.reduceLE, Int.reduceToNat, Nat.reduceAdd, Nat.reduceSub, Nat.reduceMul, Nat.reduceLeDiff, reduceCtorEq, d20_1]
      · have hw1' : decide (w = -1) = false := decide_eq_false hw1
        simp only [go_sem, Int.reduceEq, Int.reduceAdd, Int.reduceSub, Int.reduceMul, Nat.reduceLT, Int.reduceLT, Int.reduceLE, Int.reduceToNat, Nat.reduceAdd, Nat.reduceSub, Nat.reduceMul, Nat.reduceLeDiff, reduceCtorEq, hw1', hadd2]
        refine hK2 (jj + 1, w) _ _ (by simp only; omega) ?_ ⟨rfl, hlt2, next hw fun e => absurd e hw1⟩
        simp only [go_sem, Int.reduceEq, Int.reduceAdd, Int.reduceSub, Int.reduceMul, Nat.reduceLT, Int.reduceLT, Int.reduceLE, Int.reduceToNat, Nat.reduceAdd, Nat.reduceSub, Nat.reduceMul, Nat.reduceLeDiff, reduceCtorEq, d20_1]
    · have hjl : jj = nb.length := by omega
      subst hjl
      simp only [go_sem, Int.reduceEq, Int.reduceAdd, Int.reduceSub, Int.reduceMul, Nat.reduceLT, Int.reduceLT, Int.reduceLE, Int.reduceToNat, Nat.reduceAdd, Nat.reduceSub, Nat.reduceMul, Nat.reduceLeDiff, reduceCtorEq, hlt2]
      refine frz_id ?_
      simp only [go_sem, Int.reduceEq, Int.reduceAdd, Int.reduceSub, Int.reduceMul, Nat.reduceLT, Int.reduceLT, Int.reduceLE, Int.reduceToNat, Nat.reduceAdd, Nat.reduceSub, Nat.reduceMul, Nat.reduceLeDiff, reduceCtorEq]
      refine g1.add1 (x := i1 w) rfl rfl (by omega) fun v' H3 g3 => ?_
      have e : cat i1 T ++ i1 w = cat i1 (T ++ [w]) := by rw [cat_append]; simp [cat]
      have el : T.length + 1 = (T ++ [w]).length := by simp
      rw [e, el] at g3
      simp only [go_sem, Int.reduceEq, Int.reduceAdd, Int.reduceSub, Int.reduceMul, Nat.reduceLT, Int.reduceLT, Int.reduceLE, Int.reduceToNat, Nat.reduceAdd, Nat.reduceSub, Nat.reduceMul, Nat.reduceLeDiff, reduceCtorEq, hadd]
      refine hK1 (i + 1, v', T ++ [w]) _ _ (by simp only; omega) ?_ ⟨hlt, g3, by simp [hT], fun a ha => ?_⟩
      · simp only [go_sem, Int.reduceEq, Int.reduceAdd, Int.reduceSub, Int.reduceMul, Nat.reduceLT, Int.reduceLT, Int.reduceLE, Int.reduceToNat, Nat.reduceAdd, Nat.reduceSub, Nat.reduceMul, Nat.reduceLeDiff, reduceCtorEq, d20_0]
      · by_cases haT : a < T.length
        · rw [List.getElem_append_left haT]; exact hall a haT
        · have : a = i := by simp only [List.length_append, List.length_cons, List.length_nil] at ha; omega
          subst this
          rw [List.getElem_append_right (by omega)]
          simp only [hT, Nat.sub_self, List.getElem_cons_zero]
          have hin2 : ∀ b, b < L.length → whomP p f L a b → ∃ c, ∃ hc : c < nb.length, nb[c] = (b : Int) := fun b hb hp => by
            by_cases hm : (b : Int) ∈ nb
            · obtain ⟨c, hc, e⟩ := List.mem_iff_getElem.1 hm
              exact ⟨c, hc, e⟩
            · exact absurd hp (hne b hb hm)
          rcases hw with ⟨rfl, e2⟩ | ⟨c, hc, kk, _, e3, rfl, e4, e5⟩
          · refine .inl ⟨rfl, fun b hb hp => ?_⟩
            obtain ⟨c, hc, e⟩ := hin2 b hb hp
            exact e2 c hc hc b e hp
          · obtain ⟨k2, hk2, hk3⟩ := hnb c hc
            refine .inr ⟨kk, by omega, rfl, e4, fun m hm hp => ?_⟩
            obtain ⟨d, hd, e⟩ := hin2 m (by omega) hp
            have hdc : d < c := by
              rcases Nat.lt_trichotomy d c with g | g | g
              · exact g
              · subst g; omega
              · have := List.pairwise_iff_getElem.1 hpw c d hc hd g
                omega
            exact e5 d hd hdc m e hp
  · have hiN : i = L.length := by omega
    simp only [go_sem, Int.reduceEq, Int.reduceAdd, Int.reduceSub, Int.reduceMul, Nat.reduceLT, Int.reduceLT, Int.reduceLE, Int.reduceToNat, Nat.reduceAdd, Nat.reduceSub, Nat.reduceMul, Nat.reduceLeDiff, reduceCtorEq, hlt]
    refine frz_id ?_
    simp only [go_sem, Int.reduceEq, Int.reduceAdd, Int.reduceSub, Int.reduceMul, Nat.reduceLT, Int.reduceLT, Int.reduceLE, Int.reduceToNat, Nat.reduceAdd, Nat.reduceSub, Nat.reduceMul, Nat.reduceLeDiff, reduceCtorEq]
    refine hQ _ _ _ _ h [.ro (cat i1 T) T.length false, .int .i64 0] (.inr rfl) rfl g1.fzH (.cons g1.fz (.cons (.refl _) .nil)) ⟨rfl, L, T, rfl, rfl, least, lo, by omega, hall⟩

end Go.Proofs.Ytaeppifdbcoipaa
