/-
  IdealHeaps.
-/
import Derived.Test.YtaeppifdbcoipaaIp
namespace Go.Proofs.Ytaeppifdbcoipaa
open Go E
set_option linter.unusedVariables false
set_option linter.unusedSimpArgs false
set_option maxRecDepth 100000

theorem known31_spec (h : AHeap) : PureA Try.prog 22 [] h (.bool true) := by
  (refine PureA.enter (ac := c22) (rs := r22) Try.func22 rfl (by decide) c22_ok r22_ok ?_; intro Q hQ; simp only [go_sem, Int.reduceEq, Int.reduceAdd, Int.reduceSub, Int.reduceMul, Nat.reduceLT, Int.reduceLT, Int.reduceLE, Int.reduceToNat, Nat.reduceAdd, Nat.reduceSub, Nat.reduceMul, Nat.reduceLeDiff, reduceCtorEq, c22, Try.ntmps22])
  refine CallsA.use (show CallsA Try.prog 17 [.int .i64 2, .ro [.int .i64 0, .int .i64 1, .int .i64 128, .int .i64 1, .int .i64 2, .int .i64 128] 2 true] h _ from made_spec 2 [(0, 1, 128), (1, 2, 128)] true h (by simp)) ?_
  rintro _ H ⟨x, id, y, f, cs, rfl, hf, hx, hid, hy, kin, hd, s, hs⟩
  have e3 : (1 + 2 % 18446744073709551616 % 8 : Int) = ((3 : Nat) : Int) := by decide
  rw [e3] at hf kin hd s
  have hfk : f = kF := hf
  subst hfk
  have he : kP.ierr = 0 := by decide +kernel
  have ok := pstep_ok he 3 kF
  simp only [go_sem, Int.reduceEq, Int.reduceAdd, Int.reduceSub, Int.reduceMul, Nat.reduceLT, Int.reduceLT, Int.reduceLE, Int.reduceToNat, Nat.reduceAdd, Nat.reduceSub, Nat.reduceMul, Nat.reduceLeDiff, reduceCtorEq]
  refine (pdefault_spec 0 _).use ?_
  rw [if_pos (by omega), if_pos (by omega)]
  simp only [go_sem, Int.reduceEq, Int.reduceAdd, Int.reduceSub, Int.reduceMul, Nat.reduceLT, Int.reduceLT, Int.reduceLE, Int.reduceToNat, Nat.reduceAdd, Nat.reduceSub, Nat.reduceMul, Nat.reduceLeDiff, reduceCtorEq, Pol.av, Pol.dflt]
  intro p hp
  simp only [go_sem, Int.reduceEq, Int.reduceAdd, Int.reduceSub, Int.reduceMul, Nat.reduceLT, Int.reduceLT, Int.reduceLE, Int.reduceToNat, Nat.reduceAdd, Nat.reduceSub, Nat.reduceMul, Nat.reduceLeDiff, reduceCtorEq, del_same, del_none hp]
  refine CallsA.use (show CallsA Try.prog 18 _ _ _ from iranks_spec kin (by omega) s.pos s.dom kP he) ?_
  rintro _ _ ⟨eH, L, rfl, hL, lL, loL⟩
  rw [eH]
  have hLe : L = [256, 512, 768] := rk_ext hL rfl fun c hc => lL.uniq ok.toStepOk kLeast hc
  subst hLe
  simp only [go_sem, Int.reduceEq, Int.reduceAdd, Int.reduceSub, Int.reduceMul, Nat.reduceLT, Int.reduceLT, Int.reduceLE, Int.reduceToNat, Nat.reduceAdd, Nat.reduceSub, Nat.reduceMul, Nat.reduceLeDiff, reduceCtorEq]
  refine CallsA.use (show CallsA Try.prog 20 _ _ _ from itree_spec kin (by omega) s.pos s.dom kP he) ?_
  rintro _ _ ⟨eH2, L, T, rfl, hL2, lL2, loL2, hT, hF⟩
  rw [eH2]
  have hLe : L = [256, 512, 768] := rk_ext hL2 rfl fun c hc => lL2.uniq ok.toStepOk kLeast hc
  subst hLe
  have hTe : T = [-1, 0, 1] := by
    match T, hT, hF with
    | [a, b, c], _, hF =>
      have h0 := IsFirst.uniq (hF 0 (by simp)) kFirst.1
      have h1 := IsFirst.uniq (hF 1 (by simp)) kFirst.2.1
      have h2 := IsFirst.uniq (hF 2 (by simp)) kFirst.2.2
      simp only [List.getElem_cons_zero, List.getElem_cons_succ] at h0 h1 h2
      rw [h0, h1, h2]
  subst hTe
  simp only [go_sem, Int.reduceEq, Int.reduceAdd, Int.reduceSub, Int.reduceMul, Nat.reduceLT, Int.reduceLT, Int.reduceLE, Int.reduceToNat, Nat.reduceAdd, Nat.reduceSub, Nat.reduceMul, Nat.reduceLeDiff, reduceCtorEq]
  refine PureA.use (show PureA Try.prog 24 _ _ _ from same10_spec [256, 512, 768] [256, 512, 768] _ true _ (by simp)) ?_
  simp only [go_sem, Int.reduceEq, Int.reduceAdd, Int.reduceSub, Int.reduceMul, Nat.reduceLT, Int.reduceLT, Int.reduceLE, Int.reduceToNat, Nat.reduceAdd, Nat.reduceSub, Nat.reduceMul, Nat.reduceLeDiff, reduceCtorEq]
  refine PureA.use (show PureA Try.prog 24 _ _ _ from same10_spec [-1, 0, 1] [-1, 0, 1] _ true _ (by simp)) ?_
  simp only [go_sem, Int.reduceEq, Int.reduceAdd, Int.reduceSub, Int.reduceMul, Nat.reduceLT, Int.reduceLT, Int.reduceLE, Int.reduceToNat, Nat.reduceAdd, Nat.reduceSub, Nat.reduceMul, Nat.reduceLeDiff, reduceCtorEq]
  (refine hQ _ _ _ _ _ (by first | exact .inr rfl | exact .inl rfl) rfl (by first | exact FzH.refl _ | exact FzH.sub (by (repeat' (first | exact Sub.refl _ | assumption | (refine Sub.upd ?_ (by first | assumption | (simp only [*]; done) | exact Sub.isNone (by assumption) (by assumption) | exact Sub.isNone (by assumption) (by simp only [*]))))))) (FzL.refl _ _ _) ?_; try (simp only [go_sem, Int.reduceEq, Int.reduceAdd, Int.reduceSub, Int.reduceMul, Nat.reduceLT, Int.reduceLT, Int.reduceLE, Int.reduceToNat, Nat.reduceAdd, Nat.reduceSub, Nat.reduceMul, Nat.reduceLeDiff, reduceCtorEq]))

theorem HIn.more {q : Nat} {c : Int} {l : List Jb} {h H : AHeap} (i : HIn q c l h H) {x : Nat} {o : AObj} (hx : H x = none) : HIn q c l (upd h x o) (upd H x o) := by
  obtain ⟨v, H0, g, w, hq, rfl⟩ := i
  have hne : x ≠ q := by rintro rfl; rw [upd_same] at hx; cases hx
  rw [upd_ne hne] at hx
  exact ⟨v, _, g.more hx, w, by rw [upd_ne (Ne.symm hne)]; exact hq, upd_comm (Ne.symm hne)⟩
theorem HIn.less {q : Nat} {c : Int} {l : List Jb} {h H : AHeap} {x : Nat} {o : AObj} (hx : h x = none) (i : HIn q c l (upd h x o) H) : ∃ H2, HIn q c l h H2 ∧ H2 x = none ∧ H = upd H2 x o := by
  obtain ⟨v, H0, g, w, hq, rfl⟩ := i
  have hx0 := g.keep (x := x) upd_same
  have hne : x ≠ q := by rintro rfl; rw [hx0] at hq; cases hq
  obtain ⟨h2, g2, h2x, s2, e2⟩ := g.unpoke hx
  have e3 : H0 = upd h2 x o := by
    rw [← e2 o]
    funext y
    by_cases hy : y = x
    · subst hy; rw [upd_same, hx0]
    · rw [upd_ne hy]
  have hq2 : h2 q = none := by rw [e3, upd_ne (Ne.symm hne)] at hq; exact hq
  exact ⟨_, ⟨v, h2, g2, w, hq2, rfl⟩, by rw [upd_ne hne]; exact h2x, by rw [e3, upd_comm hne]⟩

section
variable {q esz n : Nat} {c : Int} {J : List Jb} {h H7 hb H : AHeap} {u : AV} {cs : List AV}
theorem HIn.swap' (i : HIn q c J h H7) (g : Grow H7 esz u cs n H) : ∃ hb, Grow h esz u cs n hb ∧ HIn q c J hb H := by
  rcases g.how with ⟨a1, a2, rfl⟩ | ⟨a1, rfl⟩ | ⟨id, cap, junk, tot, a1, a2, hT, hid, rfl⟩
  · exact ⟨h, ⟨g.size, g.sca, .inl ⟨a1, a2, rfl⟩⟩, i⟩
  · exact ⟨h, ⟨g.size, g.sca, .inr (.inl ⟨a1, rfl⟩)⟩, i⟩
  · exact ⟨_, ⟨g.size, g.sca, .inr (.inr ⟨id, cap, junk, tot, a1, a2, hT, i.sub.isNone hid, rfl⟩)⟩, i.more hid⟩
theorem HIn.swap (g : Grow h esz u cs n hb) (i : HIn q c J hb H) : ∃ H7, HIn q c J h H7 ∧ Grow H7 esz u cs n H := by
  rcases g.how with ⟨a1, a2, rfl⟩ | ⟨a1, rfl⟩ | ⟨id, cap, junk, tot, a1, a2, hT, hid, rfl⟩
  · exact ⟨H, i, ⟨g.size, g.sca, .inl ⟨a1, a2, rfl⟩⟩⟩
  · exact ⟨H, i, ⟨g.size, g.sca, .inr (.inl ⟨a1, rfl⟩)⟩⟩
  · obtain ⟨H2, i2, n2, e2⟩ := i.less hid
    exact ⟨H2, i2, ⟨g.size, g.sca, .inr (.inr ⟨id, cap, junk, tot, a1, a2, hT, n2, e2⟩)⟩⟩
end

/-- The same of a slice of one's own. -/
theorem rtake_own {l : List Rj} {id cap tot : Nat} {junk : List AV} {h : AHeap} (hid : h id = some (.cells (cat encR l ++ junk) tot)) (hn : l.length ≤ 1000000) (h0 : 0 < l.length) :
    CallsA Try.prog 27 [.sl id 0 l.length cap] h (fun r H => H = h ∧ ∃ A : Nat, ∃ hA : A < l.length, r = .int .i64 (A : Int) ∧ ∀ x ∈ l, ¬ ltR x l[A]) := by
  have q0 : ∀ t : Rj, (encR t)[0]? = some (.int .i64 t.1) := fun _ => rfl
  have q1 : ∀ t : Rj, (encR t)[1]? = some (.int .i64 t.2) := fun _ => rfl
  have rd0 : ∀ (i : Nat) (hi : i < l.length), (cat encR l ++ junk)[i * 2]? = some (.int .i64 l[i].1) := fun i hi => by
    rw [List.getElem?_append_left (by rw [cat_len encR_len]; omega), cat_get0 encR_len (by omega) hi]; exact q0 _
  have rd1 : ∀ (i : Nat) (hi : i < l.length), (cat encR l ++ junk)[i * 2 + 1]? = some (.int .i64 l[i].2) := fun i hi => by
    rw [List.getElem?_append_left (by rw [cat_len encR_len]; omega), cat_get encR_len hi (by omega)]; exact q1 _
  (refine CallsA.enterR (ac := c27) (rs := r27) Try.func27 rfl (by decide) c27_ok r27_ok ?_; intro Q hQ; simp only [go_sem, Int.reduceEq, Int.reduceAdd, Int.reduceSub, Int.reduceMul, Nat.reduceLT, Int.reduceLT, Int.reduceLE, Int.reduceToNat, Nat.reduceAdd, Nat.reduceSub, Nat.reduceMul, Nat.reduceLeDiff, reduceCtorEq, c27, Try.ntmps27])
  refine loop_st d27_0 (fun x : Nat × Int => l.length - x.1) (fun x s => (s.set 4 (.int .i64 (x.1 : Int))).set 3 (.int .i64 x.2)) (fun x H => x.1 ≤ l.length ∧ H = h ∧ ((x.1 = 0 ∧ x.2 = -1) ∨ ∃ A : Nat, ∃ hA : A < l.length, x.2 = (A : Int) ∧ A < x.1 ∧ ∀ j (hj : j < l.length), j < x.1 → ¬ ltR l[j] l[A])) (0, -1) ?_ ⟨Nat.zero_le _, rfl, .inl ⟨rfl, rfl⟩⟩ ?_
  · (simp only [go_sem, Int.reduceEq, Int.reduceAdd, Int.reduceSub, Int.reduceMul, Nat.reduceLT, Int.reduceLT, Int.reduceLE, Int.reduceToNat, Nat.reduceAdd, Nat.reduceSub, Nat.reduceMul, Nat.reduceLeDiff, reduceCtorEq, d27_0] <;> rfl)
  rintro N ⟨k, a⟩ H1 ⟨hk, eH, ha⟩ hN
  simp only at hk ha hN
  rw [eH]
  simp only [go_sem, Int.reduceEq, Int.reduceAdd, Int.reduceSub, Int.reduceMul, Nat.reduceLT, Int.reduceLT, Int.reduceLE, Int.reduceToNat, Nat.reduceAdd, Nat.reduceSub, Nat.reduceMul, Nat.reduceLeDiff, reduceCtorEq, d27_0]
  have hadd := wadd1 (k := k) (by omega)
  by_cases hlt : k < l.length
  · rcases ha with ⟨rfl, rfl⟩ | ⟨A, hA, rfl, hAk, hall⟩
    · simp only [go_sem, Int.reduceEq, Int.reduceAdd, Int.reduceSub, Int.reduceMul, Nat.reduceLT, Int.reduceLT, Int.reduceLE, Int.reduceToNat, Nat.reduceAdd, Nat.reduceSub, Nat.reduceMul, Nat.reduceLeDiff, reduceCtorEq, hlt, hadd]
      refine hN (1, 0) _ _ (by simp only; omega) ?_ ⟨by simp only; omega, rfl, .inr ⟨0, hlt, rfl, by simp, fun j hj hj1 => ?_⟩⟩
      · simp only [go_sem, Int.reduceEq, Int.reduceAdd, Int.reduceSub, Int.reduceMul, Nat.reduceLT, Int.reduceLT, Int.reduceLE, Int.reduceToNat, Nat.reduceAdd, Nat.reduceSub, Nat.reduceMul, Nat.reduceLeDiff, reduceCtorEq, d27_0]
      · have : j = 0 := by simp only at hj1; omega
        subst this
        unfold ltR; omega
    · have hneg : ¬ (A : Int) < 0 := by omega
      have a0 := rd0 A hA
      have a1 := rd1 A hA
      have k0 := rd0 k hlt
      have k1 := rd1 k hlt
      have keep : ¬ ltR l[k] l[A] → ∀ j (hj : j < l.length), j < k + 1 → ¬ ltR l[j] l[A] := fun hn j hj hj1 => by
        by_cases e : j = k
        · subst e; exact hn
        · exact hall j hj (by omega)
      have take : ltR l[k] l[A] → ∀ j (hj : j < l.length), j < k + 1 → ¬ ltR l[j] l[k] := fun hy j hj hj1 => by
        by_cases e : j = k
        · subst e; unfold ltR; omega
        · have := hall j hj (by omega)
          unfold ltR at *; omega
      by_cases c1 : l[k].2 < l[A].2
      · simp only [go_sem, Int.reduceEq, Int.reduceAdd, Int.reduceSub, Int.reduceMul, Nat.reduceLT, Int.reduceLT, Int.reduceLE, Int.reduceToNat, Nat.reduceAdd, Nat.reduceSub, Nat.reduceMul, Nat.reduceLeDiff, reduceCtorEq, hlt, hA, hneg, hid, a0, a1, k0, k1, c1, hadd]
        refine hN (k + 1, (k : Int)) _ _ (by simp only; omega) ?_ ⟨by simp only; omega, rfl, .inr ⟨k, hlt, rfl, by simp, take (.inl c1)⟩⟩
        simp only [go_sem, Int.reduceEq, Int.reduceAdd, Int.reduceSub, Int.reduceMul, Nat.reduceLT, Int.reduceLT, Int.reduceLE, Int.reduceToNat, Nat.reduceAdd, Nat.reduceSub, Nat.reduceMul, Nat.reduceLeDiff, reduceCtorEq, d27_0]
      · by_cases c2 : l[k].2 = l[A].2
        · have c2' : decide (l[k].2 = l[A].2) = true := decide_eq_true c2
          by_cases c3 : l[k].1 < l[A].1
          · simp only [go_sem, Int.reduceEq, Int.reduceAdd, Int.reduceSub, Int.reduceMul, Nat.reduceLT, Int.reduceLT, Int.reduceLE, Int.reduceToNat, Nat.reduceAdd, Nat.reduceSub, Nat.reduceMul, Nat.reduceLeDiff, reduceCtorEq, hlt, hA, hneg, hid, a0, a1, k0, k1, c1, c2', c3, hadd]
            refine hN (k + 1, (k : Int)) _ _ (by simp only; omega) ?_ ⟨by simp only; omega, rfl, .inr ⟨k, hlt, rfl, by simp, take (.inr ⟨c2, c3⟩)⟩⟩
            simp only [go_sem, Int.reduceEq, Int.reduceAdd, Int.reduceSub, Int.reduceMul, Nat.reduceLT, Int.reduceLT, Int.reduceLE, Int.reduceToNat, Nat.reduceAdd, Nat.reduceSub, Nat.reduceMul, Nat.reduceLeDiff, reduceCtorEq, d27_0]
          · simp only [go_sem, Int.reduceEq, Int.reduceAdd, Int.reduceSub, Int.reduceMul, Nat.reduceLT, Int.reduceLT, Int.reduceLE, Int.reduceToNat, Nat.reduceAdd, Nat.reduceSub, Nat.reduceMul, Nat.reduceLeDiff, reduceCtorEq, hlt, hA, hneg, hid, a0, a1, k0, k1, c1, c2', c3, hadd]
            refine hN (k + 1, (A : Int)) _ _ (by simp only; omega) ?_ ⟨by simp only; omega, rfl, .inr ⟨A, hA, rfl, by simp only; omega, keep (by unfold ltR; omega)⟩⟩
            simp only [go_sem, Int.reduceEq, Int.reduceAdd, Int.reduceSub, Int.reduceMul, Nat.reduceLT, Int.reduceLT, Int.reduceLE, Int.reduceToNat, Nat.reduceAdd, Nat.reduceSub, Nat.reduceMul, Nat.reduceLeDiff, reduceCtorEq, d27_0]
        · have c2' : decide (l[k].2 = l[A].2) = false := decide_eq_false c2
          simp only [go_sem, Int.reduceEq, Int.reduceAdd, Int.reduceSub, Int.reduceMul, Nat.reduceLT, Int.reduceLT, Int.reduceLE, Int.reduceToNat, Nat.reduceAdd, Nat.reduceSub, Nat.reduceMul, Nat.reduceLeDiff, reduceCtorEq, hlt, hA, hneg, hid, a0, a1, k0, k1, c1, c2', hadd]
          refine hN (k + 1, (A : Int)) _ _ (by simp only; omega) ?_ ⟨by simp only; omega, rfl, .inr ⟨A, hA, rfl, by simp only; omega, keep (by unfold ltR; omega)⟩⟩
          simp only [go_sem, Int.reduceEq, Int.reduceAdd, Int.reduceSub, Int.reduceMul, Nat.reduceLT, Int.reduceLT, Int.reduceLE, Int.reduceToNat, Nat.reduceAdd, Nat.reduceSub, Nat.reduceMul, Nat.reduceLeDiff, reduceCtorEq, d27_0]
  · simp only [go_sem, Int.reduceEq, Int.reduceAdd, Int.reduceSub, Int.reduceMul, Nat.reduceLT, Int.reduceLT, Int.reduceLE, Int.reduceToNat, Nat.reduceAdd, Nat.reduceSub, Nat.reduceMul, Nat.reduceLeDiff, reduceCtorEq, hlt]
    refine frz_id ?_
    simp only [go_sem, Int.reduceEq, Int.reduceAdd, Int.reduceSub, Int.reduceMul, Nat.reduceLT, Int.reduceLT, Int.reduceLE, Int.reduceToNat, Nat.reduceAdd, Nat.reduceSub, Nat.reduceMul, Nat.reduceLeDiff, reduceCtorEq]
    rcases ha with ⟨e, _⟩ | ⟨A, hA, rfl, hAk, hall⟩
    · omega
    · refine hQ _ _ _ _ _ _ (.inr rfl) rfl (FzH.refl _) (FzL.refl _ _ _) ⟨rfl, A, hA, rfl, fun x hx => ?_⟩
      obtain ⟨j, hj, rfl⟩ := List.mem_iff_getElem.1 hx
      exact hall j hj (by omega)

end Go.Proofs.Ytaeppifdbcoipaa
