/-
  Neighbours: the document's worst one, add, Put.
-/
import Derived.Test.YtaeppifdbcoipaaNl
namespace Go.Proofs.Ytaeppifdbcoipaa
open Go E
set_option linter.unusedVariables false
set_option linter.unusedSimpArgs false
set_option maxRecDepth 100000

theorem own_c0 {L : List En} {junk : List AV} {k : Nat} (hk : k < L.length) : (cat encE L ++ junk)[k * 5]? = some (.int .i64 L[k].node) := by
  rw [List.getElem?_append_left (by rw [cat_len encE_len]; omega), cat_get0 encE_len (by omega) hk]; rfl
theorem own_c5 {L : List En} {junk : List AV} {k : Nat} (hk : k < L.length) : k * 5 + 5 ≤ (cat encE L ++ junk).length ∧ List.take 5 (List.drop (k * 5) (cat encE L ++ junk)) = encE L[k] := by
  have hl : (cat encE L).length = L.length * 5 := cat_len encE_len L
  constructor
  · rw [List.length_append, hl]; omega
  · rw [List.drop_append_of_le_length (by rw [hl]; omega), cat_at encE_len hk, List.append_assoc]
    exact List.take_left' rfl

theorem rworst_ro (L : List En) (K : List Int) (kx : Bool) (h : AHeap) (lx : Bool) (hn : L.length ≤ 1000) (hk : K.length ≤ 1000000) :
    CallsA Try.prog 117 [.ro (cat encE L) L.length lx, .ro (cat i1 K) K.length kx] h (fun r H => H = h ∧ ((L.filter (fun x => !K.contains x.node) = [] ∧ r = .int .i64 (-1)) ∨ ∃ m l, ∃ A : Nat, ∃ hA : A < L.length, L.filter (fun x => !K.contains x.node) = m :: l ∧ r = .int .i64 (A : Int) ∧ L[A] = maxL worseE m l)) := by
  have q0 : ∀ t : En, (encE t)[0]? = some (.int .i64 t.node) := fun _ => rfl
  have r0 := fun (k : Nat) (hk : k < L.length) (h' : AHeap) => (rd_first (h := h') encE_len (by omega) hk).trans (q0 _)
  have ra := fun (k : Nat) (hk : k < L.length) (h' : AHeap) => rd_all (h := h') encE_len hk
  (refine CallsA.enterR (ac := c117) (rs := r117) Try.func117 rfl (by decide) c117_ok r117_ok ?_; intro Q hQ; simp only [go_sem, Int.reduceEq, Int.reduceAdd, Int.reduceSub, Int.reduceMul, Nat.reduceLT, Int.reduceLT, Int.reduceLE, Int.reduceToNat, Nat.reduceAdd, Nat.reduceSub, Nat.reduceMul, Nat.reduceLeDiff, reduceCtorEq, c117, Try.ntmps117])
  refine loop_st d117_0 (fun x : Nat × Int => L.length - x.1) (fun x s => (s.set 6 (.int .i64 (x.1 : Int))).set 5 (.int .i64 x.2)) (fun x H => x.1 ≤ L.length ∧ H = h ∧ (((L.take x.1).filter (fun x => !K.contains x.node) = [] ∧ x.2 = -1) ∨ ∃ m l, ∃ A : Nat, ∃ hA : A < L.length, (L.take x.1).filter (fun x => !K.contains x.node) = m :: l ∧ x.2 = (A : Int) ∧ L[A] = maxL worseE m l)) (0, -1) ?_ ⟨Nat.zero_le _, rfl, .inl ⟨rfl, rfl⟩⟩ ?_
  · (simp only [go_sem, Int.reduceEq, Int.reduceAdd, Int.reduceSub, Int.reduceMul, Nat.reduceLT, Int.reduceLT, Int.reduceLE, Int.reduceToNat, Nat.reduceAdd, Nat.reduceSub, Nat.reduceMul, Nat.reduceLeDiff, reduceCtorEq, d117_0] <;> rfl)
  rintro N ⟨k, a⟩ H1 ⟨hkl, eH, ha⟩ hN
  simp only at hkl ha hN
  rw [eH]
  simp only [go_sem, Int.reduceEq, Int.reduceAdd, Int.reduceSub, Int.reduceMul, Nat.reduceLT, Int.reduceLT, Int.reduceLE, Int.reduceToNat, Nat.reduceAdd, Nat.reduceSub, Nat.reduceMul, Nat.reduceLeDiff, reduceCtorEq, d117_0]
  have hadd := wadd1 (k := k) (by omega)
  by_cases hlt : k < L.length
  · have hsn : (L.take (k + 1)).filter (fun x => !K.contains x.node) = (L.take k).filter (fun x => !K.contains x.node) ++ if K.contains L[k].node then [] else [L[k]] := by
      rw [List.take_succ_eq_append_getElem hlt, List.filter_append, List.filter_cons]
      cases K.contains L[k].node <;> rfl
    simp only [go_sem, Int.reduceEq, Int.reduceAdd, Int.reduceSub, Int.reduceMul, Nat.reduceLT, Int.reduceLT, Int.reduceLE, Int.reduceToNat, Nat.reduceAdd, Nat.reduceSub, Nat.reduceMul, Nat.reduceLeDiff, reduceCtorEq, hlt, r0 k hlt]
    refine (rhasR_spec K L[k].node kx h hk).use ?_
    cases hc : K.contains L[k].node
    · rw [hc] at hsn
      simp only [Bool.false_eq_true, if_false] at hsn
      rcases ha with ⟨h0, rfl⟩ | ⟨m, l, A, hA, h1, rfl, h2⟩
      · rw [h0, List.nil_append] at hsn
        simp only [go_sem, Int.reduceEq, Int.reduceAdd, Int.reduceSub, Int.reduceMul, Nat.reduceLT, Int.reduceLT, Int.reduceLE, Int.reduceToNat, Nat.reduceAdd, Nat.reduceSub, Nat.reduceMul, Nat.reduceLeDiff, reduceCtorEq, hadd]
        refine hN (k + 1, (k : Int)) _ _ (by simp only; omega) ?_ ⟨hlt, rfl, .inr ⟨L[k], [], k, hlt, hsn, rfl, rfl⟩⟩
        simp only [go_sem, Int.reduceEq, Int.reduceAdd, Int.reduceSub, Int.reduceMul, Nat.reduceLT, Int.reduceLT, Int.reduceLE, Int.reduceToNat, Nat.reduceAdd, Nat.reduceSub, Nat.reduceMul, Nat.reduceLeDiff, reduceCtorEq, d117_0]
      · rw [h1, List.cons_append] at hsn
        have hneg : ¬ (A : Int) < 0 := by omega
        have hms := maxL_snoc worseE m l L[k]
        rw [← h2] at hms
        simp only [go_sem, Int.reduceEq, Int.reduceAdd, Int.reduceSub, Int.reduceMul, Nat.reduceLT, Int.reduceLT, Int.reduceLE, Int.reduceToNat, Nat.reduceAdd, Nat.reduceSub, Nat.reduceMul, Nat.reduceLeDiff, reduceCtorEq, hneg, hlt, hA, ra k hlt, ra A hA]
        refine (rworse_spec L[k] L[A] h).use ?_
        cases hw : decide (0 < worseE L[k] L[A])
        · rw [if_neg (of_decide_eq_false hw)] at hms
          simp only [go_sem, Int.reduceEq, Int.reduceAdd, Int.reduceSub, Int.reduceMul, Nat.reduceLT, Int.reduceLT, Int.reduceLE, Int.reduceToNat, Nat.reduceAdd, Nat.reduceSub, Nat.reduceMul, Nat.reduceLeDiff, reduceCtorEq, hadd]
          refine hN (k + 1, (A : Int)) _ _ (by simp only; omega) ?_ ⟨hlt, rfl, .inr ⟨m, l ++ [L[k]], A, hA, hsn, rfl, hms.symm⟩⟩
          simp only [go_sem, Int.reduceEq, Int.reduceAdd, Int.reduceSub, Int.reduceMul, Nat.reduceLT, Int.reduceLT, Int.reduceLE, Int.reduceToNat, Nat.reduceAdd, Nat.reduceSub, Nat.reduceMul, Nat.reduceLeDiff, reduceCtorEq, d117_0]
        · rw [if_pos (of_decide_eq_true hw)] at hms
          simp only [go_sem, Int.reduceEq, Int.reduceAdd, Int.reduceSub, Int.reduceMul, Nat.reduceLT, Int.reduceLT, Int.reduceLE, Int.reduceToNat, Nat.reduceAdd, Nat.reduceSub, Nat.reduceMul, Nat.reduceLeDiff, reduceCtorEq, hadd]
          refine hN (k + 1, (k : Int)) _ _ (by simp only; omega) ?_ ⟨hlt, rfl, .inr ⟨m, l ++ [L[k]], k, hlt, hsn, rfl, hms.symm⟩⟩
          simp only [go_sem, Int.reduceEq, Int.reduceAdd, Int.reduceSub, Int.reduceMul, Nat.reduceLT, Int.reduceLT, Int.reduceLE, Int.reduceToNat, Nat.reduceAdd, Nat.reduceSub, Nat.reduceMul, Nat.reduceLeDiff, reduceCtorEq, d117_0]
    · rw [hc] at hsn
      simp only [if_true, List.append_nil] at hsn
      simp only [go_sem, Int.reduceEq, Int.reduceAdd, Int.reduceSub, Int.reduceMul, Nat.reduceLT, Int.reduceLT, Int.reduceLE, Int.reduceToNat, Nat.reduceAdd, Nat.reduceSub, Nat.reduceMul, Nat.reduceLeDiff, reduceCtorEq, hadd]
      refine hN (k + 1, a) _ _ (by simp only; omega) ?_ ⟨hlt, rfl, by simp only [hsn]; exact ha⟩
      simp only [go_sem, Int.reduceEq, Int.reduceAdd, Int.reduceSub, Int.reduceMul, Nat.reduceLT, Int.reduceLT, Int.reduceLE, Int.reduceToNat, Nat.reduceAdd, Nat.reduceSub, Nat.reduceMul, Nat.reduceLeDiff, reduceCtorEq, d117_0]
  · have hke : k = L.length := by omega
    subst hke
    rw [List.take_length] at ha
    simp only [go_sem, Int.reduceEq, Int.reduceAdd, Int.reduceSub, Int.reduceMul, Nat.reduceLT, Int.reduceLT, Int.reduceLE, Int.reduceToNat, Nat.reduceAdd, Nat.reduceSub, Nat.reduceMul, Nat.reduceLeDiff, reduceCtorEq, hlt]
    refine frz_id ?_
    simp only [go_sem, Int.reduceEq, Int.reduceAdd, Int.reduceSub, Int.reduceMul, Nat.reduceLT, Int.reduceLT, Int.reduceLE, Int.reduceToNat, Nat.reduceAdd, Nat.reduceSub, Nat.reduceMul, Nat.reduceLeDiff, reduceCtorEq]
    refine hQ _ _ _ _ h _ (.inr rfl) rfl (FzH.refl _) (FzL.refl _ _ _) ⟨rfl, ?_⟩
    rcases ha with ⟨h0, rfl⟩ | ⟨m, l, A, hA, h1, rfl, h2⟩
    · exact .inl ⟨h0, rfl⟩
    · exact .inr ⟨m, l, A, hA, h1, rfl, h2⟩


theorem rworst_own (L : List En) (K : List Int) (kx : Bool) (h : AHeap) {id cap tot : Nat} {junk : List AV} (blk : h id = some (.cells (cat encE L ++ junk) tot)) (hn : L.length ≤ 1000) (hk : K.length ≤ 1000000) :
    CallsA Try.prog 117 [.sl id 0 L.length cap, .ro (cat i1 K) K.length kx] h (fun r H => H = h ∧ ((L.filter (fun x => !K.contains x.node) = [] ∧ r = .int .i64 (-1)) ∨ ∃ m l, ∃ A : Nat, ∃ hA : A < L.length, L.filter (fun x => !K.contains x.node) = m :: l ∧ r = .int .i64 (A : Int) ∧ L[A] = maxL worseE m l)) := by
  have q0 : ∀ t : En, (encE t)[0]? = some (.int .i64 t.node) := fun _ => rfl
  have r0 := fun (k : Nat) (hk : k < L.length) => own_c0 (junk := junk) hk
  have rl := fun (k : Nat) (hk : k < L.length) => (own_c5 (junk := junk) hk).1
  have rt := fun (k : Nat) (hk : k < L.length) => (own_c5 (junk := junk) hk).2
  (refine CallsA.enterR (ac := c117) (rs := r117) Try.func117 rfl (by decide) c117_ok r117_ok ?_; intro Q hQ; simp only [go_sem, Int.reduceEq, Int.reduceAdd, Int.reduceSub, Int.reduceMul, Nat.reduceLT, Int.reduceLT, Int.reduceLE, Int.reduceToNat, Nat.reduceAdd, Nat.reduceSub, Nat.reduceMul, Nat.reduceLeDiff, reduceCtorEq, c117, Try.ntmps117])
  refine loop_st d117_0 (fun x : Nat × Int => L.length - x.1) (fun x s => (s.set 6 (.int .i64 (x.1 : Int))).set 5 (.int .i64 x.2)) (fun x H => x.1 ≤ L.length ∧ H = h ∧ (((L.take x.1).filter (fun x => !K.contains x.node) = [] ∧ x.2 = -1) ∨ ∃ m l, ∃ A : Nat, ∃ hA : A < L.length, (L.take x.1).filter (fun x => !K.contains x.node) = m :: l ∧ x.2 = (A : Int) ∧ L[A] = maxL worseE m l)) (0, -1) ?_ ⟨Nat.zero_le _, rfl, .inl ⟨rfl, rfl⟩⟩ ?_
  · (simp only [go_sem, Int.reduceEq, Int.reduceAdd, Int.reduceSub, Int.reduceMul, Nat.reduceLT, Int.reduceLT, Int.reduceLE, Int.reduceToNat, Nat.reduceAdd, Nat.reduceSub, Nat.reduceMul, Nat.reduceLeDiff, reduceCtorEq, d117_0] <;> rfl)
  rintro N ⟨k, a⟩ H1 ⟨hkl, eH, ha⟩ hN
  simp only at hkl ha hN
  rw [eH]
  simp only [go_sem, Int.reduceEq, Int.reduceAdd, Int.reduceSub, Int.reduceMul, Nat.reduceLT, Int.reduceLT, Int.reduceLE, Int.reduceToNat, Nat.reduceAdd, Nat.reduceSub, Nat.reduceMul, Nat.reduceLeDiff, reduceCtorEq, d117_0]
  have hadd := wadd1 (k := k) (by omega)
  by_cases hlt : k < L.length
  · have hsn : (L.take (k + 1)).filter (fun x => !K.contains x.node) = (L.take k).filter (fun x => !K.contains x.node) ++ if K.contains L[k].node then [] else [L[k]] := by
      rw [List.take_succ_eq_append_getElem hlt, List.filter_append, List.filter_cons]
      cases K.contains L[k].node <;> rfl
    simp only [go_sem, Int.reduceEq, Int.reduceAdd, Int.reduceSub, Int.reduceMul, Nat.reduceLT, Int.reduceLT, Int.reduceLE, Int.reduceToNat, Nat.reduceAdd, Nat.reduceSub, Nat.reduceMul, Nat.reduceLeDiff, reduceCtorEq, hlt, blk, r0 k hlt]
    refine (rhasR_spec K L[k].node kx h hk).use ?_
    cases hc : K.contains L[k].node
    · rw [hc] at hsn
      simp only [Bool.false_eq_true, if_false] at hsn
      rcases ha with ⟨h0, rfl⟩ | ⟨m, l, A, hA, h1, rfl, h2⟩
      · rw [h0, List.nil_append] at hsn
        simp only [go_sem, Int.reduceEq, Int.reduceAdd, Int.reduceSub, Int.reduceMul, Nat.reduceLT, Int.reduceLT, Int.reduceLE, Int.reduceToNat, Nat.reduceAdd, Nat.reduceSub, Nat.reduceMul, Nat.reduceLeDiff, reduceCtorEq, hadd]
        refine hN (k + 1, (k : Int)) _ _ (by simp only; omega) ?_ ⟨hlt, rfl, .inr ⟨L[k], [], k, hlt, hsn, rfl, rfl⟩⟩
        simp only [go_sem, Int.reduceEq, Int.reduceAdd, Int.reduceSub, Int.reduceMul, Nat.reduceLT, Int.reduceLT, Int.reduceLE, Int.reduceToNat, Nat.reduceAdd, Nat.reduceSub, Nat.reduceMul, Nat.reduceLeDiff, reduceCtorEq, d117_0]
      · rw [h1, List.cons_append] at hsn
        have hneg : ¬ (A : Int) < 0 := by omega
        have hms := maxL_snoc worseE m l L[k]
        rw [← h2] at hms
        simp only [go_sem, Int.reduceEq, Int.reduceAdd, Int.reduceSub, Int.reduceMul, Nat.reduceLT, Int.reduceLT, Int.reduceLE, Int.reduceToNat, Nat.reduceAdd, Nat.reduceSub, Nat.reduceMul, Nat.reduceLeDiff, reduceCtorEq, hneg, hlt, hA, blk, rl k hlt, rt k hlt, rl A hA, rt A hA]
        refine (rworse_spec L[k] L[A] h).use ?_
        cases hw : decide (0 < worseE L[k] L[A])
        · rw [if_neg (of_decide_eq_false hw)] at hms
          simp only [go_sem, Int.reduceEq, Int.reduceAdd, Int.reduceSub, Int.reduceMul, Nat.reduceLT, Int.reduceLT, Int.reduceLE, Int.reduceToNat, Nat.reduceAdd, Nat.reduceSub, Nat.reduceMul, Nat.reduceLeDiff, reduceCtorEq, hadd]
          refine hN (k + 1, (A : Int)) _ _ (by simp only; omega) ?_ ⟨hlt, rfl, .inr ⟨m, l ++ [L[k]], A, hA, hsn, rfl, hms.symm⟩⟩
          simp only [go_sem, Int.reduceEq, Int.reduceAdd, Int.reduceSub, Int.reduceMul, Nat.reduceLT, Int.reduceLT, Int.reduceLE, Int.reduceToNat, Nat.reduceAdd, Nat.reduceSub, Nat.reduceMul, Nat.reduceLeDiff, reduceCtorEq, d117_0]
        · rw [if_pos (of_decide_eq_true hw)] at hms
          simp only [go_sem, Int.reduceEq, Int.reduceAdd, Int.reduceSub, Int.reduceMul, Nat.reduceLT, Int.reduceLT, Int.reduceLE, Int.reduceToNat, Nat.reduceAdd, Nat.reduceSub, Nat.reduceMul, Nat.reduceLeDiff, reduceCtorEq, hadd]
          refine hN (k + 1, (k : Int)) _ _ (by simp only; omega) ?_ ⟨hlt, rfl, .inr ⟨m, l ++ [L[k]], k, hlt, hsn, rfl, hms.symm⟩⟩
          simp only [go_sem, Int.reduceEq, Int.reduceAdd, Int.reduceSub, Int.reduceMul, Nat.reduceLT, Int.reduceLT, Int.reduceLE, Int.reduceToNat, Nat.reduceAdd, Nat.reduceSub, Nat.reduceMul, Nat.reduceLeDiff, reduceCtorEq, d117_0]
    · rw [hc] at hsn
      simp only [if_true, List.append_nil] at hsn
      simp only [go_sem, Int.reduceEq, Int.reduceAdd, Int.reduceSub, Int.reduceMul, Nat.reduceLT, Int.reduceLT, Int.reduceLE, Int.reduceToNat, Nat.reduceAdd, Nat.reduceSub, Nat.reduceMul, Nat.reduceLeDiff, reduceCtorEq, hadd]
      refine hN (k + 1, a) _ _ (by simp only; omega) ?_ ⟨hlt, rfl, by simp only [hsn]; exact ha⟩
      simp only [go_sem, Int.reduceEq, Int.reduceAdd, Int.reduceSub, Int.reduceMul, Nat.reduceLT, Int.reduceLT, Int.reduceLE, Int.reduceToNat, Nat.reduceAdd, Nat.reduceSub, Nat.reduceMul, Nat.reduceLeDiff, reduceCtorEq, d117_0]
  · have hke : k = L.length := by omega
    subst hke
    rw [List.take_length] at ha
    simp only [go_sem, Int.reduceEq, Int.reduceAdd, Int.reduceSub, Int.reduceMul, Nat.reduceLT, Int.reduceLT, Int.reduceLE, Int.reduceToNat, Nat.reduceAdd, Nat.reduceSub, Nat.reduceMul, Nat.reduceLeDiff, reduceCtorEq, hlt]
    refine frz_id ?_
    simp only [go_sem, Int.reduceEq, Int.reduceAdd, Int.reduceSub, Int.reduceMul, Nat.reduceLT, Int.reduceLT, Int.reduceLE, Int.reduceToNat, Nat.reduceAdd, Nat.reduceSub, Nat.reduceMul, Nat.reduceLeDiff, reduceCtorEq]
    refine hQ _ _ _ _ h _ (.inr rfl) rfl (FzH.refl _) (FzL.refl _ _ _) ⟨rfl, ?_⟩
    rcases ha with ⟨h0, rfl⟩ | ⟨m, l, A, hA, h1, rfl, h2⟩
    · exact .inl ⟨h0, rfl⟩
    · exact .inr ⟨m, l, A, hA, h1, rfl, h2⟩


theorem radd_spec {q : Nat} {most : Int} {f : Tb} {K : List Int} {h : AHeap} (ok : tbOk f) (e : En) (hd : h q = some (dT most (allN (adel f e.node)) K)) (hn : f.length ≤ 1000) :
    CallsA Try.prog 116 [.ptr q 0, .agg (encE e)] h (fun r H' => r = .tup [] ∧ H' = upd h q (dT most (allN (aset f e.node e)) K)) := by
  have hal : (allN (adel f e.node)).length = (adel f e.node).length := allN_len _
  have hdl : (adel f e.node).length ≤ f.length := List.length_filter_le _ _
  have hs := allN_sort (tbOk_del ok e.node)
  have hadd := fun i => addD_allN ok e (i := i)
  have hdc := hd
  unfold dT at hdc
  generalize allN (adel f e.node) = L at *
  have q0 : ∀ t : En, (encE t)[0]? = some (.int .i64 t.node) := fun _ => rfl
  have htk : List.take 5 (encE e) = encE e := rfl
  have hd0 : (encE e).head? = some (.int .i64 e.node) := rfl
  (refine CallsA.enterR (ac := c116) (rs := r116) Try.func116 rfl (by decide) c116_ok r116_ok ?_; intro Q hQ; simp only [go_sem, Int.reduceEq, Int.reduceAdd, Int.reduceSub, Int.reduceMul, Nat.reduceLT, Int.reduceLT, Int.reduceLE, Int.reduceToNat, Nat.reduceAdd, Nat.reduceSub, Nat.reduceMul, Nat.reduceLeDiff, reduceCtorEq, c116, Try.ntmps116])
  refine loop_st d116_0 (fun k : Nat => L.length - k) (fun k s => s.set 4 (.int .i64 (k : Int))) (fun k H' => k ≤ L.length ∧ H' = h ∧ ∀ x ∈ L.take k, x.node < e.node) 0 ?_ ⟨Nat.zero_le _, rfl, fun x hx => by simp at hx⟩ ?_
  · (simp only [go_sem, Int.reduceEq, Int.reduceAdd, Int.reduceSub, Int.reduceMul, Nat.reduceLT, Int.reduceLT, Int.reduceLE, Int.reduceToNat, Nat.reduceAdd, Nat.reduceSub, Nat.reduceMul, Nat.reduceLeDiff, reduceCtorEq, d116_0] <;> rfl)
  rintro N k H1 ⟨hk, eH, hall⟩ hN
  rw [eH]
  simp only [go_sem, Int.reduceEq, Int.reduceAdd, Int.reduceSub, Int.reduceMul, Nat.reduceLT, Int.reduceLT, Int.reduceLE, Int.reduceToNat, Nat.reduceAdd, Nat.reduceSub, Nat.reduceMul, Nat.reduceLeDiff, reduceCtorEq, d116_0, hdc]
  have haddk := wadd1 (k := k) (by omega)
  by_cases hgo : ∃ hlt : k < L.length, L[k].node < e.node
  · obtain ⟨hlt, hlt2⟩ := hgo
    have r0 := (rd_first (h := h) encE_len (by omega) hlt).trans (q0 _)
    simp only [go_sem, Int.reduceEq, Int.reduceAdd, Int.reduceSub, Int.reduceMul, Nat.reduceLT, Int.reduceLT, Int.reduceLE, Int.reduceToNat, Nat.reduceAdd, Nat.reduceSub, Nat.reduceMul, Nat.reduceLeDiff, reduceCtorEq, hlt, hdc, r0, hd0, hlt2, haddk]
    refine hN (k + 1) _ _ (by omega) ?_ ⟨hlt, rfl, fun x hx => ?_⟩
    · simp only [go_sem, Int.reduceEq, Int.reduceAdd, Int.reduceSub, Int.reduceMul, Nat.reduceLT, Int.reduceLT, Int.reduceLE, Int.reduceToNat, Nat.reduceAdd, Nat.reduceSub, Nat.reduceMul, Nat.reduceLeDiff, reduceCtorEq, d116_0]
    · rw [List.take_succ_eq_append_getElem hlt] at hx
      rcases List.mem_append.1 hx with hx | hx
      · exact hall x hx
      · simp at hx; rw [hx]; exact hlt2
  · have hdrop : ∀ x ∈ L.drop k, e.node ≤ x.node := fun x hx => by
      by_cases hlt : k < L.length
      · have h1 : ¬ L[k].node < e.node := fun g => hgo ⟨hlt, g⟩
        have hp := List.pairwise_iff_getElem.1 hs
        obtain ⟨j, hj, rfl⟩ := List.mem_iff_getElem.1 hx
        rw [List.length_drop] at hj
        rw [List.getElem_drop]
        rcases Nat.eq_zero_or_pos j with h0 | h0
        · subst h0; simp only [Nat.add_zero]; omega
        · have := hp k (k + j) hlt (by omega) (by omega); omega
      · rw [List.drop_of_length_le (by omega)] at hx; cases hx
    have hres := hadd k hk hall hdrop
    rw [← hres] at hQ
    have s1 := sl_hi (ex := false) (k1 := .i64) encE_len (l := L) (b := k) (by omega)
    have s2 := sl_lo (ex := false) (k1 := .i64) encE_len (l := L) (a := k) (by omega)
    have e1 : [] ++ cat encE (L.take k) = cat encE (L.take k) := List.nil_append _
    rcases (show (∃ hlt : k < L.length, ¬ L[k].node < e.node) ∨ ¬ k < L.length by
        by_cases hlt : k < L.length
        · exact .inl ⟨hlt, fun g => hgo ⟨hlt, g⟩⟩
        · exact .inr hlt) with ⟨hlt, hlt2⟩ | hlt <;> (first | (simp only [go_sem, Int.reduceEq, Int.reduceAdd, Int.reduceSub, Int.reduceMul, Nat.reduceLT, Int.reduceLT, Int.reduceLE, Int.reduceToNat, Nat.reduceAdd, Nat.reduceSub, Nat.reduceMul, Nat.reduceLeDiff, reduceCtorEq, hlt, hdc, (rd_first (h := h) encE_len (by omega) hlt).trans (q0 _), hd0, hlt2]) | (simp only [go_sem, Int.reduceEq, Int.reduceAdd, Int.reduceSub, Int.reduceMul, Nat.reduceLT, Int.reduceLT, Int.reduceLE, Int.reduceToNat, Nat.reduceAdd, Nat.reduceSub, Nat.reduceMul, Nat.reduceLeDiff, reduceCtorEq, hlt])) <;>
    ( refine frz_id ?_
      simp only [go_sem, Int.reduceEq, Int.reduceAdd, Int.reduceSub, Int.reduceMul, Nat.reduceLT, Int.reduceLT, Int.reduceLE, Int.reduceToNat, Nat.reduceAdd, Nat.reduceSub, Nat.reduceMul, Nat.reduceLeDiff, reduceCtorEq, hdc, s1, htk, encE_len]
      refine (Grow.lit (h0 := h) (esz := 5) (cs := []) (n := 0) rfl rfl).addN (b := 40) (m := (L.take k).length) (by rw [cat_len encE_len]) (cat_sca encE_sca _) (by rw [List.length_take]; omega) fun v1 h1' g1 => ?_
      simp only [go_sem, Int.reduceEq, Int.reduceAdd, Int.reduceSub, Int.reduceMul, Nat.reduceLT, Int.reduceLT, Int.reduceLE, Int.reduceToNat, Nat.reduceAdd, Nat.reduceSub, Nat.reduceMul, Nat.reduceLeDiff, reduceCtorEq, g1.keep hdc, htk, encE_len]
      refine g1.addN (b := 40) (m := 1) (ys := encE e) rfl rfl (by rw [List.length_take]; omega) fun v2 h2' g2 => ?_
      simp only [go_sem, Int.reduceEq, Int.reduceAdd, Int.reduceSub, Int.reduceMul, Nat.reduceLT, Int.reduceLT, Int.reduceLE, Int.reduceToNat, Nat.reduceAdd, Nat.reduceSub, Nat.reduceMul, Nat.reduceLeDiff, reduceCtorEq, g2.keep hdc, s2]
      refine g2.addN (b := 40) (m := (L.drop k).length) (by rw [cat_len encE_len]) (cat_sca encE_sca _) (by rw [List.length_take, List.length_drop]; omega) fun v3 h3' g3 => ?_
      have eo : [] ++ cat encE (L.take k) ++ encE e ++ cat encE (L.drop k) = cat encE (L.take k ++ e :: L.drop k) := by rw [cat_append, cat_cons, List.nil_append, List.append_assoc]
      have en : 0 + (L.take k).length + 1 + (L.drop k).length = (L.take k ++ e :: L.drop k).length := by rw [List.length_append, List.length_cons]; omega
      rw [eo, en] at g3
      have hb := g3.box
      simp only [go_sem, Int.reduceEq, Int.reduceAdd, Int.reduceSub, Int.reduceMul, Nat.reduceLT, Int.reduceLT, Int.reduceLE, Int.reduceToNat, Nat.reduceAdd, Nat.reduceSub, Nat.reduceMul, Nat.reduceLeDiff, reduceCtorEq, g3.keep hdc, hb.1, hb.2]
      refine hQ _ _ _ _ (upd h q (dT most (L.take k ++ e :: L.drop k) K)) _ (.inl rfl) rfl (still_dT g3 hd) (FzL.refl _ _ _) ⟨rfl, rfl⟩ )

theorem adel_none {f : Tb} {n : Int} (h : alook f n = none) : adel f n = f := adel_eq (by have := alook_none.1 h; exact this)
theorem sub_upd {h h2 : AHeap} (s : Sub h h2) (q : Nat) (o : AObj) : Sub (upd h q o) (upd h2 q o) := fun x p e => by
  by_cases hx : x = q
  · subst hx; rw [upd_same] at e ⊢; exact e
  · rw [upd_ne hx] at e ⊢; exact s x p e

set_option maxHeartbeats 4000000 in
theorem rput_spec {q : Nat} {most : Int} {f : Tb} {K : List Int} {h : AHeap} (ok : tbOk f) (e : En) (hd : h q = some (dT most (allN f) K)) (hn : f.length ≤ 100) (hK : K.length ≤ 1000000) :
    CallsA Try.prog 61 [.ptr q 0, .agg (encE e)] h (fun r H' => r = .tup [.int .i64 (putN most K f e).2.1, .int .i64 (putN most K f e).2.2] ∧ H' = upd h q (dT most (allN (putN most K f e).1) K)) := by
  have hal : (allN f).length = f.length := allN_len _
  have htk : List.take 5 (encE e) = encE e := rfl
  have hd0 : (encE e).head? = some (.int .i64 e.node) := rfl
  have hdc := hd
  unfold dT at hdc
  (refine CallsA.enterR (ac := c61) (rs := r61) Try.func61 rfl (by decide) c61_ok r61_ok ?_; intro Q hQ; simp only [go_sem, Int.reduceEq, Int.reduceAdd, Int.reduceSub, Int.reduceMul, Nat.reduceLT, Int.reduceLT, Int.reduceLE, Int.reduceToNat, Nat.reduceAdd, Nat.reduceSub, Nat.reduceMul, Nat.reduceLeDiff, reduceCtorEq, c61, Try.ntmps61])
  simp only [go_sem, Int.reduceEq, Int.reduceAdd, Int.reduceSub, Int.reduceMul, Nat.reduceLT, Int.reduceLT, Int.reduceLE, Int.reduceToNat, Nat.reduceAdd, Nat.reduceSub, Nat.reduceMul, Nat.reduceLeDiff, reduceCtorEq, htk, encE_len]
  refine (rright_spec e _).use ?_
  cases g : rightE e
  · have hp : putN most K f e = (f, 0, 1) := by unfold putN; rw [if_pos g]
    rw [hp] at hQ
    simp only [go_sem, Int.reduceEq, Int.reduceAdd, Int.reduceSub, Int.reduceMul, Nat.reduceLT, Int.reduceLT, Int.reduceLE, Int.reduceToNat, Nat.reduceAdd, Nat.reduceSub, Nat.reduceMul, Nat.reduceLeDiff, reduceCtorEq]
    refine hQ _ _ _ _ h _ (.inr rfl) rfl (FzH.refl _) (FzL.refl _ _ _) ⟨rfl, (upd_self hd).symm⟩
  simp only [go_sem, Int.reduceEq, Int.reduceAdd, Int.reduceSub, Int.reduceMul, Nat.reduceLT, Int.reduceLT, Int.reduceLE, Int.reduceToNat, Nat.reduceAdd, Nat.reduceSub, Nat.reduceMul, Nat.reduceLeDiff, reduceCtorEq, hd0]
  refine (rfind_spec hd (by omega) e.node).use ?_
  have room : ∀ (g2 : (alook f e.node).isSome = true ∨ (f.length : Int) < most), putN most K f e = (aset f e.node e, -1, 0) := fun g2 => by
    unfold putN; rw [if_neg (by rw [g]; simp), if_pos g2]
  rcases idx_allN ok e.node with ⟨i1, i2⟩ | ⟨i, hi, i1, i2, i3⟩
  · by_cases g3 : (f.length : Int) < most
    · rw [room (.inr g3)] at hQ
      have g3' : ((allN f).length : Int) < most := by omega
      simp only [go_sem, Int.reduceEq, Int.reduceAdd, Int.reduceSub, Int.reduceMul, Nat.reduceLT, Int.reduceLT, Int.reduceLE, Int.reduceToNat, Nat.reduceAdd, Nat.reduceSub, Nat.reduceMul, Nat.reduceLeDiff, reduceCtorEq, i2, hdc, g3', hd0]
      refine (rdrop_spec ok hd (by omega) e.node).use ?_
      rintro _ H1 ⟨rfl, rfl⟩
      simp only [go_sem, Int.reduceEq, Int.reduceAdd, Int.reduceSub, Int.reduceMul, Nat.reduceLT, Int.reduceLT, Int.reduceLE, Int.reduceToNat, Nat.reduceAdd, Nat.reduceSub, Nat.reduceMul, Nat.reduceLeDiff, reduceCtorEq, htk, encE_len]
      refine (radd_spec ok e upd_same (by omega)).use ?_
      rintro _ H2 ⟨rfl, rfl⟩
      simp only [go_sem, Int.reduceEq, Int.reduceAdd, Int.reduceSub, Int.reduceMul, Nat.reduceLT, Int.reduceLT, Int.reduceLE, Int.reduceToNat, Nat.reduceAdd, Nat.reduceSub, Nat.reduceMul, Nat.reduceLeDiff, reduceCtorEq, upd_upd]
      refine hQ _ _ _ _ _ _ (.inr rfl) rfl (FzH.refl _) (FzL.refl _ _ _) ⟨rfl, rfl⟩
    · have hP : putN most K f e = match (allN f ++ [e]).filter (fun x => !K.contains x.node) with
          | [] => (f, 0, 7)
          | m :: l => if (maxL worseE m l).node = e.node then (f, 0, 7) else (aset (adel f (maxL worseE m l).node) e.node e, (maxL worseE m l).node, 0) := by
        unfold putN; rw [if_neg (by rw [g]; simp), if_neg (by rw [i1]; simp; omega)]; rfl
      have g3' : ¬ ((allN f).length : Int) < most := by omega
      have hne : ∀ x ∈ allN f, x.node ≠ e.node := fun x hx he => by
        have := vals_look ok (mem_allN.1 hx)
        rw [he, i1] at this; cases this
      simp only [go_sem, Int.reduceEq, Int.reduceAdd, Int.reduceSub, Int.reduceMul, Nat.reduceLT, Int.reduceLT, Int.reduceLE, Int.reduceToNat, Nat.reduceAdd, Nat.reduceSub, Nat.reduceMul, Nat.reduceLeDiff, reduceCtorEq, i2, hdc, g3', htk, encE_len]
      refine (Grow.lit (h0 := h) (esz := 5) (cs := []) (n := 0) rfl rfl).addN (b := 40) (m := (allN f).length) (by rw [cat_len encE_len]) (cat_sca encE_sca _) (by omega) fun v1 h1' g1 => ?_
      simp only [go_sem, Int.reduceEq, Int.reduceAdd, Int.reduceSub, Int.reduceMul, Nat.reduceLT, Int.reduceLT, Int.reduceLE, Int.reduceToNat, Nat.reduceAdd, Nat.reduceSub, Nat.reduceMul, Nat.reduceLeDiff, reduceCtorEq, g1.keep hdc, htk, encE_len]
      refine g1.add1W (b := 40) (x := encE e) rfl rfl (by omega) fun v2 h2' g2 w2 => ?_
      have eo : [] ++ cat encE (allN f) ++ encE e = cat encE (allN f ++ [e]) := by rw [cat_append]; simp [cat]
      have en : 0 + (allN f).length + 1 = (allN f ++ [e]).length := by simp
      rw [eo, en] at g2
      rcases g2.how with ⟨_, e0, _⟩ | ⟨e0, _⟩ | ⟨id, cap, junk, tot, eu, hcap, hT, hid, e4⟩
      · simp at e0
      · exact absurd e0 (w2 _ _ _)
      subst eu
      have blk : h2' id = some (.cells (cat encE (allN f ++ [e]) ++ junk) tot) := by rw [e4]; exact upd_same
      have hd2 := g2.keep hd
      have hdc2 := g2.keep hdc
      have sub2 := g2.sub
      have hlL : (allN f ++ [e]).length = (allN f).length + 1 := by simp
      have getl : ∀ (A : Nat) (hA : A < (allN f ++ [e]).length) (h' : A < (allN f).length), (allN f ++ [e])[A] = (allN f)[A] := fun A hA h' => List.getElem_append_left h'
      simp only [go_sem, Int.reduceEq, Int.reduceAdd, Int.reduceSub, Int.reduceMul, Nat.reduceLT, Int.reduceLT, Int.reduceLE, Int.reduceToNat, Nat.reduceAdd, Nat.reduceSub, Nat.reduceMul, Nat.reduceLeDiff, reduceCtorEq, hdc2]
      refine (rworst_own (allN f ++ [e]) K false h2' blk (by omega) hK).use ?_
      rintro _ _ ⟨eH, ⟨h0, rfl⟩ | ⟨m, l, A, hA, h1, rfl, h2⟩⟩
      · rw [h0] at hP
        simp only at hP
        rw [hP] at hQ
        rw [eH]
        simp only [go_sem, Int.reduceEq, Int.reduceAdd, Int.reduceSub, Int.reduceMul, Nat.reduceLT, Int.reduceLT, Int.reduceLE, Int.reduceToNat, Nat.reduceAdd, Nat.reduceSub, Nat.reduceMul, Nat.reduceLeDiff, reduceCtorEq]
        refine hQ _ _ _ _ h _ (.inr rfl) rfl (FzH.sub sub2) (FzL.refl _ _ _) ⟨rfl, (upd_self hd).symm⟩
      · rw [h1] at hP
        simp only at hP
        rw [← h2] at hP
        rw [eH]
        have hneg : ¬ (A : Int) < 0 := by omega
        by_cases hAl : A = (allN f).length
        · have hAe : (allN f ++ [e])[A] = e := by simp [hAl]
          rw [hAe, if_pos rfl] at hP
          rw [hP] at hQ
          have hAl' : decide ((A : Int) = ((allN f).length : Int)) = true := decide_eq_true (by omega)
          have hAl2 : decide (A = (allN f).length) = true := decide_eq_true hAl
          simp only [go_sem, Int.reduceEq, Int.reduceAdd, Int.reduceSub, Int.reduceMul, Nat.reduceLT, Int.reduceLT, Int.reduceLE, Int.reduceToNat, Nat.reduceAdd, Nat.reduceSub, Nat.reduceMul, Nat.reduceLeDiff, reduceCtorEq, hneg, hdc2, hAl', hAl2]
          refine hQ _ _ _ _ h _ (.inr rfl) rfl (FzH.sub sub2) (FzL.refl _ _ _) ⟨rfl, (upd_self hd).symm⟩
        · have hA2 : A < (allN f).length := by omega
          have hAe := getl A hA hA2
          have hnode : (allN f)[A].node ≠ e.node := hne _ (List.getElem_mem hA2)
          rw [hAe, if_neg hnode] at hP
          rw [hP] at hQ
          have hAl' : decide ((A : Int) = ((allN f).length : Int)) = false := decide_eq_false (by omega)
          have hAl2 : decide (A = (allN f).length) = false := decide_eq_false hAl
          have r0 := own_c0 (junk := junk) hA
          rw [hAe] at r0
          simp only [go_sem, Int.reduceEq, Int.reduceAdd, Int.reduceSub, Int.reduceMul, Nat.reduceLT, Int.reduceLT, Int.reduceLE, Int.reduceToNat, Nat.reduceAdd, Nat.reduceSub, Nat.reduceMul, Nat.reduceLeDiff, reduceCtorEq, hneg, hdc2, hAl', hAl2, hA, blk, r0]
          refine (rdrop_spec ok hd2 (by omega) (allN f)[A].node).use ?_
          rintro _ H1 ⟨rfl, rfl⟩
          simp only [go_sem, Int.reduceEq, Int.reduceAdd, Int.reduceSub, Int.reduceMul, Nat.reduceLT, Int.reduceLT, Int.reduceLE, Int.reduceToNat, Nat.reduceAdd, Nat.reduceSub, Nat.reduceMul, Nat.reduceLeDiff, reduceCtorEq, htk, encE_len]
          have hno : alook (adel f (allN f)[A].node) e.node = none := by
            rw [alook_none, List.any_eq_false]
            intro p hp
            have h5 := List.any_eq_false.1 (alook_none.1 i1) p (List.mem_filter.1 (show p ∈ List.filter _ f from hp)).1
            exact h5
          have hdl : (adel f (allN f)[A].node).length ≤ f.length := List.length_filter_le _ _
          refine (radd_spec (tbOk_del ok (allN f)[A].node) e (by rw [adel_none hno]; exact upd_same) (by omega)).use ?_
          rintro _ H2 ⟨rfl, rfl⟩
          simp only [go_sem, Int.reduceEq, Int.reduceAdd, Int.reduceSub, Int.reduceMul, Nat.reduceLT, Int.reduceLT, Int.reduceLE, Int.reduceToNat, Nat.reduceAdd, Nat.reduceSub, Nat.reduceMul, Nat.reduceLeDiff, reduceCtorEq, upd_upd]
          refine hQ _ _ _ _ _ _ (.inr rfl) rfl (FzH.sub (sub_upd sub2 q _)) (FzL.refl _ _ _) ⟨rfl, rfl⟩
  · rw [room (.inl (by rw [i2]; rfl))] at hQ
    have hi0 : (0 : Int) ≤ (i : Int) := by omega
    simp only [go_sem, Int.reduceEq, Int.reduceAdd, Int.reduceSub, Int.reduceMul, Nat.reduceLT, Int.reduceLT, Int.reduceLE, Int.reduceToNat, Nat.reduceAdd, Nat.reduceSub, Nat.reduceMul, Nat.reduceLeDiff, reduceCtorEq, i3, hi0, hd0]
    refine (rdrop_spec ok hd (by omega) e.node).use ?_
    rintro _ H1 ⟨rfl, rfl⟩
    simp only [go_sem, Int.reduceEq, Int.reduceAdd, Int.reduceSub, Int.reduceMul, Nat.reduceLT, Int.reduceLT, Int.reduceLE, Int.reduceToNat, Nat.reduceAdd, Nat.reduceSub, Nat.reduceMul, Nat.reduceLeDiff, reduceCtorEq, htk, encE_len]
    refine (radd_spec ok e upd_same (by omega)).use ?_
    rintro _ H2 ⟨rfl, rfl⟩
    simp only [go_sem, Int.reduceEq, Int.reduceAdd, Int.reduceSub, Int.reduceMul, Nat.reduceLT, Int.reduceLT, Int.reduceLE, Int.reduceToNat, Nat.reduceAdd, Nat.reduceSub, Nat.reduceMul, Nat.reduceLeDiff, reduceCtorEq, upd_upd]
    refine hQ _ _ _ _ _ _ (.inr rfl) rfl (FzH.refl _) (FzL.refl _ _ _) ⟨rfl, rfl⟩

end Go.Proofs.Ytaeppifdbcoipaa
