/-
  Neighbours: what a table tells; NeighborPlays.
-/
import Derived.Test.YtaeppifdbcoipaaNm
namespace Go.Proofs.Ytaeppifdbcoipaa
open Go E
set_option linter.unusedVariables false
set_option linter.unusedSimpArgs false
set_option maxRecDepth 100000

theorem filt_at {p : En → Bool} {L : List En} {i : Nat} (hi : i < L.length) (h : p L[i] = true) : ∃ hk : ((L.take i).filter p).length < (L.filter p).length, (L.filter p)[((L.take i).filter p).length] = L[i] := by
  have e : L.filter p = (L.take i).filter p ++ L[i] :: (L.drop (i + 1)).filter p := by
    conv => lhs; rw [← List.take_append_drop i L, List.filter_append, List.drop_eq_getElem_cons hi, List.filter_cons, if_pos h]
  have hl : ((L.take i).filter p).length < (L.filter p).length := by rw [e]; simp
  refine ⟨hl, ?_⟩
  have := congrArg (fun l => l[((L.take i).filter p).length]?) e
  simp only [List.getElem?_eq_getElem hl] at this
  rw [List.getElem?_append_right (Nat.le_refl _), Nat.sub_self] at this
  simpa using this

def stP (now age : Int) (e : En) : Bool := decide (age < IntKind.i64.wrap (now - e.heard))

set_option maxHeartbeats 8000000 in
theorem tells_spec {t id q : Nat} {most : Int} {kept K : List Int} {f : Tb} {h : AHeap} (tb : TbIn t id most kept f h) (hd : h q = some (dT most (allN f) K)) (hn : f.length ≤ 12) (node now age : Int) :
    PureA Try.prog 67 [.ptr t 0, .ptr q 0, .int .i64 node, .int .i64 now, .int .i64 age] h (.bool true) := by
  have hal : (allN f).length = f.length := allN_len f
  have hdc := hd
  unfold dT at hdc
  have eqs_same : ∀ x : En, eqCells [.i, .i, .i, .i, .i] (encE x) (encE x) = some true := fun x => by simp [eqCells, eqCell, encE]
  have htk : ∀ x : En, List.take 5 (encE x) = encE x := fun _ => rfl
  (refine PureA.enter (ac := c67) (rs := r67) Try.func67 rfl (by decide) c67_ok r67_ok ?_; intro Q hQ; simp only [go_sem, Int.reduceEq, Int.reduceAdd, Int.reduceSub, Int.reduceMul, Nat.reduceLT, Int.reduceLT, Int.reduceLE, Int.reduceToNat, Nat.reduceAdd, Nat.reduceSub, Nat.reduceMul, Nat.reduceLeDiff, reduceCtorEq, c67, Try.ntmps67])
  refine (nall_spec tb hn).use ?_
  rintro r H1 ⟨gr, hw⟩
  have tb1 := tb.sub gr.sub
  have hdc1 := gr.keep hdc
  have hst : staleN f now age = if now < 0 ∨ age < 0 then [] else ((allN f).filter (stP now age)).map (·.node) := rfl
  rw [← hal] at gr
  have hlen := gr.len
  have dl : decide (((allN f).length : Int) = ((allN f).length : Int)) = true := decide_eq_true rfl
  have df : decide ((f.length : Int) = ((allN f).length : Int)) = true := decide_eq_true (by omega)
  have df2 : decide (f.length = (allN f).length) = true := decide_eq_true (by omega)
  simp only [go_sem, Int.reduceEq, Int.reduceAdd, Int.reduceSub, Int.reduceMul, Nat.reduceLT, Int.reduceLT, Int.reduceLE, Int.reduceToNat, Nat.reduceAdd, Nat.reduceSub, Nat.reduceMul, Nat.reduceLeDiff, reduceCtorEq, hlen, hdc1]
  refine (nlen_spec tb1).use ?_
  simp only [go_sem, Int.reduceEq, Int.reduceAdd, Int.reduceSub, Int.reduceMul, Nat.reduceLT, Int.reduceLT, Int.reduceLE, Int.reduceToNat, Nat.reduceAdd, Nat.reduceSub, Nat.reduceMul, Nat.reduceLeDiff, reduceCtorEq, hdc1, df, df2]
  refine (nstale_spec tb1 hn now age).use ?_
  rintro _ _ ⟨eH, rfl⟩
  rw [eH]
  have hge := rfind_spec hd (by omega) node
  have hix := idx_allN tb.ok node
  have hgt := nget_spec tb node
  have hwo := nworst_spec tb hn [node, now] true (by simp)
  have hrw := rworst_ro (allN f) [node, now] true h false (by omega) (by simp)
  have hwN : worstN f [node, now] = match (allN f).filter (fun x => ![node, now].contains x.node) with | [] => none | m :: l => some (maxL worseE m l) := rfl
  generalize hS : staleN f now age = S at *
  generalize allN f = L at *
  simp only [go_sem, Int.reduceEq, Int.reduceAdd, Int.reduceSub, Int.reduceMul, Nat.reduceLT, Int.reduceLT, Int.reduceLE, Int.reduceToNat, Nat.reduceAdd, Nat.reduceSub, Nat.reduceMul, Nat.reduceLeDiff, reduceCtorEq]
  refine loop_zz d67_0 [(11, .ro (cat encE L) L.length false)] (fun y : Nat × Nat => L.length - y.1) (fun y s => (s.set 14 (.int .i64 (y.1 : Int))).set 12 (.int .i64 (y.2 : Int))) (fun y H' => y.1 ≤ L.length ∧ H' = h ∧ y.2 = (if now < 0 ∨ age < 0 then 0 else ((L.take y.1).filter (stP now age)).length)) (0, 0) h gr.fzH ?_ ⟨Nat.zero_le _, rfl, by simp⟩ ?_
  · simp only [go_sem, Int.reduceEq, Int.reduceAdd, Int.reduceSub, Int.reduceMul, Nat.reduceLT, Int.reduceLT, Int.reduceLE, Int.reduceToNat, Nat.reduceAdd, Nat.reduceSub, Nat.reduceMul, Nat.reduceLeDiff, reduceCtorEq, d67_0]
    repeat' (first | exact FzL.nil | exact gr.fz | exact Fz.refl _ | refine FzL.cons ?_ ?_)
  rintro N ⟨k, n⟩ H2 ⟨hk, eH2, hcn⟩ hN
  simp only at hk hcn hN
  rw [eH2]
  simp only [go_sem, Int.reduceEq, Int.reduceAdd, Int.reduceSub, Int.reduceMul, Nat.reduceLT, Int.reduceLT, Int.reduceLE, Int.reduceToNat, Nat.reduceAdd, Nat.reduceSub, Nat.reduceMul, Nat.reduceLeDiff, reduceCtorEq, d67_0]
  have hadd := wadd1 (k := k) (by omega)
  by_cases hlt : k < L.length
  · have ra : ∀ h', aloads h' 5 (.rp ((cat encE L).drop (k * 5))) = some (encE L[k]) := fun h' => rd_all (h := h') encE_len hlt
    have ra2 := ra h
    have q0 : ∀ t : En, (encE t)[0]? = some (.int .i64 t.node) := fun _ => rfl
    have q4 : ∀ t : En, (encE t)[4]? = some (.int .i64 t.heard) := fun _ => rfl
    have r0 := (rd_first (h := h) encE_len (by omega) hlt).trans (q0 _)
    have r4 := (rd_cell (h := h) (off := 4) encE_len hlt (by omega)).trans (q4 _)
    simp only [go_sem, Int.reduceEq, Int.reduceAdd, Int.reduceSub, Int.reduceMul, Nat.reduceLT, Int.reduceLT, Int.reduceLE, Int.reduceToNat, Nat.reduceAdd, Nat.reduceSub, Nat.reduceMul, Nat.reduceLeDiff, reduceCtorEq, hlt, ra, hdc]
    refine (of14_spec L[k] h).use ?_
    have sn : (L.take (k + 1)).filter (stP now age) = (L.take k).filter (stP now age) ++ if stP now age L[k] then [L[k]] else [] := by
      rw [List.take_succ_eq_append_getElem hlt, List.filter_append, List.filter_cons]
      cases stP now age L[k] <;> rfl
    by_cases g1 : now < 0
    · rw [if_pos (.inl g1)] at hcn
      simp only [go_sem, Int.reduceEq, Int.reduceAdd, Int.reduceSub, Int.reduceMul, Nat.reduceLT, Int.reduceLT, Int.reduceLE, Int.reduceToNat, Nat.reduceAdd, Nat.reduceSub, Nat.reduceMul, Nat.reduceLeDiff, reduceCtorEq, hdc, hlt, ra, eqs_same, g1, hadd]
      refine hN (k + 1, n) _ _ (by simp only; omega) ?_ ⟨hlt, rfl, by rw [if_pos (.inl g1)]; exact hcn⟩
      simp only [go_sem, Int.reduceEq, Int.reduceAdd, Int.reduceSub, Int.reduceMul, Nat.reduceLT, Int.reduceLT, Int.reduceLE, Int.reduceToNat, Nat.reduceAdd, Nat.reduceSub, Nat.reduceMul, Nat.reduceLeDiff, reduceCtorEq, d67_0]
    by_cases g2 : age < 0
    · rw [if_pos (.inr g2)] at hcn
      simp only [go_sem, Int.reduceEq, Int.reduceAdd, Int.reduceSub, Int.reduceMul, Nat.reduceLT, Int.reduceLT, Int.reduceLE, Int.reduceToNat, Nat.reduceAdd, Nat.reduceSub, Nat.reduceMul, Nat.reduceLeDiff, reduceCtorEq, hdc, hlt, ra, eqs_same, g1, g2, hadd]
      refine hN (k + 1, n) _ _ (by simp only; omega) ?_ ⟨hlt, rfl, by rw [if_pos (.inr g2)]; exact hcn⟩
      simp only [go_sem, Int.reduceEq, Int.reduceAdd, Int.reduceSub, Int.reduceMul, Nat.reduceLT, Int.reduceLT, Int.reduceLE, Int.reduceToNat, Nat.reduceAdd, Nat.reduceSub, Nat.reduceMul, Nat.reduceLeDiff, reduceCtorEq, d67_0]
    have gg : ¬ (now < 0 ∨ age < 0) := by omega
    rw [if_neg gg] at hcn hst
    by_cases g3 : age < IntKind.i64.wrap (now - L[k].heard)
    · have g3' : ¬ IntKind.i64.wrap (now - L[k].heard) ≤ age := by omega
      have g3b : stP now age L[k] = true := decide_eq_true g3
      obtain ⟨f1, f2⟩ := filt_at (p := stP now age) hlt g3b
      rw [g3b, if_pos rfl] at sn
      have hnS : n < S.length := by rw [hst, List.length_map, hcn]; exact f1
      have hSn : S[n] = L[k].node := by
        subst hst
        rw [List.getElem_map]
        simp only [hcn, f2]
      have rS := rdI (h := h) hnS
      rw [hSn] at rS
      have hnS2 : ¬ S.length ≤ n := by omega
      have hadn := wadd1 (k := n) (by
        have : n ≤ L.length := by rw [hcn]; exact Nat.le_trans (List.length_filter_le _ _) (by rw [List.length_take]; omega)
        omega)
      simp only [go_sem, Int.reduceEq, Int.reduceAdd, Int.reduceSub, Int.reduceMul, Nat.reduceLT, Int.reduceLT, Int.reduceLE, Int.reduceToNat, Nat.reduceAdd, Nat.reduceSub, Nat.reduceMul, Nat.reduceLeDiff, reduceCtorEq, hdc, hlt, ra, eqs_same, g1, g2, r0, r4, g3', hnS, hnS2, rS, hadd, hadn]
      refine hN (k + 1, n + 1) _ _ (by simp only; omega) ?_ ⟨hlt, rfl, by rw [if_neg gg, sn, List.length_append, hcn]; rfl⟩
      simp only [go_sem, Int.reduceEq, Int.reduceAdd, Int.reduceSub, Int.reduceMul, Nat.reduceLT, Int.reduceLT, Int.reduceLE, Int.reduceToNat, Nat.reduceAdd, Nat.reduceSub, Nat.reduceMul, Nat.reduceLeDiff, reduceCtorEq, d67_0]
    · have g3' : IntKind.i64.wrap (now - L[k].heard) ≤ age := by omega
      have g3b : stP now age L[k] = false := decide_eq_false g3
      rw [g3b, if_neg (by simp), List.append_nil] at sn
      simp only [go_sem, Int.reduceEq, Int.reduceAdd, Int.reduceSub, Int.reduceMul, Nat.reduceLT, Int.reduceLT, Int.reduceLE, Int.reduceToNat, Nat.reduceAdd, Nat.reduceSub, Nat.reduceMul, Nat.reduceLeDiff, reduceCtorEq, hdc, hlt, ra, eqs_same, g1, g2, r0, r4, g3', hadd]
      refine hN (k + 1, n) _ _ (by simp only; omega) ?_ ⟨hlt, rfl, by rw [if_neg gg, sn]; exact hcn⟩
      simp only [go_sem, Int.reduceEq, Int.reduceAdd, Int.reduceSub, Int.reduceMul, Nat.reduceLT, Int.reduceLT, Int.reduceLE, Int.reduceToNat, Nat.reduceAdd, Nat.reduceSub, Nat.reduceMul, Nat.reduceLeDiff, reduceCtorEq, d67_0]
  · have hkl : k = L.length := by omega
    subst hkl
    rw [List.take_length] at hcn
    have hnS : n = S.length := by
      rw [hcn, hst]
      split <;> simp
    subst hnS
    have hlS : decide ((S.length : Int) = (S.length : Int)) = true := decide_eq_true rfl
    simp only [go_sem, Int.reduceEq, Int.reduceAdd, Int.reduceSub, Int.reduceMul, Nat.reduceLT, Int.reduceLT, Int.reduceLE, Int.reduceToNat, Nat.reduceAdd, Nat.reduceSub, Nat.reduceMul, Nat.reduceLeDiff, reduceCtorEq, hlt]
    refine frz_id ?_
    simp only [go_sem, Int.reduceEq, Int.reduceAdd, Int.reduceSub, Int.reduceMul, Nat.reduceLT, Int.reduceLT, Int.reduceLE, Int.reduceToNat, Nat.reduceAdd, Nat.reduceSub, Nat.reduceMul, Nat.reduceLeDiff, reduceCtorEq]
    rcases hix with ⟨i1, i2⟩ | ⟨A, hA, i1, i2, i3⟩
    · rw [i1] at hgt
      rw [i2] at hge
      refine hgt.use ?_
      simp only [go_sem, Int.reduceEq, Int.reduceAdd, Int.reduceSub, Int.reduceMul, Nat.reduceLT, Int.reduceLT, Int.reduceLE, Int.reduceToNat, Nat.reduceAdd, Nat.reduceSub, Nat.reduceMul, Nat.reduceLeDiff, reduceCtorEq, encE_len, encE_sca]
      intro p hp
      simp only [go_sem, Int.reduceEq, Int.reduceAdd, Int.reduceSub, Int.reduceMul, Nat.reduceLT, Int.reduceLT, Int.reduceLE, Int.reduceToNat, Nat.reduceAdd, Nat.reduceSub, Nat.reduceMul, Nat.reduceLeDiff, reduceCtorEq, del_same, del_none hp]
      refine hge.use ?_
      simp only [go_sem, Int.reduceEq, Int.reduceAdd, Int.reduceSub, Int.reduceMul, Nat.reduceLT, Int.reduceLT, Int.reduceLE, Int.reduceToNat, Nat.reduceAdd, Nat.reduceSub, Nat.reduceMul, Nat.reduceLeDiff, reduceCtorEq]
      refine PureA.use (show PureA Try.prog 123 [.ptr t 0, .ro [.int .i64 node, .int .i64 now] 2 true] h _ from hwo) ?_
      simp only [go_sem, Int.reduceEq, Int.reduceAdd, Int.reduceSub, Int.reduceMul, Nat.reduceLT, Int.reduceLT, Int.reduceLE, Int.reduceToNat, Nat.reduceAdd, Nat.reduceSub, Nat.reduceMul, Nat.reduceLeDiff, reduceCtorEq, encE_len, encE_sca]
      intro p2 hp2
      simp only [go_sem, Int.reduceEq, Int.reduceAdd, Int.reduceSub, Int.reduceMul, Nat.reduceLT, Int.reduceLT, Int.reduceLE, Int.reduceToNat, Nat.reduceAdd, Nat.reduceSub, Nat.reduceMul, Nat.reduceLeDiff, reduceCtorEq, del_same, del_none hp2, hdc]
      refine CallsA.use (show CallsA Try.prog 117 [.ro (cat encE L) L.length false, .ro [.int .i64 node, .int .i64 now] 2 true] h _ from hrw) ?_
      rintro _ _ ⟨eH, ⟨w0, rfl⟩ | ⟨m, l, B, hB, w1, rfl, w2⟩⟩
      · rw [eH]
        rw [w0] at hwN
        simp only at hwN
        simp only [go_sem, Int.reduceEq, Int.reduceAdd, Int.reduceSub, Int.reduceMul, Nat.reduceLT, Int.reduceLT, Int.reduceLE, Int.reduceToNat, Nat.reduceAdd, Nat.reduceSub, Nat.reduceMul, Nat.reduceLeDiff, reduceCtorEq, hlS, hwN, Option.isSome_none, Bool.false_eq_true, if_false]
        (refine hQ _ _ _ _ _ (by first | exact .inr rfl | exact .inl rfl) rfl (by first | exact FzH.refl _ | exact FzH.sub (by (repeat' (first | exact Sub.refl _ | assumption | (refine Sub.upd ?_ (by first | assumption | (simp only [*]; done) | exact Sub.isNone (by assumption) (by assumption) | exact Sub.isNone (by assumption) (by simp only [*]))))))) (FzL.refl _ _ _) ?_; try (simp only [go_sem, Int.reduceEq, Int.reduceAdd, Int.reduceSub, Int.reduceMul, Nat.reduceLT, Int.reduceLT, Int.reduceLE, Int.reduceToNat, Nat.reduceAdd, Nat.reduceSub, Nat.reduceMul, Nat.reduceLeDiff, reduceCtorEq]))
      · rw [eH]
        rw [w1] at hwN
        simp only at hwN
        rw [← w2] at hwN
        have rB : ∀ h', aloads h' 5 (.rp ((cat encE L).drop (B * 5))) = some (encE L[B]) := fun h' => rd_all (h := h') encE_len hB
        have hB0 : ¬ (B : Int) < 0 := by omega
        have hB1 : (0 : Int) ≤ (B : Int) := by omega
        simp only [go_sem, Int.reduceEq, Int.reduceAdd, Int.reduceSub, Int.reduceMul, Nat.reduceLT, Int.reduceLT, Int.reduceLE, Int.reduceToNat, Nat.reduceAdd, Nat.reduceSub, Nat.reduceMul, Nat.reduceLeDiff, reduceCtorEq, hlS, hwN, Option.isSome_none, Bool.false_eq_true, if_false, Option.isSome_some, if_true, Option.getD_some, hB0, hB1, hB, hdc, rB, encE_len, htk]
        refine (of14_spec L[B] h).use ?_
        simp only [go_sem, Int.reduceEq, Int.reduceAdd, Int.reduceSub, Int.reduceMul, Nat.reduceLT, Int.reduceLT, Int.reduceLE, Int.reduceToNat, Nat.reduceAdd, Nat.reduceSub, Nat.reduceMul, Nat.reduceLeDiff, reduceCtorEq, hdc, hB, rB, rB h, eqs_same]
        (refine hQ _ _ _ _ _ (by first | exact .inr rfl | exact .inl rfl) rfl (by first | exact FzH.refl _ | exact FzH.sub (by (repeat' (first | exact Sub.refl _ | assumption | (refine Sub.upd ?_ (by first | assumption | (simp only [*]; done) | exact Sub.isNone (by assumption) (by assumption) | exact Sub.isNone (by assumption) (by simp only [*]))))))) (FzL.refl _ _ _) ?_; try (simp only [go_sem, Int.reduceEq, Int.reduceAdd, Int.reduceSub, Int.reduceMul, Nat.reduceLT, Int.reduceLT, Int.reduceLE, Int.reduceToNat, Nat.reduceAdd, Nat.reduceSub, Nat.reduceMul, Nat.reduceLeDiff, reduceCtorEq]))
    · rw [i2] at hgt
      rw [i3] at hge
      have rA : ∀ h', aloads h' 5 (.rp ((cat encE L).drop (A * 5))) = some (encE L[A]) := fun h' => rd_all (h := h') encE_len hA
      have hA0 : ¬ (A : Int) < 0 := by omega
      have hA1 : (0 : Int) ≤ (A : Int) := by omega
      refine hgt.use ?_
      simp only [go_sem, Int.reduceEq, Int.reduceAdd, Int.reduceSub, Int.reduceMul, Nat.reduceLT, Int.reduceLT, Int.reduceLE, Int.reduceToNat, Nat.reduceAdd, Nat.reduceSub, Nat.reduceMul, Nat.reduceLeDiff, reduceCtorEq, encE_len, encE_sca, Option.isSome_some, if_true]
      intro p hp
      simp only [go_sem, Int.reduceEq, Int.reduceAdd, Int.reduceSub, Int.reduceMul, Nat.reduceLT, Int.reduceLT, Int.reduceLE, Int.reduceToNat, Nat.reduceAdd, Nat.reduceSub, Nat.reduceMul, Nat.reduceLeDiff, reduceCtorEq, del_same, del_none hp]
      refine hge.use ?_
      simp only [go_sem, Int.reduceEq, Int.reduceAdd, Int.reduceSub, Int.reduceMul, Nat.reduceLT, Int.reduceLT, Int.reduceLE, Int.reduceToNat, Nat.reduceAdd, Nat.reduceSub, Nat.reduceMul, Nat.reduceLeDiff, reduceCtorEq]
      refine PureA.use (show PureA Try.prog 123 [.ptr t 0, .ro [.int .i64 node, .int .i64 now] 2 true] h _ from hwo) ?_
      simp only [go_sem, Int.reduceEq, Int.reduceAdd, Int.reduceSub, Int.reduceMul, Nat.reduceLT, Int.reduceLT, Int.reduceLE, Int.reduceToNat, Nat.reduceAdd, Nat.reduceSub, Nat.reduceMul, Nat.reduceLeDiff, reduceCtorEq, encE_len, encE_sca]
      intro p2 hp2
      simp only [go_sem, Int.reduceEq, Int.reduceAdd, Int.reduceSub, Int.reduceMul, Nat.reduceLT, Int.reduceLT, Int.reduceLE, Int.reduceToNat, Nat.reduceAdd, Nat.reduceSub, Nat.reduceMul, Nat.reduceLeDiff, reduceCtorEq, del_same, del_none hp2, hdc]
      refine CallsA.use (show CallsA Try.prog 117 [.ro (cat encE L) L.length false, .ro [.int .i64 node, .int .i64 now] 2 true] h _ from hrw) ?_
      rintro _ _ ⟨eH, ⟨w0, rfl⟩ | ⟨m, l, B, hB, w1, rfl, w2⟩⟩
      · rw [eH]
        rw [w0] at hwN
        simp only at hwN
        simp only [go_sem, Int.reduceEq, Int.reduceAdd, Int.reduceSub, Int.reduceMul, Nat.reduceLT, Int.reduceLT, Int.reduceLE, Int.reduceToNat, Nat.reduceAdd, Nat.reduceSub, Nat.reduceMul, Nat.reduceLeDiff, reduceCtorEq, hlS, hwN, Option.isSome_some, if_true, Option.isSome_none, Bool.false_eq_true, if_false, hA0, hA1, hA, hdc, rA, encE_len, htk]
        refine (of14_spec L[A] h).use ?_
        simp only [go_sem, Int.reduceEq, Int.reduceAdd, Int.reduceSub, Int.reduceMul, Nat.reduceLT, Int.reduceLT, Int.reduceLE, Int.reduceToNat, Nat.reduceAdd, Nat.reduceSub, Nat.reduceMul, Nat.reduceLeDiff, reduceCtorEq, hdc, hA, rA, rA h, eqs_same]
        (refine hQ _ _ _ _ _ (by first | exact .inr rfl | exact .inl rfl) rfl (by first | exact FzH.refl _ | exact FzH.sub (by (repeat' (first | exact Sub.refl _ | assumption | (refine Sub.upd ?_ (by first | assumption | (simp only [*]; done) | exact Sub.isNone (by assumption) (by assumption) | exact Sub.isNone (by assumption) (by simp only [*]))))))) (FzL.refl _ _ _) ?_; try (simp only [go_sem, Int.reduceEq, Int.reduceAdd, Int.reduceSub, Int.reduceMul, Nat.reduceLT, Int.reduceLT, Int.reduceLE, Int.reduceToNat, Nat.reduceAdd, Nat.reduceSub, Nat.reduceMul, Nat.reduceLeDiff, reduceCtorEq]))
      · rw [eH]
        rw [w1] at hwN
        simp only at hwN
        rw [← w2] at hwN
        have rB : ∀ h', aloads h' 5 (.rp ((cat encE L).drop (B * 5))) = some (encE L[B]) := fun h' => rd_all (h := h') encE_len hB
        have hB0 : ¬ (B : Int) < 0 := by omega
        have hB1 : (0 : Int) ≤ (B : Int) := by omega
        simp only [go_sem, Int.reduceEq, Int.reduceAdd, Int.reduceSub, Int.reduceMul, Nat.reduceLT, Int.reduceLT, Int.reduceLE, Int.reduceToNat, Nat.reduceAdd, Nat.reduceSub, Nat.reduceMul, Nat.reduceLeDiff, reduceCtorEq, hlS, hwN, Option.isSome_none, Bool.false_eq_true, if_false, Option.isSome_some, if_true, Option.getD_some, hA0, hA1, hA, hdc, rA, encE_len, htk]
        refine (of14_spec L[A] h).use ?_
        simp only [go_sem, Int.reduceEq, Int.reduceAdd, Int.reduceSub, Int.reduceMul, Nat.reduceLT, Int.reduceLT, Int.reduceLE, Int.reduceToNat, Nat.reduceAdd, Nat.reduceSub, Nat.reduceMul, Nat.reduceLeDiff, reduceCtorEq, hdc, hA, rA, rA h, eqs_same, hB0, hB1, hB, rB, encE_len, htk]
        refine (of14_spec L[B] h).use ?_
        simp only [go_sem, Int.reduceEq, Int.reduceAdd, Int.reduceSub, Int.reduceMul, Nat.reduceLT, Int.reduceLT, Int.reduceLE, Int.reduceToNat, Nat.reduceAdd, Nat.reduceSub, Nat.reduceMul, Nat.reduceLeDiff, reduceCtorEq, hdc, hB, rB, rB h, eqs_same]
        (refine hQ _ _ _ _ _ (by first | exact .inr rfl | exact .inl rfl) rfl (by first | exact FzH.refl _ | exact FzH.sub (by (repeat' (first | exact Sub.refl _ | assumption | (refine Sub.upd ?_ (by first | assumption | (simp only [*]; done) | exact Sub.isNone (by assumption) (by assumption) | exact Sub.isNone (by assumption) (by simp only [*]))))))) (FzL.refl _ _ _) ?_; try (simp only [go_sem, Int.reduceEq, Int.reduceAdd, Int.reduceSub, Int.reduceMul, Nat.reduceLT, Int.reduceLT, Int.reduceLE, Int.reduceToNat, Nat.reduceAdd, Nat.reduceSub, Nat.reduceMul, Nat.reduceLeDiff, reduceCtorEq]))

end Go.Proofs.Ytaeppifdbcoipaa
