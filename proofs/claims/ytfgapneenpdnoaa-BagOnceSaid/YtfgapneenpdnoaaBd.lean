/-
  The bag: BagMoves on abstract values.
-/
import Derived.Test.YtfgapneenpdnoaaBc
namespace Go.Proofs.Ytfgapneenpdnoaa
open Go E
set_option linter.unusedVariables false
set_option linter.unusedSimpArgs false
set_option maxRecDepth 100000

theorem bTake_at {q : Nat} {n : Int} {l : List Fl} {h0 H : AHeap} (i : BIn q n l h0 H) (hn : l.length ≤ 100000) (k : Nat) {x : Fl} {l2 : List Fl} (hk : k < l.length) (hx : l[k] = x) (hl : cutL l k = l2) :
    CallsA Try.prog 17 [.ptr q 0, .int .i64 (k : Int)] H (fun r H' => r = .tup [.agg (encF x), .int .i64 0] ∧ BIn q n l2 h0 H') := by
  subst hx; subst hl
  exact bTake_spec i hn k hk

theorem bMove_at {q : Nat} {n : Int} {l : List Fl} {h0 H : AHeap} (i : BIn q n l h0 H) (hn : l.length ≤ 100000) (a b : Nat) {l2 : List Fl} (ha : a < l.length) (hb : b < l.length) (hl : moveL l a b l[a] = l2) :
    CallsA Try.prog 15 [.ptr q 0, .int .i64 (a : Int), .int .i64 (b : Int)] H (fun r H' => r = .int .i64 0 ∧ BIn q n l2 h0 H') := by
  subst hl
  exact bMove_spec i hn a b ha hb

def flK (k : Int) : Fl := ⟨k, 0, [], false⟩

theorem bputZ {h : AHeap} {q : Nat} {a : Int} {ex : Bool} : FzL h h [.ptr q 0, .ro [.int .i64 a, .int .i64 0, .nils, .bool false] 1 ex] [.ptr q 0, .ro (cat encF [flK a]) 1 ex] := by
  refine .cons (.refl _) (.cons (Fz.ro (.cons (.refl _) (.cons (.refl _) (.cons .nils (.cons (.refl _) .nil)))) (by simp)) .nil)

theorem bknown_spec (h : AHeap) : PureA Try.prog 16 [] h (.bool true) := by
  (refine PureA.enter (ac := c16) (rs := r16) Try.func16 rfl (by decide) c16_ok r16_ok ?_; intro Q hQ; simp only [go_sem, Int.reduceEq, Int.reduceAdd, Int.reduceSub, Int.reduceMul, Nat.reduceLT, Int.reduceLT, Int.reduceLE, Int.reduceToNat, Nat.reduceAdd, Nat.reduceSub, Nat.reduceMul, Nat.reduceLeDiff, reduceCtorEq, c16, Try.ntmps16])
  refine (bnew_spec 3 (by omega) (by omega) h).use ?_
  rintro _ H ⟨q, rfl, i⟩
  simp only [go_sem, Int.reduceEq, Int.reduceAdd, Int.reduceSub, Int.reduceMul, Nat.reduceLT, Int.reduceLT, Int.reduceLE, Int.reduceToNat, Nat.reduceAdd, Nat.reduceSub, Nat.reduceMul, Nat.reduceLeDiff, reduceCtorEq]
  refine CallsA.useZ (bPut_spec (xs := [flK 1, flK 2, flK 3, flK 4]) i true (by simp) (by simp [flK]) (by simp [flK, chkF, nodeB])) ?_ ?_
  · exact .cons (.refl _) (.cons (Fz.ro (.cons (.refl _) (.cons (.refl _) (.cons .nils (.cons (.refl _) (.cons (.refl _) (.cons (.refl _) (.cons .nils (.cons (.refl _) (.cons (.refl _) (.cons (.refl _) (.cons .nils (.cons (.refl _) (.cons (.refl _) (.cons (.refl _) (.cons .nils (.cons (.refl _) .nil)))))))))))))))) (by simp)) .nil)
  rintro _ H1 ⟨rfl, i1⟩
  rw [show runB 3 [] [flK 1, flK 2, flK 3, flK 4] = ([flK 1, flK 2, flK 3], 1) from rfl] at i1 ⊢
  simp only [go_sem, Int.reduceEq, Int.reduceAdd, Int.reduceSub, Int.reduceMul, Nat.reduceLT, Int.reduceLT, Int.reduceLE, Int.reduceToNat, Nat.reduceAdd, Nat.reduceSub, Nat.reduceMul, Nat.reduceLeDiff, reduceCtorEq]
  refine (bMove_at (l2 := [flK 3, flK 1, flK 2]) i1 (by simp) 2 0 (by simp) (by simp) rfl).use ?_
  rintro _ H2 ⟨rfl, i2⟩
  simp only [go_sem, Int.reduceEq, Int.reduceAdd, Int.reduceSub, Int.reduceMul, Nat.reduceLT, Int.reduceLT, Int.reduceLE, Int.reduceToNat, Nat.reduceAdd, Nat.reduceSub, Nat.reduceMul, Nat.reduceLeDiff, reduceCtorEq]
  refine (bAll_spec i2 (by simp) (by simp [flK])).use ?_
  simp only [go_sem, Int.reduceEq, Int.reduceAdd, Int.reduceSub, Int.reduceMul, Nat.reduceLT, Int.reduceLT, Int.reduceLE, Int.reduceToNat, Nat.reduceAdd, Nat.reduceSub, Nat.reduceMul, Nat.reduceLeDiff, reduceCtorEq]
  refine (bTake_at (x := flK 1) (l2 := [flK 3, flK 2]) i2 (by simp) 1 (by simp) rfl rfl).use ?_
  rintro _ H3 ⟨rfl, i3⟩
  simp only [go_sem, Int.reduceEq, Int.reduceAdd, Int.reduceSub, Int.reduceMul, Nat.reduceLT, Int.reduceLT, Int.reduceLE, Int.reduceToNat, Nat.reduceAdd, Nat.reduceSub, Nat.reduceMul, Nat.reduceLeDiff, reduceCtorEq, encF, flK]
  intro p hp
  simp only [go_sem, Int.reduceEq, Int.reduceAdd, Int.reduceSub, Int.reduceMul, Nat.reduceLT, Int.reduceLT, Int.reduceLE, Int.reduceToNat, Nat.reduceAdd, Nat.reduceSub, Nat.reduceMul, Nat.reduceLeDiff, reduceCtorEq, del_none hp, cat, encF, List.length_cons, List.length_nil]
  refine hQ _ _ _ _ _ (.inr rfl) rfl (FzH.sub i3.sub) (FzL.refl _ _ _) rfl

theorem moveL_len {l : List Fl} {a b : Nat} {x : Fl} (ha : a < l.length) : (moveL l a b x).length = l.length := by
  have := cutL_len ha
  unfold moveL; rw [List.length_append, List.length_cons, List.length_take, List.length_drop]; omega

theorem moveL_at {l : List Fl} {a b : Nat} {x : Fl} (ha : a < l.length) (hb : b < l.length) (h : b < (moveL l a b x).length) : (moveL l a b x)[b] = x := by
  have := cutL_len ha
  have hl : ((cutL l a).take b).length = b := by rw [List.length_take]; omega
  have e : (moveL l a b x)[b]? = some x := by
    unfold moveL
    rw [List.getElem?_append_right (by omega)]
    simp [hl]
  exact (List.getElem?_eq_some_iff.1 e).2

theorem moveL_back {l : List Fl} {a b : Nat} {x : Fl} (ha : a < l.length) (hb : b < l.length) (hx : l[a] = x) : moveL (moveL l a b x) b a x = l := by
  have := cutL_len ha
  have hl : ((cutL l a).take b).length = b := by rw [List.length_take]; omega
  have h1 : cutL (moveL l a b x) b = cutL l a := by
    have e1 : (moveL l a b x).take b = (cutL l a).take b := by
      unfold moveL; rw [List.take_append_of_le_length (by omega), List.take_take, Nat.min_self]
    have e2 : (moveL l a b x).drop (b + 1) = (cutL l a).drop b := by
      unfold moveL
      rw [List.drop_append, List.drop_of_length_le (by omega), hl, show b + 1 - b = 1 by omega]
      simp
    show (moveL l a b x).take b ++ (moveL l a b x).drop (b + 1) = cutL l a
    rw [e1, e2, List.take_append_drop]
  have ht : (l.take a).length = a := by rw [List.length_take]; omega
  have e3 : (cutL l a).take a = l.take a := by unfold cutL; rw [List.take_append_of_le_length (by omega), List.take_take, Nat.min_self]
  have e4 : (cutL l a).drop a = l.drop (a + 1) := by
    unfold cutL; rw [List.drop_append, List.drop_of_length_le (by omega), ht]; simp
  show (cutL (moveL l a b x) b).take a ++ x :: (cutL (moveL l a b x) b).drop a = l
  rw [h1, e3, e4, ← hx, ← List.drop_eq_getElem_cons ha, List.take_append_drop]

def startL (k : Nat) : List Fl := (List.range k).map fun (j : Nat) => flK (j : Int)
theorem startL_len (k : Nat) : (startL k).length = k := by simp [startL]
theorem startL_succ (k : Nat) : startL (k + 1) = startL k ++ [flK (k : Int)] := by simp [startL, List.range_succ]
theorem startL_b {k : Nat} : ∀ x ∈ startL k, x.b.length ≤ 1000000 := by
  intro x hx
  obtain ⟨j, _, rfl⟩ := List.mem_map.1 hx
  simp [flK]

set_option maxHeartbeats 1000000 in
theorem bmoves_spec (cs : List AV) (n : Nat) (ex : Bool) (a b : Int) (h : AHeap) (hn : n ≤ 9223372036854775807) : PureA Try.prog 4 [.ro cs n ex, .int .i64 a, .int .i64 b] h (.bool true) := by
  (refine PureA.enter (ac := c4) (rs := r4) Try.func4 rfl (by decide) c4_ok r4_ok ?_; intro Q hQ; simp only [go_sem, Int.reduceEq, Int.reduceAdd, Int.reduceSub, Int.reduceMul, Nat.reduceLT, Int.reduceLT, Int.reduceLE, Int.reduceToNat, Nat.reduceAdd, Nat.reduceSub, Nat.reduceMul, Nat.reduceLeDiff, reduceCtorEq, c4, Try.ntmps4])
  refine (bnew_spec 512 (by omega) (by omega) h).use ?_
  rintro _ H ⟨q, rfl, i⟩
  simp only [go_sem, Int.reduceEq, Int.reduceAdd, Int.reduceSub, Int.reduceMul, Nat.reduceLT, Int.reduceLT, Int.reduceLE, Int.reduceToNat, Nat.reduceAdd, Nat.reduceSub, Nat.reduceMul, Nat.reduceLeDiff, reduceCtorEq]
  refine loop_st d4_0 (fun k : Nat => 20 - k) (fun k s => s.set 9 (.int .i64 (k : Int))) (fun k H => k ≤ 20 ∧ BIn q 512 (startL k) h H) 0 ?_ ⟨Nat.zero_le _, i⟩ ?_
  · (simp only [go_sem, Int.reduceEq, Int.reduceAdd, Int.reduceSub, Int.reduceMul, Nat.reduceLT, Int.reduceLT, Int.reduceLE, Int.reduceToNat, Nat.reduceAdd, Nat.reduceSub, Nat.reduceMul, Nat.reduceLeDiff, reduceCtorEq, d4_0] <;> rfl)
  rintro N k H1 ⟨hk, i1⟩ hN
  simp only [go_sem, Int.reduceEq, Int.reduceAdd, Int.reduceSub, Int.reduceMul, Nat.reduceLT, Int.reduceLT, Int.reduceLE, Int.reduceToNat, Nat.reduceAdd, Nat.reduceSub, Nat.reduceMul, Nat.reduceLeDiff, reduceCtorEq, d4_0]
  have hadd := wadd1 (k := k) (by omega)
  have fin : N = N := rfl
  by_cases hlt : k < n ∧ (k : Int) < 20
  · obtain ⟨h1, h2⟩ := hlt
    simp only [go_sem, Int.reduceEq, Int.reduceAdd, Int.reduceSub, Int.reduceMul, Nat.reduceLT, Int.reduceLT, Int.reduceLE, Int.reduceToNat, Nat.reduceAdd, Nat.reduceSub, Nat.reduceMul, Nat.reduceLeDiff, reduceCtorEq, h1, h2]
    refine CallsA.useZ (bPut_spec (xs := [flK k]) i1 true (by rw [startL_len]; simp; omega) (by simp [flK]) (by simp [flK, chkF, nodeB]; omega)) bputZ ?_
    rintro _ H2 ⟨rfl, i2⟩
    have e : runB 512 (startL k) [flK k] = (startL (k + 1), 0) := by
      show stepB 512 (startL k, 0) (flK k) = _
      unfold stepB
      rw [if_neg (by simp only [startL_len]; omega), startL_succ]
    rw [e] at i2
    simp only [go_sem, Int.reduceEq, Int.reduceAdd, Int.reduceSub, Int.reduceMul, Nat.reduceLT, Int.reduceLT, Int.reduceLE, Int.reduceToNat, Nat.reduceAdd, Nat.reduceSub, Nat.reduceMul, Nat.reduceLeDiff, reduceCtorEq, hadd]
    refine hN (k + 1) _ _ (by omega) ?_ ⟨by omega, i2⟩
    simp only [go_sem, Int.reduceEq, Int.reduceAdd, Int.reduceSub, Int.reduceMul, Nat.reduceLT, Int.reduceLT, Int.reduceLE, Int.reduceToNat, Nat.reduceAdd, Nat.reduceSub, Nat.reduceMul, Nat.reduceLeDiff, reduceCtorEq, d4_0]
  · have hLl := startL_len k
    have hLb := startL_b (k := k)
    generalize startL k = L at *
    have hL20 : L.length ≤ 20 := by omega
    clear hN hLl
    rcases (show (k < n ∧ ¬ (k : Int) < 20) ∨ ¬ k < n by omega) with ⟨h1, h2⟩ | h1 <;> (first | (simp only [go_sem, Int.reduceEq, Int.reduceAdd, Int.reduceSub, Int.reduceMul, Nat.reduceLT, Int.reduceLT, Int.reduceLE, Int.reduceToNat, Nat.reduceAdd, Nat.reduceSub, Nat.reduceMul, Nat.reduceLeDiff, reduceCtorEq, h1, h2]) | (simp only [go_sem, Int.reduceEq, Int.reduceAdd, Int.reduceSub, Int.reduceMul, Nat.reduceLT, Int.reduceLT, Int.reduceLE, Int.reduceToNat, Nat.reduceAdd, Nat.reduceSub, Nat.reduceMul, Nat.reduceLeDiff, reduceCtorEq, h1])) <;>
    ( refine frz_id ?_
      simp only [go_sem, Int.reduceEq, Int.reduceAdd, Int.reduceSub, Int.reduceMul, Nat.reduceLT, Int.reduceLT, Int.reduceLE, Int.reduceToNat, Nat.reduceAdd, Nat.reduceSub, Nat.reduceMul, Nat.reduceLeDiff, reduceCtorEq]
      refine (bAll_spec i1 (by omega) hLb).use ?_
      simp only [go_sem, Int.reduceEq, Int.reduceAdd, Int.reduceSub, Int.reduceMul, Nat.reduceLT, Int.reduceLT, Int.reduceLE, Int.reduceToNat, Nat.reduceAdd, Nat.reduceSub, Nat.reduceMul, Nat.reduceLeDiff, reduceCtorEq]
      cases hb : hasB L.length a && hasB L.length b
      · refine (bMove_bad i1 a b hb).use ?_
        rintro _ H9 ⟨rfl, e9⟩
        rw [e9]
        have leaf : ∀ K : AV → AHeap → Prop, K (.bool true) H1 → callF Try.prog 16 [] H1 K := fun K hK => (bknown_spec H1).use hK
        by_cases c1 : a < 0
        · simp only [go_sem, Int.reduceEq, Int.reduceAdd, Int.reduceSub, Int.reduceMul, Nat.reduceLT, Int.reduceLT, Int.reduceLE, Int.reduceToNat, Nat.reduceAdd, Nat.reduceSub, Nat.reduceMul, Nat.reduceLeDiff, reduceCtorEq, c1]
          refine leaf _ ?_
          simp only [go_sem, Int.reduceEq, Int.reduceAdd, Int.reduceSub, Int.reduceMul, Nat.reduceLT, Int.reduceLT, Int.reduceLE, Int.reduceToNat, Nat.reduceAdd, Nat.reduceSub, Nat.reduceMul, Nat.reduceLeDiff, reduceCtorEq]
          refine hQ _ _ _ _ _ (.inr rfl) rfl (FzH.sub i1.sub) (FzL.refl _ _ _) rfl
        by_cases c2 : b < 0
        · simp only [go_sem, Int.reduceEq, Int.reduceAdd, Int.reduceSub, Int.reduceMul, Nat.reduceLT, Int.reduceLT, Int.reduceLE, Int.reduceToNat, Nat.reduceAdd, Nat.reduceSub, Nat.reduceMul, Nat.reduceLeDiff, reduceCtorEq, c1, c2]
          refine leaf _ ?_
          simp only [go_sem, Int.reduceEq, Int.reduceAdd, Int.reduceSub, Int.reduceMul, Nat.reduceLT, Int.reduceLT, Int.reduceLE, Int.reduceToNat, Nat.reduceAdd, Nat.reduceSub, Nat.reduceMul, Nat.reduceLeDiff, reduceCtorEq]
          refine hQ _ _ _ _ _ (.inr rfl) rfl (FzH.sub i1.sub) (FzL.refl _ _ _) rfl
        by_cases c3 : (L.length : Int) ≤ a
        · simp only [go_sem, Int.reduceEq, Int.reduceAdd, Int.reduceSub, Int.reduceMul, Nat.reduceLT, Int.reduceLT, Int.reduceLE, Int.reduceToNat, Nat.reduceAdd, Nat.reduceSub, Nat.reduceMul, Nat.reduceLeDiff, reduceCtorEq, c1, c2, c3]
          refine leaf _ ?_
          simp only [go_sem, Int.reduceEq, Int.reduceAdd, Int.reduceSub, Int.reduceMul, Nat.reduceLT, Int.reduceLT, Int.reduceLE, Int.reduceToNat, Nat.reduceAdd, Nat.reduceSub, Nat.reduceMul, Nat.reduceLeDiff, reduceCtorEq]
          refine hQ _ _ _ _ _ (.inr rfl) rfl (FzH.sub i1.sub) (FzL.refl _ _ _) rfl
        by_cases c4 : (L.length : Int) ≤ b
        · simp only [go_sem, Int.reduceEq, Int.reduceAdd, Int.reduceSub, Int.reduceMul, Nat.reduceLT, Int.reduceLT, Int.reduceLE, Int.reduceToNat, Nat.reduceAdd, Nat.reduceSub, Nat.reduceMul, Nat.reduceLeDiff, reduceCtorEq, c1, c2, c3, c4]
          refine leaf _ ?_
          simp only [go_sem, Int.reduceEq, Int.reduceAdd, Int.reduceSub, Int.reduceMul, Nat.reduceLT, Int.reduceLT, Int.reduceLE, Int.reduceToNat, Nat.reduceAdd, Nat.reduceSub, Nat.reduceMul, Nat.reduceLeDiff, reduceCtorEq]
          refine hQ _ _ _ _ _ (.inr rfl) rfl (FzH.sub i1.sub) (FzL.refl _ _ _) rfl
        · exfalso
          simp [hasB] at hb
          omega
      · simp only [hasB, Bool.and_eq_true, decide_eq_true_eq] at hb
        obtain ⟨A, rfl⟩ : ∃ A : Nat, a = (A : Int) := ⟨a.toNat, by omega⟩
        obtain ⟨B, rfl⟩ : ∃ B : Nat, b = (B : Int) := ⟨b.toNat, by omega⟩
        have hA : A < L.length := by omega
        have hB : B < L.length := by omega
        obtain ⟨M, hM⟩ : ∃ M, moveL L A B L[A] = M := ⟨_, rfl⟩
        have hml : M.length = L.length := by rw [← hM]; exact moveL_len (b := B) (x := L[A]) hA
        have hBM : B < M.length := by omega
        have hat : M[B] = L[A] := by subst hM; exact moveL_at (x := L[A]) hA hB hBM
        have hback : moveL M B A M[B] = L := by rw [hat, ← hM]; exact moveL_back (x := L[A]) hA hB rfl
        have hmb : ∀ x ∈ M, x.b.length ≤ 1000000 := fun x hx => by
          rw [← hM] at hx
          unfold moveL cutL at hx
          simp only [List.mem_append, List.mem_cons] at hx
          rcases hx with hx | rfl | hx
          · have := List.mem_of_mem_take hx
            rw [List.mem_append] at this
            rcases this with h | h
            · exact hLb x (List.mem_of_mem_take h)
            · exact hLb x (List.mem_of_mem_drop h)
          · exact hLb _ (List.getElem_mem hA)
          · have := List.mem_of_mem_drop hx
            rw [List.mem_append] at this
            rcases this with h | h
            · exact hLb x (List.mem_of_mem_take h)
            · exact hLb x (List.mem_of_mem_drop h)
        refine (bMove_at i1 (by omega) A B hA hB hM).use ?_
        rintro _ H2 ⟨rfl, i2⟩
        have c1 : ¬ (A : Int) < 0 := by omega
        have c2 : ¬ (B : Int) < 0 := by omega
        have c3 : ¬ L.length ≤ A := by omega
        have c4 : ¬ L.length ≤ B := by omega
        simp only [go_sem, Int.reduceEq, Int.reduceAdd, Int.reduceSub, Int.reduceMul, Nat.reduceLT, Int.reduceLT, Int.reduceLE, Int.reduceToNat, Nat.reduceAdd, Nat.reduceSub, Nat.reduceMul, Nat.reduceLeDiff, reduceCtorEq, c1, c2, c3, c4]
        refine (bAll_spec i2 (by omega) hmb).use ?_
        have r1 := rd_first (h := H2) encF_len (by omega) hBM
        have r2 := rd_first (h := H2) encF_len (by omega) hA
        have ef0 : ∀ x : Fl, (encF x)[0]? = some (.int .i64 x.src) := fun _ => rfl
        simp only [go_sem, Int.reduceEq, Int.reduceAdd, Int.reduceSub, Int.reduceMul, Nat.reduceLT, Int.reduceLT, Int.reduceLE, Int.reduceToNat, Nat.reduceAdd, Nat.reduceSub, Nat.reduceMul, Nat.reduceLeDiff, reduceCtorEq, hml, hB, hA, r1, r2, hat, ef0]
        refine (bMove_at i2 (by omega) B A hBM (by omega) hback).use ?_
        rintro _ H3 ⟨rfl, i3⟩
        simp only [go_sem, Int.reduceEq, Int.reduceAdd, Int.reduceSub, Int.reduceMul, Nat.reduceLT, Int.reduceLT, Int.reduceLE, Int.reduceToNat, Nat.reduceAdd, Nat.reduceSub, Nat.reduceMul, Nat.reduceLeDiff, reduceCtorEq]
        refine (bAll_spec i3 (by omega) hLb).use ?_
        simp only [go_sem, Int.reduceEq, Int.reduceAdd, Int.reduceSub, Int.reduceMul, Nat.reduceLT, Int.reduceLT, Int.reduceLE, Int.reduceToNat, Nat.reduceAdd, Nat.reduceSub, Nat.reduceMul, Nat.reduceLeDiff, reduceCtorEq]
        refine loop_st d4_1 (fun k : Nat => L.length - k) (fun k s => s.set 15 (.int .i64 (k : Int))) (fun k H => k ≤ L.length ∧ H = H3) 0 ?_ ⟨Nat.zero_le _, rfl⟩ ?_
        · (simp only [go_sem, Int.reduceEq, Int.reduceAdd, Int.reduceSub, Int.reduceMul, Nat.reduceLT, Int.reduceLT, Int.reduceLE, Int.reduceToNat, Nat.reduceAdd, Nat.reduceSub, Nat.reduceMul, Nat.reduceLeDiff, reduceCtorEq, d4_1] <;> rfl)
        rintro N2 j H4 ⟨hj, e4⟩ hN2
        rw [e4]
        simp only [go_sem, Int.reduceEq, Int.reduceAdd, Int.reduceSub, Int.reduceMul, Nat.reduceLT, Int.reduceLT, Int.reduceLE, Int.reduceToNat, Nat.reduceAdd, Nat.reduceSub, Nat.reduceMul, Nat.reduceLeDiff, reduceCtorEq, d4_1]
        by_cases hjl : j < L.length
        · have r3 := rd_first (h := H3) encF_len (by omega) hjl
          have hadd2 := wadd1 (k := j) (by omega)
          simp only [go_sem, Int.reduceEq, Int.reduceAdd, Int.reduceSub, Int.reduceMul, Nat.reduceLT, Int.reduceLT, Int.reduceLE, Int.reduceToNat, Nat.reduceAdd, Nat.reduceSub, Nat.reduceMul, Nat.reduceLeDiff, reduceCtorEq, hjl, r3, ef0, hadd2]
          refine hN2 (j + 1) _ _ (by omega) ?_ ⟨by omega, rfl⟩
          simp only [go_sem, Int.reduceEq, Int.reduceAdd, Int.reduceSub, Int.reduceMul, Nat.reduceLT, Int.reduceLT, Int.reduceLE, Int.reduceToNat, Nat.reduceAdd, Nat.reduceSub, Nat.reduceMul, Nat.reduceLeDiff, reduceCtorEq, d4_1]
        · simp only [go_sem, Int.reduceEq, Int.reduceAdd, Int.reduceSub, Int.reduceMul, Nat.reduceLT, Int.reduceLT, Int.reduceLE, Int.reduceToNat, Nat.reduceAdd, Nat.reduceSub, Nat.reduceMul, Nat.reduceLeDiff, reduceCtorEq, hjl]
          refine frz_id ?_
          simp only [go_sem, Int.reduceEq, Int.reduceAdd, Int.reduceSub, Int.reduceMul, Nat.reduceLT, Int.reduceLT, Int.reduceLE, Int.reduceToNat, Nat.reduceAdd, Nat.reduceSub, Nat.reduceMul, Nat.reduceLeDiff, reduceCtorEq]
          refine (bknown_spec _).use ?_
          simp only [go_sem, Int.reduceEq, Int.reduceAdd, Int.reduceSub, Int.reduceMul, Nat.reduceLT, Int.reduceLT, Int.reduceLE, Int.reduceToNat, Nat.reduceAdd, Nat.reduceSub, Nat.reduceMul, Nat.reduceLeDiff, reduceCtorEq]
          refine hQ _ _ _ _ _ (.inr rfl) rfl (FzH.sub i3.sub) (FzL.refl _ _ _) rfl )

theorem bmoves_law (xs : List AV) (h : ArgsSh Try.prog 6 Try.f4.params.toList xs) : PureA Try.prog 4 xs emp (.bool true) := by
  rw [Try.params4] at h
  simp only [ArgsSh, ArgSh, Try.underlying39, Try.underlying3] at h
  obtain ⟨x, _, rfl, hx, y, _, rfl, hy, z, _, rfl, hz, rfl⟩ := h
  rw [ShC] at hx
  simp only [Try.underlying39] at hx
  simp only [Try.underlying3, ShC] at hy hz
  obtain ⟨m, hm, _⟩ := hy
  cases hm
  obtain ⟨n, hn, _⟩ := hz
  cases hn
  obtain ⟨els, e, hl, hels⟩ := hx
  cases e
  exact bmoves_spec _ _ _ m n emp (by have := maxLen_le; omega)

end Go.Proofs.Ytfgapneenpdnoaa
