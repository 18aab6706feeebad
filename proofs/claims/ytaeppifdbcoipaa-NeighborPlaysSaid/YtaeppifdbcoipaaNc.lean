/-
  Neighbours: what the library does with entries.
-/
import Derived.Test.YtaeppifdbcoipaaSb
import Derived.Test.YtaeppifdbcoipaaNa
namespace Go.Proofs.Ytaeppifdbcoipaa
open Go E
set_option linter.unusedVariables false
set_option linter.unusedSimpArgs false
set_option maxRecDepth 100000

theorem E__ins (c : En → En → Int) (l : List En) (junk caps : List AV) (g : FuncId) (h0 : AHeap) (id cap tot : Nat) (hid : h0 id = none) (hn : l.length ≤ 4611686018427387904)
    (hc : ∀ a ∈ l, ∀ b ∈ l, ∀ h, PureA Try.prog g (.agg (encE a) :: .agg (encE b) :: caps) h (.int .i64 (c a b))) :
    CallsA Try.prog 194 [.sl id 0 l.length cap, .int .i64 0, .int .i64 (l.length : Int), .fn g caps] (upd h0 id (.cells (cat encE l ++ junk) tot)) (fun r h' => r = .tup [] ∧ h' = upd h0 id (.cells (cat encE (isort c l) ++ junk) tot)) := by
  (refine CallsA.enterR (ac := c194) (rs := r194) Try.func194 rfl (by decide) c194_ok r194_ok ?_; intro Q hQ; simp only [go_sem, Int.reduceEq, Int.reduceAdd, Int.reduceSub, Int.reduceMul, Nat.reduceLT, Int.reduceLT, Int.reduceLE, Int.reduceToNat, Nat.reduceAdd, Nat.reduceSub, Nat.reduceMul, Nat.reduceLeDiff, reduceCtorEq, c194, Try.ntmps194])
  refine loop_rh d194_0 l.length (fun k s => s.set 8 (.int .i64 ((k + 1 : Nat) : Int))) (fun k H => H = upd h0 id (.cells (cat encE (isort c (l.take (k + 1)) ++ l.drop (k + 1)) ++ junk) tot)) ?_ ?_ ?_
  · (simp only [go_sem, Int.reduceEq, Int.reduceAdd, Int.reduceSub, Int.reduceMul, Nat.reduceLT, Int.reduceLT, Int.reduceLE, Int.reduceToNat, Nat.reduceAdd, Nat.reduceSub, Nat.reduceMul, Nat.reduceLeDiff, reduceCtorEq, d194_0] <;> rfl)
  · cases l with
    | nil => rfl
    | cons x l => simp [isort, insR, insRev]
  intro N k H hk hH hN
  subst hH
  simp only [go_sem, Int.reduceEq, Int.reduceAdd, Int.reduceSub, Int.reduceMul, Nat.reduceLT, Int.reduceLT, Int.reduceLE, Int.reduceToNat, Nat.reduceAdd, Nat.reduceSub, Nat.reduceMul, Nat.reduceLeDiff, reduceCtorEq, d194_0]
  by_cases hlt : k + 1 < l.length
  · have hP : (isort c (l.take (k + 1))).length = k + 1 := by rw [isort_len, List.length_take]; omega
    have hdr : l.drop (k + 1) = l[k + 1] :: l.drop (k + 2) := List.drop_eq_getElem_cons hlt
    have hmem : ∀ y ∈ isort c (l.take (k + 1)), y ∈ l := fun y hy => List.mem_of_mem_take (mem_isort.1 hy)
    have hx : l[k + 1] ∈ l := List.getElem_mem hlt
    have hadd := wadd1 (k := k + 1) (by omega)
    rw [hdr]
    simp only [go_sem, Int.reduceEq, Int.reduceAdd, Int.reduceSub, Int.reduceMul, Nat.reduceLT, Int.reduceLT, Int.reduceLE, Int.reduceToNat, Nat.reduceAdd, Nat.reduceSub, Nat.reduceMul, Nat.reduceLeDiff, reduceCtorEq, hlt]
    refine loop_sh d194_1 (fun j => j) (fun j s => s.set 9 (.int .i64 ((j : Nat) : Int))) (fun j H => ∃ A B, A.length = j ∧ isort c (l.take (k + 1)) = A ++ B ∧ insR c A l[k + 1] ++ B = insR c (isort c (l.take (k + 1))) l[k + 1] ∧
      H = upd h0 id (.cells (cat encE (A ++ l[k + 1] :: (B ++ l.drop (k + 2))) ++ junk) tot)) (k + 1) ?_ ⟨_, [], hP, by simp, by simp, by simp⟩ ?_
    · (simp only [go_sem, Int.reduceEq, Int.reduceAdd, Int.reduceSub, Int.reduceMul, Nat.reduceLT, Int.reduceLT, Int.reduceLE, Int.reduceToNat, Nat.reduceAdd, Nat.reduceSub, Nat.reduceMul, Nat.reduceLeDiff, reduceCtorEq, d194_1] <;> rfl)
    rintro N2 j H ⟨A, B, hA, hAB, hins, rfl⟩ hN2
    simp only [go_sem, Int.reduceEq, Int.reduceAdd, Int.reduceSub, Int.reduceMul, Nat.reduceLT, Int.reduceLT, Int.reduceLE, Int.reduceToNat, Nat.reduceAdd, Nat.reduceSub, Nat.reduceMul, Nat.reduceLeDiff, reduceCtorEq, d194_1]
    have done : insR c A l[k + 1] = A ++ [l[k + 1]] → upd h0 id (.cells (cat encE (A ++ l[k + 1] :: (B ++ l.drop (k + 2))) ++ junk) tot) = upd h0 id (.cells (cat encE (isort c (l.take (k + 1 + 1)) ++ l.drop (k + 1 + 1)) ++ junk) tot) := fun e => by
      rw [List.take_succ_eq_append_getElem hlt, isort_snoc, ← hins, e]; simp
    rcases List.eq_nil_or_concat A with rfl | ⟨A', y, rfl⟩
    · simp at hA; subst hA
      simp only [go_sem, Int.reduceEq, Int.reduceAdd, Int.reduceSub, Int.reduceMul, Nat.reduceLT, Int.reduceLT, Int.reduceLE, Int.reduceToNat, Nat.reduceAdd, Nat.reduceSub, Nat.reduceMul, Nat.reduceLeDiff, reduceCtorEq]
      refine frz_id ?_
      simp only [go_sem, Int.reduceEq, Int.reduceAdd, Int.reduceSub, Int.reduceMul, Nat.reduceLT, Int.reduceLT, Int.reduceLE, Int.reduceToNat, Nat.reduceAdd, Nat.reduceSub, Nat.reduceMul, Nat.reduceLeDiff, reduceCtorEq, hadd]
      refine hN _ _ _ (by omega) ?_ (FzH.refl _) (done rfl)
      simp only [go_sem, Int.reduceEq, Int.reduceAdd, Int.reduceSub, Int.reduceMul, Nat.reduceLT, Int.reduceLT, Int.reduceLE, Int.reduceToNat, Nat.reduceAdd, Nat.reduceSub, Nat.reduceMul, Nat.reduceLeDiff, reduceCtorEq, d194_0]
    · simp only [List.concat_eq_append, List.length_append, List.length_cons, List.length_nil] at hA hAB hins done ⊢
      have hlen : A'.length + 1 + B.length = k + 1 := by
        have := congrArg List.length hAB
        rw [hP] at this; simp at this; omega
      have hjlt : j < l.length := by omega
      have hj : j = A'.length + 1 := by omega
      subst hj
      have hj0 : A'.length < l.length := by omega
      have hy : y ∈ l := hmem y (by rw [hAB]; simp)
      have hpos : decide ((0 : Int) < ((A'.length + 1 : Nat) : Int)) = true := decide_eq_true (by omega)
      have hsub : IntKind.i64.wrap (((A'.length + 1 : Nat) : Int) - 1) = ((A'.length : Nat) : Int) := by rw [w64 (by omega) (by omega)]; omega
      have hL : (A' ++ [y]).length = A'.length + 1 := by simp
      have e1 : A' ++ [y] ++ l[k + 1] :: (B ++ l.drop (k + 2)) = A' ++ y :: (l[k + 1] :: (B ++ l.drop (k + 2))) := by simp
      have l1 := own_at (enc := encE) (h0 := h0) (id := id) (tot := tot) (junk := junk) encE_len (A := A') (B := l[k + 1] :: (B ++ l.drop (k + 2))) (x := y)
      have l2 := own_at (enc := encE) (h0 := h0) (id := id) (tot := tot) (junk := junk) encE_len (A := A' ++ [y]) (B := B ++ l.drop (k + 2)) (x := l[k + 1])
      have w1 := own_put (enc := encE) (h0 := h0) (id := id) (tot := tot) (junk := junk) encE_len (A := A' ++ [y]) (B := B ++ l.drop (k + 2)) (x := l[k + 1]) (y := y)
      have w2 := own_put (enc := encE) (h0 := h0) (id := id) (tot := tot) (junk := junk) encE_len (A := A') (B := y :: (B ++ l.drop (k + 2))) (x := y) (y := l[k + 1])
      rw [hL] at l2 w1
      rw [e1] at l2 w1 done
      have e2 : A' ++ [y] ++ y :: (B ++ l.drop (k + 2)) = A' ++ y :: (y :: (B ++ l.drop (k + 2))) := by simp
      rw [e2] at w1
      rw [e1]
      by_cases hcc : c l[k + 1] y < 0
      · simp only [go_sem, Int.reduceEq, Int.reduceAdd, Int.reduceSub, Int.reduceMul, Nat.reduceLT, Int.reduceLT, Int.reduceLE, Int.reduceToNat, Nat.reduceAdd, Nat.reduceSub, Nat.reduceMul, Nat.reduceLeDiff, reduceCtorEq, hpos, hsub, hjlt, hj0, l1, l2, w1, w2, encE_len, encE_sca]
        refine (hc _ hx _ hy _).use ?_
        simp only [go_sem, Int.reduceEq, Int.reduceAdd, Int.reduceSub, Int.reduceMul, Nat.reduceLT, Int.reduceLT, Int.reduceLE, Int.reduceToNat, Nat.reduceAdd, Nat.reduceSub, Nat.reduceMul, Nat.reduceLeDiff, reduceCtorEq, hpos, hsub, hjlt, hj0, l1, l2, w1, w2, encE_len, encE_sca, hcc]
        refine hN2 A'.length _ _ _ (Nat.lt_succ_self _) ?_ (FzH.refl _) ⟨A', y :: B, rfl, by rw [hAB]; simp, by rw [← hins, insR_lt hcc]; simp, by simp⟩
        simp only [go_sem, Int.reduceEq, Int.reduceAdd, Int.reduceSub, Int.reduceMul, Nat.reduceLT, Int.reduceLT, Int.reduceLE, Int.reduceToNat, Nat.reduceAdd, Nat.reduceSub, Nat.reduceMul, Nat.reduceLeDiff, reduceCtorEq, d194_1]
      · simp only [go_sem, Int.reduceEq, Int.reduceAdd, Int.reduceSub, Int.reduceMul, Nat.reduceLT, Int.reduceLT, Int.reduceLE, Int.reduceToNat, Nat.reduceAdd, Nat.reduceSub, Nat.reduceMul, Nat.reduceLeDiff, reduceCtorEq, hpos, hsub, hjlt, hj0, l1, l2, w1, w2, encE_len, encE_sca]
        refine (hc _ hx _ hy _).use ?_
        simp only [go_sem, Int.reduceEq, Int.reduceAdd, Int.reduceSub, Int.reduceMul, Nat.reduceLT, Int.reduceLT, Int.reduceLE, Int.reduceToNat, Nat.reduceAdd, Nat.reduceSub, Nat.reduceMul, Nat.reduceLeDiff, reduceCtorEq, hpos, hsub, hjlt, hj0, l1, l2, w1, w2, encE_len, encE_sca, hcc]
        refine frz_id ?_
        simp only [go_sem, Int.reduceEq, Int.reduceAdd, Int.reduceSub, Int.reduceMul, Nat.reduceLT, Int.reduceLT, Int.reduceLE, Int.reduceToNat, Nat.reduceAdd, Nat.reduceSub, Nat.reduceMul, Nat.reduceLeDiff, reduceCtorEq, hadd]
        refine hN _ _ _ (by omega) ?_ (FzH.refl _) (done (insR_ge hcc))
        simp only [go_sem, Int.reduceEq, Int.reduceAdd, Int.reduceSub, Int.reduceMul, Nat.reduceLT, Int.reduceLT, Int.reduceLE, Int.reduceToNat, Nat.reduceAdd, Nat.reduceSub, Nat.reduceMul, Nat.reduceLeDiff, reduceCtorEq, d194_0]
  · simp only [go_sem, Int.reduceEq, Int.reduceAdd, Int.reduceSub, Int.reduceMul, Nat.reduceLT, Int.reduceLT, Int.reduceLE, Int.reduceToNat, Nat.reduceAdd, Nat.reduceSub, Nat.reduceMul, Nat.reduceLeDiff, reduceCtorEq, hlt]
    refine frz_id ?_
    refine hQ _ _ _ _ _ _ (.inl rfl) rfl (FzH.refl _) (FzL.refl _ _ _) ⟨rfl, ?_⟩
    rw [List.take_of_length_le (by omega), List.drop_of_length_le (by omega), List.append_nil]

theorem E__pdq (c : En → En → Int) (l : List En) (junk caps : List AV) (g : FuncId) (lim : Int) (h0 : AHeap) (id cap tot : Nat) (hid : h0 id = none) (hn : l.length ≤ 12)
    (hc : ∀ a ∈ l, ∀ b ∈ l, ∀ h, PureA Try.prog g (.agg (encE a) :: .agg (encE b) :: caps) h (.int .i64 (c a b))) :
    CallsA Try.prog 178 [.sl id 0 l.length cap, .int .i64 0, .int .i64 (l.length : Int), .int .i64 lim, .fn g caps] (upd h0 id (.cells (cat encE l ++ junk) tot)) (fun r h' => r = .tup [] ∧ h' = upd h0 id (.cells (cat encE (isort c l) ++ junk) tot)) := by
  have hs : IntKind.i64.wrap ((l.length : Int) - 0) = (l.length : Int) := by rw [w64 (by omega) (by omega)]; omega
  have hd : decide ((l.length : Int) ≤ 12) = true := decide_eq_true (by omega)
  (refine CallsA.enterR (ac := c178) (rs := r178) Try.func178 rfl (by decide) c178_ok r178_ok ?_; intro Q hQ; simp only [go_sem, Int.reduceEq, Int.reduceAdd, Int.reduceSub, Int.reduceMul, Nat.reduceLT, Int.reduceLT, Int.reduceLE, Int.reduceToNat, Nat.reduceAdd, Nat.reduceSub, Nat.reduceMul, Nat.reduceLeDiff, reduceCtorEq, c178, Try.ntmps178])
  refine loop_n 1 ?_
  simp only [go_sem, Int.reduceEq, Int.reduceAdd, Int.reduceSub, Int.reduceMul, Nat.reduceLT, Int.reduceLT, Int.reduceLE, Int.reduceToNat, Nat.reduceAdd, Nat.reduceSub, Nat.reduceMul, Nat.reduceLeDiff, reduceCtorEq, loopN, hs, hd]
  refine (E__ins c l junk caps g h0 id cap tot hid (by omega) hc).use ?_
  rintro r h' ⟨rfl, rfl⟩
  simp only [go_sem, Int.reduceEq, Int.reduceAdd, Int.reduceSub, Int.reduceMul, Nat.reduceLT, Int.reduceLT, Int.reduceLE, Int.reduceToNat, Nat.reduceAdd, Nat.reduceSub, Nat.reduceMul, Nat.reduceLeDiff, reduceCtorEq]
  refine hQ _ _ _ _ _ _ (.inr rfl) rfl (FzH.refl _) (FzL.refl _ _ _) ⟨rfl, rfl⟩

theorem E__sort (c : En → En → Int) (l : List En) (junk caps : List AV) (g : FuncId) (h0 : AHeap) (id cap tot : Nat) (hid : h0 id = none) (hn : l.length ≤ 12)
    (hc : ∀ a ∈ l, ∀ b ∈ l, ∀ h, PureA Try.prog g (.agg (encE a) :: .agg (encE b) :: caps) h (.int .i64 (c a b))) :
    CallsA Try.prog 151 [.sl id 0 l.length cap, .fn g caps] (upd h0 id (.cells (cat encE l ++ junk) tot)) (fun r h' => r = .tup [] ∧ h' = upd h0 id (.cells (cat encE (isort c l) ++ junk) tot)) := by
  have hw : IntKind.u64.wrap (l.length : Int) = (l.length : Int) := by rw [wu64]; omega
  (refine CallsA.enterR (ac := c151) (rs := r151) Try.func151 rfl (by decide) c151_ok r151_ok ?_; intro Q hQ; simp only [go_sem, Int.reduceEq, Int.reduceAdd, Int.reduceSub, Int.reduceMul, Nat.reduceLT, Int.reduceLT, Int.reduceLE, Int.reduceToNat, Nat.reduceAdd, Nat.reduceSub, Nat.reduceMul, Nat.reduceLeDiff, reduceCtorEq, c151, Try.ntmps151, hw])
  refine (len_spec l.length hn _).use ?_
  rintro r h' ⟨v, rfl, rfl⟩
  simp only [go_sem, Int.reduceEq, Int.reduceAdd, Int.reduceSub, Int.reduceMul, Nat.reduceLT, Int.reduceLT, Int.reduceLE, Int.reduceToNat, Nat.reduceAdd, Nat.reduceSub, Nat.reduceMul, Nat.reduceLeDiff, reduceCtorEq]
  refine (E__pdq c l junk caps g v h0 id cap tot hid hn hc).use ?_
  rintro r h' ⟨rfl, rfl⟩
  simp only [go_sem, Int.reduceEq, Int.reduceAdd, Int.reduceSub, Int.reduceMul, Nat.reduceLT, Int.reduceLT, Int.reduceLE, Int.reduceToNat, Nat.reduceAdd, Nat.reduceSub, Nat.reduceMul, Nat.reduceLeDiff, reduceCtorEq]
  refine hQ _ _ _ _ _ _ (.inl rfl) rfl (FzH.refl _) (FzL.refl _ _ _) ⟨rfl, rfl⟩

theorem E__ins0 (caps : List AV) (g : FuncId) (h : AHeap) : CallsA Try.prog 194 [.nils, .int .i64 0, .int .i64 0, .fn g caps] h (fun r h' => r = .tup [] ∧ h' = h) := by
  (refine CallsA.enterR (ac := c194) (rs := r194) Try.func194 rfl (by decide) c194_ok r194_ok ?_; intro Q hQ; simp only [go_sem, Int.reduceEq, Int.reduceAdd, Int.reduceSub, Int.reduceMul, Nat.reduceLT, Int.reduceLT, Int.reduceLE, Int.reduceToNat, Nat.reduceAdd, Nat.reduceSub, Nat.reduceMul, Nat.reduceLeDiff, reduceCtorEq, c194, Try.ntmps194])
  refine loop_n 1 ?_
  simp only [go_sem, Int.reduceEq, Int.reduceAdd, Int.reduceSub, Int.reduceMul, Nat.reduceLT, Int.reduceLT, Int.reduceLE, Int.reduceToNat, Nat.reduceAdd, Nat.reduceSub, Nat.reduceMul, Nat.reduceLeDiff, reduceCtorEq, loopN_succ]
  refine frz_id ?_
  refine hQ _ _ _ _ _ _ (.inl rfl) rfl (FzH.refl _) (FzL.refl _ _ _) ⟨rfl, rfl⟩

theorem E__pdq0 (caps : List AV) (g : FuncId) (lim : Int) (h : AHeap) : CallsA Try.prog 178 [.nils, .int .i64 0, .int .i64 0, .int .i64 lim, .fn g caps] h (fun r h' => r = .tup [] ∧ h' = h) := by
  (refine CallsA.enterR (ac := c178) (rs := r178) Try.func178 rfl (by decide) c178_ok r178_ok ?_; intro Q hQ; simp only [go_sem, Int.reduceEq, Int.reduceAdd, Int.reduceSub, Int.reduceMul, Nat.reduceLT, Int.reduceLT, Int.reduceLE, Int.reduceToNat, Nat.reduceAdd, Nat.reduceSub, Nat.reduceMul, Nat.reduceLeDiff, reduceCtorEq, c178, Try.ntmps178])
  refine loop_n 1 ?_
  simp only [go_sem, Int.reduceEq, Int.reduceAdd, Int.reduceSub, Int.reduceMul, Nat.reduceLT, Int.reduceLT, Int.reduceLE, Int.reduceToNat, Nat.reduceAdd, Nat.reduceSub, Nat.reduceMul, Nat.reduceLeDiff, reduceCtorEq, loopN_succ]
  refine (E__ins0 caps g h).use ?_
  rintro r h' ⟨rfl, rfl⟩
  simp only [go_sem, Int.reduceEq, Int.reduceAdd, Int.reduceSub, Int.reduceMul, Nat.reduceLT, Int.reduceLT, Int.reduceLE, Int.reduceToNat, Nat.reduceAdd, Nat.reduceSub, Nat.reduceMul, Nat.reduceLeDiff, reduceCtorEq]
  refine hQ _ _ _ _ _ _ (.inr rfl) rfl (FzH.refl _) (FzL.refl _ _ _) ⟨rfl, rfl⟩

theorem E__sort0 (caps : List AV) (g : FuncId) (h : AHeap) : CallsA Try.prog 151 [.nils, .fn g caps] h (fun r h' => r = .tup [] ∧ h' = h) := by
  (refine CallsA.enterR (ac := c151) (rs := r151) Try.func151 rfl (by decide) c151_ok r151_ok ?_; intro Q hQ; simp only [go_sem, Int.reduceEq, Int.reduceAdd, Int.reduceSub, Int.reduceMul, Nat.reduceLT, Int.reduceLT, Int.reduceLE, Int.reduceToNat, Nat.reduceAdd, Nat.reduceSub, Nat.reduceMul, Nat.reduceLeDiff, reduceCtorEq, c151, Try.ntmps151, show IntKind.u64.wrap 0 = 0 from rfl])
  refine (len_spec 0 (by omega) _).use ?_
  rintro r h' ⟨v, rfl, rfl⟩
  simp only [go_sem, Int.reduceEq, Int.reduceAdd, Int.reduceSub, Int.reduceMul, Nat.reduceLT, Int.reduceLT, Int.reduceLE, Int.reduceToNat, Nat.reduceAdd, Nat.reduceSub, Nat.reduceMul, Nat.reduceLeDiff, reduceCtorEq]
  refine (E__pdq0 caps g v _).use ?_
  rintro r h' ⟨rfl, rfl⟩
  simp only [go_sem, Int.reduceEq, Int.reduceAdd, Int.reduceSub, Int.reduceMul, Nat.reduceLT, Int.reduceLT, Int.reduceLE, Int.reduceToNat, Nat.reduceAdd, Nat.reduceSub, Nat.reduceMul, Nat.reduceLeDiff, reduceCtorEq]
  refine hQ _ _ _ _ _ _ (.inl rfl) rfl (FzH.refl _) (FzL.refl _ _ _) ⟨rfl, rfl⟩

theorem E__sortG (c : En → En → Int) (l : List En) (caps : List AV) (g : FuncId) (h0 H : AHeap) (v : AV) (n : Nat) (he : n = l.length) (gr : Grow h0 5 v (cat encE l) n H) (hw : Wr v) (hn : l.length ≤ 12)
    (hc : ∀ a ∈ l, ∀ b ∈ l, ∀ h, PureA Try.prog g (.agg (encE a) :: .agg (encE b) :: caps) h (.int .i64 (c a b))) :
    CallsA Try.prog 151 [v, .fn g caps] H (fun r h' => r = .tup [] ∧ Grow h0 5 v (cat encE (isort c l)) n h') := by
  subst he
  have hs := gr.sca
  rcases gr.how with ⟨rfl, hl, rfl⟩ | ⟨rfl, _⟩ | ⟨id, cap, junk, tot, rfl, hcap, hT, hid, rfl⟩
  · rw [List.length_eq_zero_iff] at hl; subst hl
    refine (E__sort0 caps g _).mono ?_
    rintro r h' ⟨rfl, rfl⟩
    exact ⟨rfl, gr⟩
  · exact absurd rfl (hw _ _ _)
  · refine (E__sort c l junk caps g h0 id cap _ hid hn hc).mono ?_
    rintro r h' ⟨rfl, rfl⟩
    exact ⟨rfl, by rw [cat_len encE_len, isort_len], cat_sca encE_sca _, .inr (.inr ⟨id, cap, junk, tot, rfl, hcap, hT, hid, rfl⟩)⟩


theorem E__vals1 {id c : Nat} {es : Ents} {fs : List En} {b00 : AHeap} (hid0 : b00 id = some (.map es c)) (hes : es.map (·.2.1) = fs.map fun x => .agg (encE x)) : SeqOf Try.prog 152 [.rp [.map id]] (fun x => .agg (encE x)) b00 fs := by
  intro l I b0 H st hs0 h0 hround
  have hid := hs0 _ _ hid0
  obtain ⟨ps, rfl, rfl, hps⟩ := ents_zip hes
  generalize hk : (fun p : Ent × En => p.1.2.2) = key
  (refine CallsA.enterR (ac := c152) (rs := r152) Try.func152 rfl (by decide) c152_ok r152_ok ?_; intro Q hQ; simp only [go_sem, Int.reduceEq, Int.reduceAdd, Int.reduceSub, Int.reduceMul, Nat.reduceLT, Int.reduceLT, Int.reduceLE, Int.reduceToNat, Nat.reduceAdd, Nat.reduceSub, Nat.reduceMul, Nat.reduceLeDiff, reduceCtorEq, c152, Try.ntmps152])
  refine ⟨_, c, st.keep h0 hid, fun rid hr => ?_⟩
  have hr0 := st.none h0 hr
  have hne : id ≠ rid := by rintro rfl; rw [hid] at hr0; cases hr0
  refine loop_st d152_0 (fun x : Array Nat × List En => ps.length - x.2.length) (fun _ s => s) (fun x H => ∃ b, Sub b0 b ∧ b id = some (.map (ps.map (·.1)) c) ∧ b rid = some (.raw (.mapIter (some id) c x.1 c)) ∧ I b x.2 H ∧ ((seenL key x.1 ps).map (·.2)).Perm x.2) (#[], []) rfl
    ⟨upd b0 rid (.raw (.mapIter (some id) c #[] c)), Sub.upd2 (Sub.refl _) hr0, by rw [upd_ne hne]; exact hid, upd_same, st.more h0 hr, by rw [seen_empty]; exact List.Perm.refl _⟩ ?_
  rintro N ⟨seen, pre⟩ H1 ⟨b, hb1, hb2, hb3, hi, hp⟩ hN
  simp only at hb3 hi hp hN
  have hplen : pre.length = (seenL key seen ps).length := by rw [← hp.length_eq, List.length_map]
  simp only [go_sem, Int.reduceEq, Int.reduceAdd, Int.reduceSub, Int.reduceMul, Nat.reduceLT, Int.reduceLT, Int.reduceLE, Int.reduceToNat, Nat.reduceAdd, Nat.reduceSub, Nat.reduceMul, Nat.reduceLeDiff, reduceCtorEq, d152_0, st.keep hi hb3]
  refine ⟨_, c, st.keep hi hb2, rfl, rfl, fun hbo => ⟨fun e he hn => ?_, fun ha => ?_⟩⟩
  · have hnd : (ps.map key).Nodup := by
      subst hk
      have := hbo.1
      rw [List.map_map] at this
      exact this.imp (fun h => Nat.ne_of_lt h)
    obtain ⟨p, hpm, rfl⟩ := List.mem_map.1 he
    have hkp : key p = p.1.2.2 := by subst hk; rfl
    have hv := hps p hpm
    have hi2 := st.turn (o' := .raw (.mapIter (some id) c (seen.push p.1.2.2) c)) hi hb3
    have hpush := seen_push (key := key) hnd hpm (by rw [hkp]; exact hn)
    rw [hkp] at hpush
    have hpl := hpush.length_eq
    rw [List.length_append, List.length_cons, List.length_nil] at hpl
    have hsl := seen_len (key := key) (seen.push p.1.2.2) ps
    refine ⟨id, c, seen.push p.1.2.2, _, c, p.1, rfl, by rw [upd_ne hne]; exact st.keep hi hb2, he, by simp, fun _ q hq => ?_⟩
    have htk : List.take 5 (encE p.2) = encE p.2 := List.take_of_length_le (by rw [encE_len]; exact Nat.le_refl _)
    simp only [go_sem, Int.reduceEq, Int.reduceAdd, Int.reduceSub, Int.reduceMul, Nat.reduceLT, Int.reduceLT, Int.reduceLE, Int.reduceToNat, Nat.reduceAdd, Nat.reduceSub, Nat.reduceMul, Nat.reduceLeDiff, reduceCtorEq, hv, encE_len, encE_sca, del_none hq, Nat.le_refl, htk]
    refine ⟨_, hround _ pre p.2 _ (List.mem_map_of_mem hpm) (by rw [List.length_map]; omega) hi2, fun H' hi3 => ?_⟩
    refine hN (seen.push p.1.2.2, pre ++ [p.2]) _ _ (by simp only [List.length_append, List.length_cons, List.length_nil]; omega) ?_ ⟨_, fun x o e => ?_, by rw [upd_ne hne]; exact hb2, upd_same, hi3, ?_⟩
    · simp only [go_sem, Int.reduceEq, Int.reduceAdd, Int.reduceSub, Int.reduceMul, Nat.reduceLT, Int.reduceLT, Int.reduceLE, Int.reduceToNat, Nat.reduceAdd, Nat.reduceSub, Nat.reduceMul, Nat.reduceLeDiff, reduceCtorEq, d152_0]
    · have : x ≠ rid := by rintro rfl; rw [hr0] at e; cases e
      rw [upd_ne this]; exact hb1 x o e
    · refine (hpush.map (·.2)).trans ?_
      rw [List.map_append]
      exact hp.append (List.Perm.refl _)
  · have hall : seenL key seen ps = ps := seen_all fun p hpm => by subst hk; exact ha _ (List.mem_map_of_mem hpm)
    rw [hall] at hp
    refine frz_id ?_
    refine hQ _ _ _ _ _ _ (.inl rfl) rfl (FzH.refl _) (FzL.refl _ _ _) ⟨b, pre, hb1, hp.symm, hi⟩

theorem E__app {g : FuncId} {caps : List AV} {fs : List En} {h : AHeap} (hs : SeqOf Try.prog g caps (fun x => .agg (encE x)) h fs) (hn : fs.length ≤ 1000000) :
    CallsA Try.prog 177 [.nils, .fn g caps] h (fun r H => ∃ pre, pre.Perm fs ∧ Grow h 5 r (cat encE pre) pre.length H ∧ Wr r) := by
  (refine CallsA.enterR (ac := c177) (rs := r177) Try.func177 rfl (by decide) c177_ok r177_ok ?_; intro Q hQ; simp only [go_sem, Int.reduceEq, Int.reduceAdd, Int.reduceSub, Int.reduceMul, Nat.reduceLT, Int.reduceLT, Int.reduceLE, Int.reduceToNat, Nat.reduceAdd, Nat.reduceSub, Nat.reduceMul, Nat.reduceLeDiff, reduceCtorEq, c177, Try.ntmps177])
  intro p hp
  unfold rangeA
  intro l m1 m2 hl hY
  have hpl : p ≠ l := by rintro rfl; rw [upd_same] at hl; cases hl
  have hl0 : h l = none := by rw [upd_ne hpl.symm] at hl; exact hl
  obtain ⟨S, hS⟩ : ∃ S : List AV, S = [.nils, .fn g caps, .ptr p 0, .undef, .nils, .undef, .fn g caps, .undef, .undef, .undef, .undef, .undef, .undef] := ⟨_, rfl⟩
  rw [← hS] at hY ⊢
  let I : AHeap → List En → AHeap → Prop := fun b pre H => ∃ v H2, Grow b 5 v (cat encE pre) pre.length H2 ∧ Wr v ∧ H2 p = none ∧ H2 l = none ∧ H = upd (upd H2 p (.cells [v] 1)) l (.lp S m1)
  have hst : Stands I := by
    refine ⟨?_, ?_, ?_⟩
    · rintro b a H x o ⟨v, H2, gr, _, n1, n2, rfl⟩ hx
      have k := gr.keep hx
      rw [upd_ne (by rintro rfl; rw [n2] at k; cases k), upd_ne (by rintro rfl; rw [n1] at k; cases k)]
      exact k
    · rintro b a H x o ⟨v, H2, gr, hw, n1, n2, rfl⟩ hx
      simp only [upd_none] at hx
      obtain ⟨x1, _, x3, _, x5⟩ := hx
      exact ⟨v, upd H2 x o, gr.more x5, hw, by rw [upd_ne (Ne.symm x3)]; exact n1, by rw [upd_ne (Ne.symm x1)]; exact n2, by rw [upd_comm x1.symm, upd_comm x3.symm]⟩
    · rintro b a H x o o' ⟨v, H2, gr, hw, n1, n2, rfl⟩ hx
      have k := gr.keep hx
      have x1 : x ≠ l := by rintro rfl; rw [n2] at k; cases k
      have x3 : x ≠ p := by rintro rfl; rw [n1] at k; cases k
      exact ⟨v, upd H2 x o', gr.poke hx, hw, by rw [upd_ne (Ne.symm x3)]; exact n1, by rw [upd_ne (Ne.symm x1)]; exact n2, by rw [upd_comm x1.symm, upd_comm x3.symm]⟩
  refine ((hs l I h _ hst (Sub.refl h) ⟨.nils, h, Grow.nil, Wr.nils, hp, hl0, rfl⟩ ?_).mono ?_).goB
  · rintro b pre x H hx hlen ⟨v, H2, gr, hw, n1, n2, rfl⟩
    refine hY [.agg (encE x)] _ _ rfl upd_same ?_
    have htk : List.take 5 (encE x) = encE x := List.take_of_length_le (by rw [encE_len]; exact Nat.le_refl _)
    have nl : ∀ o, upd H2 p o l = none := fun o => by rw [upd_ne hpl.symm]; exact n2
    have gp := (gr.more (o := .cells [v] 1) n1).more (o := .lp S m2) (nl _)
    have np : b p = none := gr.none n1
    have nbl : ∀ o, upd b p o l = none := fun o => by rw [upd_ne hpl.symm]; exact gr.none n2
    have fin : ∀ K : AV → AHeap → Prop, (∀ v' H', H' p = some (.cells [v] 1) → H' l = some (.lp S m2) → cellsOf v' = some [v'] → scalar v' = true → I b (pre ++ [x]) (upd (upd H' p (.cells [v'] 1)) l (.lp S m1)) → K v' H') →
        appendA (upd (upd H2 p (.cells [v] 1)) l (.lp S m2)) 5 40 v (.ro (encE x) 1 true) K := fun K hK => by
      refine gp.add1W (x := encE x) (encE_len x) (encE_sca x) (by omega) fun v' H' g' w' => ?_
      have hb := g'.box
      refine hK v' H' (g'.keep (by rw [upd_ne hpl]; exact upd_same)) (g'.keep upd_same) hb.1 hb.2 ?_
      obtain ⟨Ha, ga, a1, a2, a3⟩ := g'.unpoke (nbl _)
      obtain ⟨Hb, gb, b1, b2, b3⟩ := ga.unpoke np
      refine ⟨v', Hb, ?_, w', b1, b2.isNone a1, ?_⟩
      · rw [cat_append, List.length_append]
        simpa [cat] using gb
      · rw [upd_comm hpl, a3, upd_comm hpl.symm, b3]
    rw [hS]
    simp only [go_sem, Int.reduceEq, Int.reduceAdd, Int.reduceSub, Int.reduceMul, Nat.reduceLT, Int.reduceLT, Int.reduceLE, Int.reduceToNat, Nat.reduceAdd, Nat.reduceSub, Nat.reduceMul, Nat.reduceLeDiff, reduceCtorEq, encE_len, encE_sca, htk, Nat.le_refl]
    intro q hq
    rw [← hS, del_none (by rw [hS]; exact hq)]
    refine ⟨upd_same, ?_⟩
    simp only [go_sem, Int.reduceEq, Int.reduceAdd, Int.reduceSub, Int.reduceMul, Nat.reduceLT, Int.reduceLT, Int.reduceLE, Int.reduceToNat, Nat.reduceAdd, Nat.reduceSub, Nat.reduceMul, Nat.reduceLeDiff, reduceCtorEq, upd_ne hpl, htk, encE_len, Nat.le_refl]
    refine fin _ fun v' H' k1 k2 k3 k4 k5 => ?_
    simp only [go_sem, Int.reduceEq, Int.reduceAdd, Int.reduceSub, Int.reduceMul, Nat.reduceLT, Int.reduceLT, Int.reduceLE, Int.reduceToNat, Nat.reduceAdd, Nat.reduceSub, Nat.reduceMul, Nat.reduceLeDiff, reduceCtorEq, k1, k2, k3, k4, upd_ne hpl.symm]
    exact k5
  · rintro r H ⟨b, pre, hsub, hperm, v, H2, gr, hw, n1, n2, rfl⟩
    have nl : ∀ o, upd H2 p o l = none := fun o => by rw [upd_ne hpl.symm]; exact n2
    obtain ⟨H3, g3, s3⟩ := gr.rebase hsub
    refine ⟨upd_same, ?_⟩
    rw [hS]
    simp only [go_sem, Int.reduceEq, Int.reduceAdd, Int.reduceSub, Int.reduceMul, Nat.reduceLT, Int.reduceLT, Int.reduceLE, Int.reduceToNat, Nat.reduceAdd, Nat.reduceSub, Nat.reduceMul, Nat.reduceLeDiff, reduceCtorEq, del_same, del_none (nl _)]
    refine hQ _ _ _ _ _ _ (.inr rfl) rfl (FzH.sub (Sub.trans s3 (Sub.upd (Sub.refl _) n1))) (FzL.refl _ _ _) ⟨pre, hperm, g3, hw⟩

theorem E__coll {g : FuncId} {caps : List AV} {fs : List En} {h : AHeap} (hs : SeqOf Try.prog g caps (fun x => .agg (encE x)) h fs) (hn : fs.length ≤ 1000000) :
    CallsA Try.prog 150 [.fn g caps] h (fun r H => ∃ pre, pre.Perm fs ∧ Grow h 5 r (cat encE pre) pre.length H ∧ Wr r) := by
  (refine CallsA.enterR (ac := c150) (rs := r150) Try.func150 rfl (by decide) c150_ok r150_ok ?_; intro Q hQ; simp only [go_sem, Int.reduceEq, Int.reduceAdd, Int.reduceSub, Int.reduceMul, Nat.reduceLT, Int.reduceLT, Int.reduceLE, Int.reduceToNat, Nat.reduceAdd, Nat.reduceSub, Nat.reduceMul, Nat.reduceLeDiff, reduceCtorEq, c150, Try.ntmps150])
  refine (E__app hs hn).use ?_
  rintro r H hr
  simp only [go_sem, Int.reduceEq, Int.reduceAdd, Int.reduceSub, Int.reduceMul, Nat.reduceLT, Int.reduceLT, Int.reduceLE, Int.reduceToNat, Nat.reduceAdd, Nat.reduceSub, Nat.reduceMul, Nat.reduceLeDiff, reduceCtorEq]
  refine hQ _ _ _ _ _ _ (.inr rfl) rfl (FzH.refl _) (FzL.refl _ _ _) hr



theorem E__idxg (p : En → Bool) (l : List En) (v : AV) (h0 h : AHeap) (gr : Grow h0 5 v (cat encE l) l.length h) (f : FuncId) (caps : List AV) (hn : l.length ≤ 1000000) (hp : ∀ x ∈ l, PureA Try.prog f (.agg (encE x) ::  caps) h (.bool (p x))) :
    PureA Try.prog 176 [v, .fn f caps] h (.int .i64 (idxP p l)) := by
  have hlen := gr.len
  (refine PureA.enter (ac := c176) (rs := r176) Try.func176 rfl (by decide) c176_ok r176_ok ?_; intro Q hQ; simp only [go_sem, Int.reduceEq, Int.reduceAdd, Int.reduceSub, Int.reduceMul, Nat.reduceLT, Int.reduceLT, Int.reduceLE, Int.reduceToNat, Nat.reduceAdd, Nat.reduceSub, Nat.reduceMul, Nat.reduceLeDiff, reduceCtorEq, c176, Try.ntmps176, hlen])
  refine loop_range d176_0 (l.length) (fun k s => s.set 8 (.int .i64 k)) (fun k h' => ((l.take k).any p = false) ∧ h' = h) ?_ ⟨rfl, rfl⟩ ?_
  · (simp only [go_sem, Int.reduceEq, Int.reduceAdd, Int.reduceSub, Int.reduceMul, Nat.reduceLT, Int.reduceLT, Int.reduceLE, Int.reduceToNat, Nat.reduceAdd, Nat.reduceSub, Nat.reduceMul, Nat.reduceLeDiff, reduceCtorEq, d176_0] <;> rfl)
  rintro N k h' hk ⟨hall, rfl⟩ hN
  simp only [go_sem, Int.reduceEq, Int.reduceAdd, Int.reduceSub, Int.reduceMul, Nat.reduceLT, Int.reduceLT, Int.reduceLE, Int.reduceToNat, Nat.reduceAdd, Nat.reduceSub, Nat.reduceMul, Nat.reduceLeDiff, reduceCtorEq, d176_0]
  have hadd := wadd1 (k := k) (by omega)
  by_cases hlt : k < l.length
  · have ht := take_any hlt hall
    have hh := idx_hit hlt hall
    have hm := hp _ (List.getElem_mem hlt)
    simp only [go_sem, Int.reduceEq, Int.reduceAdd, Int.reduceSub, Int.reduceMul, Nat.reduceLT, Int.reduceLT, Int.reduceLE, Int.reduceToNat, Nat.reduceAdd, Nat.reduceSub, Nat.reduceMul, Nat.reduceLeDiff, reduceCtorEq, hlt, hadd]
    refine gr.rd hlt _ fun q _ hq => ?_
    rw [cat_at encE_len hlt, ← encE_len l[k], List.take_left, encE_len] at hq
    simp only [go_sem, Int.reduceEq, Int.reduceAdd, Int.reduceSub, Int.reduceMul, Nat.reduceLT, Int.reduceLT, Int.reduceLE, Int.reduceToNat, Nat.reduceAdd, Nat.reduceSub, Nat.reduceMul, Nat.reduceLeDiff, reduceCtorEq, hq]
    refine hm.use ?_
    repeat' (first | (intro _ hf_; (try simp only [upd_none] at hf_); (try simp only [go_sem, Int.reduceEq, Int.reduceAdd, Int.reduceSub, Int.reduceMul, Nat.reduceLT, Int.reduceLT, Int.reduceLE, Int.reduceToNat, Nat.reduceAdd, Nat.reduceSub, Nat.reduceMul, Nat.reduceLeDiff, reduceCtorEq, upd_ne, ne_eq, not_false_eq_true, *])) | (refine guard_split (fun hb_ => ?_) (fun hb_ => ?_) <;> (try simp only [decide_eq_true_eq, decide_eq_false_iff_not, Bool.not_eq_true', Bool.not_eq_false'] at hb_) <;> (try simp only [go_sem, Int.reduceEq, Int.reduceAdd, Int.reduceSub, Int.reduceMul, Nat.reduceLT, Int.reduceLT, Int.reduceLE, Int.reduceToNat, Nat.reduceAdd, Nat.reduceSub, Nat.reduceMul, Nat.reduceLeDiff, reduceCtorEq, upd_ne, ne_eq, not_false_eq_true, *])) | (refine cond_split (fun hb_ => ?_) (fun hb_ => ?_) <;> (try simp only [decide_eq_true_eq, decide_eq_false_iff_not, Bool.not_eq_true', Bool.not_eq_false'] at hb_) <;> (try simp only [go_sem, Int.reduceEq, Int.reduceAdd, Int.reduceSub, Int.reduceMul, Nat.reduceLT, Int.reduceLT, Int.reduceLE, Int.reduceToNat, Nat.reduceAdd, Nat.reduceSub, Nat.reduceMul, Nat.reduceLeDiff, reduceCtorEq, upd_ne, ne_eq, not_false_eq_true, *])) | (refine readG_split (fun hb_ => ?_) (fun hb_ => ?_) <;> (try simp only [decide_eq_true_eq, decide_eq_false_iff_not, Bool.not_eq_true', Bool.not_eq_false'] at hb_) <;> (try simp only [go_sem, Int.reduceEq, Int.reduceAdd, Int.reduceSub, Int.reduceMul, Nat.reduceLT, Int.reduceLT, Int.reduceLE, Int.reduceToNat, Nat.reduceAdd, Nat.reduceSub, Nat.reduceMul, Nat.reduceLeDiff, reduceCtorEq, upd_ne, ne_eq, not_false_eq_true, *])) | (refine frz_id ?_ <;> (try simp only [go_sem, Int.reduceEq, Int.reduceAdd, Int.reduceSub, Int.reduceMul, Nat.reduceLT, Int.reduceLT, Int.reduceLE, Int.reduceToNat, Nat.reduceAdd, Nat.reduceSub, Nat.reduceMul, Nat.reduceLeDiff, reduceCtorEq, upd_ne, ne_eq, not_false_eq_true, *])))
    · refine hQ _ _ _ _ _ (by first | exact .inr rfl | exact .inl rfl) rfl (by first | exact FzH.refl _ | exact FzH.sub (by (repeat' (first | exact Sub.refl _ | assumption | (refine Sub.upd ?_ (by first | assumption | (simp only [*]; done) | exact Sub.isNone (by assumption) (by assumption) | exact Sub.isNone (by assumption) (by simp only [*]))))))) (FzL.refl _ _ _) ?_
      simp only [go_sem, Int.reduceEq, Int.reduceAdd, Int.reduceSub, Int.reduceMul, Nat.reduceLT, Int.reduceLT, Int.reduceLE, Int.reduceToNat, Nat.reduceAdd, Nat.reduceSub, Nat.reduceMul, Nat.reduceLeDiff, reduceCtorEq, hh (by assumption)]
    · (refine hN _ _ hlt ?_ ⟨?_, rfl⟩; (simp only [go_sem, Int.reduceEq, Int.reduceAdd, Int.reduceSub, Int.reduceMul, Nat.reduceLT, Int.reduceLT, Int.reduceLE, Int.reduceToNat, Nat.reduceAdd, Nat.reduceSub, Nat.reduceMul, Nat.reduceLeDiff, reduceCtorEq, d176_0]))
      rw [ht]; assumption
  · (simp only [go_sem, Int.reduceEq, Int.reduceAdd, Int.reduceSub, Int.reduceMul, Nat.reduceLT, Int.reduceLT, Int.reduceLE, Int.reduceToNat, Nat.reduceAdd, Nat.reduceSub, Nat.reduceMul, Nat.reduceLeDiff, reduceCtorEq, hlt]; refine frz_id ?_; simp only [go_sem, Int.reduceEq, Int.reduceAdd, Int.reduceSub, Int.reduceMul, Nat.reduceLT, Int.reduceLT, Int.reduceLE, Int.reduceToNat, Nat.reduceAdd, Nat.reduceSub, Nat.reduceMul, Nat.reduceLeDiff, reduceCtorEq])
    refine hQ _ _ _ _ _ (by first | exact .inr rfl | exact .inl rfl) rfl (by first | exact FzH.refl _ | exact FzH.sub (by (repeat' (first | exact Sub.refl _ | assumption | (refine Sub.upd ?_ (by first | assumption | (simp only [*]; done) | exact Sub.isNone (by assumption) (by assumption) | exact Sub.isNone (by assumption) (by simp only [*]))))))) (FzL.refl _ _ _) ?_
    rw [List.take_of_length_le (by omega)] at hall
    simp only [go_sem, Int.reduceEq, Int.reduceAdd, Int.reduceSub, Int.reduceMul, Nat.reduceLT, Int.reduceLT, Int.reduceLE, Int.reduceToNat, Nat.reduceAdd, Nat.reduceSub, Nat.reduceMul, Nat.reduceLeDiff, reduceCtorEq, idx_none hall]

theorem E__del (p : En → Bool) (l : List En) (v : AV) (h0 H : AHeap) (gr : Grow h0 5 v (cat encE l) l.length H) (hw : Wr v) (f : FuncId) (caps : List AV) (hn : l.length ≤ 1000000) (hp : ∀ x ∈ l, ∀ H, Sub h0 H → PureA Try.prog f (.agg (encE x) :: caps) H (.bool (p x))) :
    CallsA Try.prog 147 [v, .fn f caps] H (fun r H' => Grow h0 5 r (cat encE (l.filter fun x => !p x)) (l.filter fun x => !p x).length H' ∧ Wr r) := by
  (refine CallsA.enterR (ac := c147) (rs := r147) Try.func147 rfl (by decide) c147_ok r147_ok ?_; intro Q hQ; simp only [go_sem, Int.reduceEq, Int.reduceAdd, Int.reduceSub, Int.reduceMul, Nat.reduceLT, Int.reduceLT, Int.reduceLE, Int.reduceToNat, Nat.reduceAdd, Nat.reduceSub, Nat.reduceMul, Nat.reduceLeDiff, reduceCtorEq, c147, Try.ntmps147])
  refine (E__idxg p l v h0 H gr f caps hn (fun x hx => hp x hx H gr.sub)).use ?_
  cases hany : l.any p
  · have hf : l.filter (fun x => !p x) = l := List.filter_eq_self.2 fun x hx => by
      have := List.any_eq_false.1 hany x hx; simpa using this
    simp only [go_sem, Int.reduceEq, Int.reduceAdd, Int.reduceSub, Int.reduceMul, Nat.reduceLT, Int.reduceLT, Int.reduceLE, Int.reduceToNat, Nat.reduceAdd, Nat.reduceSub, Nat.reduceMul, Nat.reduceLeDiff, reduceCtorEq, idx_none hany]
    refine hQ _ _ _ _ _ _ (.inr rfl) rfl (FzH.refl _) (FzL.refl _ _ _) ?_
    rw [hf]; exact ⟨gr, hw⟩
  rcases gr.how with ⟨rfl, hl, rfl⟩ | ⟨rfl, _⟩ | ⟨id, cap, junk, tot, rfl, hcap, hT, hid, rfl⟩
  · rw [List.length_eq_zero_iff] at hl; subst hl; simp at hany
  · exact absurd rfl (hw _ _ _)
  obtain ⟨i0, hi0, hpi, hbe⟩ : ∃ i0, ∃ h : i0 < l.length, p l[i0] = true ∧ (l.take i0).any p = false := by
    cases e : l.findIdx? p with
    | none =>
      have := List.findIdx?_eq_none_iff.1 e
      rw [List.any_eq_true] at hany
      obtain ⟨x, hx, hpx⟩ := hany
      rw [this x hx] at hpx; cases hpx
    | some i =>
      obtain ⟨h1, h2, h3⟩ := List.findIdx?_eq_some_iff_getElem.1 e
      refine ⟨i, h1, h2, List.any_eq_false.2 fun x hx => ?_⟩
      obtain ⟨j, hj, rfl⟩ := List.mem_iff_getElem.1 hx
      rw [List.length_take] at hj
      rw [List.getElem_take]
      exact h3 j (by omega)
  have hidx := idx_hit (p := p) hi0 hbe hpi
  have hne : decide ((i0 : Int) = -1) = false := decide_eq_false (by omega)
  have hadd0 := wadd1 (k := i0) (by omega)
  have hf0 : (l.take i0).filter (fun x => !p x) = l.take i0 := List.filter_eq_self.2 fun x hx => by
    have := List.any_eq_false.1 hbe x hx; simpa using this
  have hfi : (l.take (i0 + 1)).filter (fun y => !p y) = l.take i0 := by
    rw [List.take_succ_eq_append_getElem hi0, List.filter_append, hf0, List.filter_cons, hpi]
    simp
  have hfl : (l.take i0).length = i0 := by rw [List.length_take]; omega
  have hsub0 : ∀ cs, Sub h0 (upd h0 id (.cells cs tot)) := fun cs => upd_new hid
  simp only [go_sem, Int.reduceEq, Int.reduceAdd, Int.reduceSub, Int.reduceMul, Nat.reduceLT, Int.reduceLT, Int.reduceLE, Int.reduceToNat, Nat.reduceAdd, Nat.reduceSub, Nat.reduceMul, Nat.reduceLeDiff, reduceCtorEq, hidx, hne, hadd0]
  refine loop_st d147_0 (fun x : Nat => l.length - x) (fun x s => (s.set 5 (.int .i64 (((l.take x).filter (fun y => !p y)).length : Int))).set 6 (.int .i64 (x : Int)))
    (fun x H => x ≤ l.length ∧ ∃ M, M.length + ((l.take x).filter (fun y => !p y)).length = x ∧ 0 < M.length ∧ H = upd h0 id (.cells (cat encE ((l.take x).filter (fun y => !p y) ++ (M ++ l.drop x)) ++ junk) tot)) (i0 + 1) ?_ ⟨hi0, [l[i0]], ?_, by simp, ?_⟩ ?_
  · (simp only [go_sem, Int.reduceEq, Int.reduceAdd, Int.reduceSub, Int.reduceMul, Nat.reduceLT, Int.reduceLT, Int.reduceLE, Int.reduceToNat, Nat.reduceAdd, Nat.reduceSub, Nat.reduceMul, Nat.reduceLeDiff, reduceCtorEq, d147_0, hfi, hfl] <;> rfl)
  · rw [hfi, hfl, List.length_cons, List.length_nil]; omega
  · rw [hfi, List.cons_append, List.nil_append]
    rw [← List.drop_eq_getElem_cons hi0, List.take_append_drop]
  rintro N j H ⟨hj, M, hM, hM0, rfl⟩ hN
  simp only [go_sem, Int.reduceEq, Int.reduceAdd, Int.reduceSub, Int.reduceMul, Nat.reduceLT, Int.reduceLT, Int.reduceLE, Int.reduceToNat, Nat.reduceAdd, Nat.reduceSub, Nat.reduceMul, Nat.reduceLeDiff, reduceCtorEq, d147_0]
  generalize hA : (l.take j).filter (fun y => !p y) = A at *
  by_cases hlt : j < l.length
  · have hadd := wadd1 (k := j) (by omega)
    have htk := List.take_succ_eq_append_getElem hlt
    have hdr : l.drop j = l[j] :: l.drop (j + 1) := List.drop_eq_getElem_cons hlt
    have e1 : A ++ (M ++ l.drop j) = (A ++ M) ++ l[j] :: l.drop (j + 1) := by rw [hdr]; simp
    have hAM : (A ++ M).length = j := by rw [List.length_append]; omega
    have l1 := own_at (enc := encE) (h0 := h0) (id := id) (tot := tot) (junk := junk) encE_len (A := A ++ M) (B := l.drop (j + 1)) (x := l[j])
    rw [hAM] at l1
    have hm := hp _ (List.getElem_mem hlt)
    have htk5 : List.take 5 (encE l[j]) = encE l[j] := List.take_of_length_le (by rw [encE_len]; exact Nat.le_refl _)
    rw [e1]
    simp only [go_sem, Int.reduceEq, Int.reduceAdd, Int.reduceSub, Int.reduceMul, Nat.reduceLT, Int.reduceLT, Int.reduceLE, Int.reduceToNat, Nat.reduceAdd, Nat.reduceSub, Nat.reduceMul, Nat.reduceLeDiff, reduceCtorEq, hlt, l1, encE_len, encE_sca]
    intro q hq
    simp only [go_sem, Int.reduceEq, Int.reduceAdd, Int.reduceSub, Int.reduceMul, Nat.reduceLT, Int.reduceLT, Int.reduceLE, Int.reduceToNat, Nat.reduceAdd, Nat.reduceSub, Nat.reduceMul, Nat.reduceLeDiff, reduceCtorEq, del_same, del_none hq, encE_len, encE_sca, htk5, Nat.le_refl]
    refine (hm _ (hsub0 _)).use ?_
    cases hpj : p l[j]
    · obtain ⟨m, M', rfl⟩ : ∃ m M', M = m :: M' := by cases M with | nil => simp at hM0 | cons m M' => exact ⟨m, M', rfl⟩
      have e2 : (A ++ m :: M') ++ l[j] :: l.drop (j + 1) = A ++ m :: (M' ++ l[j] :: l.drop (j + 1)) := by simp
      have w1 := own_put (enc := encE) (h0 := h0) (id := id) (tot := tot) (junk := junk) encE_len (A := A) (B := M' ++ l[j] :: l.drop (j + 1)) (x := m) (y := l[j])
      have hAl : A.length < l.length := by simp at hM; omega
      have haddA := wadd1 (k := A.length) (by omega)
      rw [e2]
      simp only [go_sem, Int.reduceEq, Int.reduceAdd, Int.reduceSub, Int.reduceMul, Nat.reduceLT, Int.reduceLT, Int.reduceLE, Int.reduceToNat, Nat.reduceAdd, Nat.reduceSub, Nat.reduceMul, Nat.reduceLeDiff, reduceCtorEq, hAl, htk5, Nat.le_refl, w1, encE_len, encE_sca, haddA, hadd]
      have hA' : (l.take (j + 1)).filter (fun y => !p y) = A ++ [l[j]] := by rw [htk, List.filter_append, hA, List.filter_cons]; simp [hpj]
      refine hN (j + 1) _ _ (by omega) ?_ ⟨hlt, M' ++ [l[j]], ?_, by simp, ?_⟩
      · simp only [go_sem, Int.reduceEq, Int.reduceAdd, Int.reduceSub, Int.reduceMul, Nat.reduceLT, Int.reduceLT, Int.reduceLE, Int.reduceToNat, Nat.reduceAdd, Nat.reduceSub, Nat.reduceMul, Nat.reduceLeDiff, reduceCtorEq, d147_0, hA', List.length_append]
      · rw [hA']; simp at hM ⊢; omega
      · rw [hA']; simp
    · have hA' : (l.take (j + 1)).filter (fun y => !p y) = A := by rw [htk, List.filter_append, hA, List.filter_cons]; simp [hpj]
      simp only [go_sem, Int.reduceEq, Int.reduceAdd, Int.reduceSub, Int.reduceMul, Nat.reduceLT, Int.reduceLT, Int.reduceLE, Int.reduceToNat, Nat.reduceAdd, Nat.reduceSub, Nat.reduceMul, Nat.reduceLeDiff, reduceCtorEq, hadd]
      refine hN (j + 1) _ _ (by omega) ?_ ⟨hlt, M ++ [l[j]], ?_, by simp, ?_⟩
      · simp only [go_sem, Int.reduceEq, Int.reduceAdd, Int.reduceSub, Int.reduceMul, Nat.reduceLT, Int.reduceLT, Int.reduceLE, Int.reduceToNat, Nat.reduceAdd, Nat.reduceSub, Nat.reduceMul, Nat.reduceLeDiff, reduceCtorEq, d147_0, hA']
      · rw [hA']; simp; omega
      · rw [hA']; simp
  · have hjl : j = l.length := by omega
    subst hjl
    rw [List.take_length] at hA
    have hAl : A.length ≤ l.length := by omega
    have hAc : A.length ≤ cap := by omega
    have hMl : M.length = l.length - A.length := by omega
    simp only [go_sem, Int.reduceEq, Int.reduceAdd, Int.reduceSub, Int.reduceMul, Nat.reduceLT, Int.reduceLT, Int.reduceLE, Int.reduceToNat, Nat.reduceAdd, Nat.reduceSub, Nat.reduceMul, Nat.reduceLeDiff, reduceCtorEq, hlt]
    refine frz_id ?_
    rw [List.drop_length, List.append_nil]
    have hlt2 : A.length < l.length := by omega
    have s1 : sliceA 5 (.sl id 0 l.length cap) (some (.int .i64 (A.length : Int))) none none = some (.sl id (A.length * 5) M.length (cap - A.length)) := by
      have b1 : bnd (some (.int .i64 (A.length : Int))) l.length 0 = some A.length := by simp only [bnd]; rw [if_pos (by omega)]; simp
      have b2 : bnd none cap l.length = some l.length := rfl
      have b3 : bnd none cap cap = some cap := rfl
      simp only [sliceA, b1, b2, b3, Option.isSome_none, Bool.false_and, Bool.false_eq_true, if_false]
      rw [if_neg (by omega), ← hMl]; simp
    have s2 : sliceA 5 (.sl id 0 l.length cap) none (some (.int .i64 (A.length : Int))) none = some (.sl id 0 A.length cap) := by
      have b1 : bnd (some (.int .i64 (A.length : Int))) cap l.length = some A.length := by simp only [bnd]; rw [if_pos (by omega)]; simp
      have b2 : bnd none A.length 0 = some 0 := rfl
      have b3 : bnd none cap cap = some cap := rfl
      simp only [sliceA, b1, b2, b3, Option.isSome_none, Bool.false_and, Bool.false_eq_true, if_false]
      simp
    have hz : (zrep [.int .i64 0, .int .i64 0, .int .i64 0, .int .i64 0, .int .i64 0] M.length).length = M.length * 5 := by simp [zrep]
    have hzs : (zrep [.int .i64 0, .int .i64 0, .int .i64 0, .int .i64 0, .int .i64 0] M.length).all scalar = true := zrep_sca rfl _
    have hsp : splice (cat encE (A ++ M) ++ junk) (A.length * 5) (zrep [.int .i64 0, .int .i64 0, .int .i64 0, .int .i64 0, .int .i64 0] M.length) = cat encE A ++ (zrep [.int .i64 0, .int .i64 0, .int .i64 0, .int .i64 0, .int .i64 0] M.length ++ junk) := by
      have l1 := cat_len (enc := encE) encE_len A
      have l2 := cat_len (enc := encE) encE_len M
      unfold splice
      rw [hz]
      simp only [cat_append, List.append_assoc]
      rw [← l1, List.take_left, ← List.drop_drop, List.drop_left, ← l2, List.drop_left]
    simp only [go_sem, Int.reduceEq, Int.reduceAdd, Int.reduceSub, Int.reduceMul, Nat.reduceLT, Int.reduceLT, Int.reduceLE, Int.reduceToNat, Nat.reduceAdd, Nat.reduceSub, Nat.reduceMul, Nat.reduceLeDiff, reduceCtorEq, s1]
    refine ⟨_, _, upd_same, ?_, hzs, ?_⟩
    · rw [List.length_append, cat_len encE_len, List.length_append]
      show A.length * 5 + M.length * 5 ≤ _
      rw [Nat.add_mul]; omega
    rw [hsp, upd_upd]
    simp only [go_sem, Int.reduceEq, Int.reduceAdd, Int.reduceSub, Int.reduceMul, Nat.reduceLT, Int.reduceLT, Int.reduceLE, Int.reduceToNat, Nat.reduceAdd, Nat.reduceSub, Nat.reduceMul, Nat.reduceLeDiff, reduceCtorEq, s2]
    refine hQ _ _ _ _ _ _ (.inr rfl) rfl (FzH.refl _) (FzL.refl _ _ _) ⟨⟨cat_len encE_len _, cat_sca encE_sca _, .inr (.inr ⟨id, cap, zrep [.int .i64 0, .int .i64 0, .int .i64 0, .int .i64 0, .int .i64 0] M.length ++ junk, tot, ?_, ?_, hT, hid, ?_⟩)⟩, Wr.sl⟩
    · rw [hA]; rfl
    · rw [hA]; exact hAc
    · rw [hA]



end Go.Proofs.Ytaeppifdbcoipaa
