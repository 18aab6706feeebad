/-
  NeighborBest on abstract values.
-/
import Derived.Test.YtaeppifdbcoipaaNe
namespace Go.Proofs.Ytaeppifdbcoipaa
open Go E
set_option linter.unusedVariables false
set_option linter.unusedSimpArgs false
set_option maxRecDepth 100000

theorem cost_mod (x : Int) : IntKind.i64.wrap (128 + IntKind.i64.wrap (x % 18446744073709551616 % 65408)) = 128 + x % 18446744073709551616 % 65408 := by
  have e : IntKind.i64.wrap (x % 18446744073709551616 % 65408) = x % 18446744073709551616 % 65408 := w64 (by omega) (by omega)
  rw [e, w64 (by omega) (by omega)]

theorem nbest_spec (most : Int) (l : List Int) (h : AHeap) (hn : l.length ≤ 9223372036854775807) : PureA Try.prog 11 [.int .i64 most, .ro (cat i1 l) l.length false] h (.bool true) := by
  have e1 := umod_spec most 8 (by omega)
  have m1 : 0 ≤ most % 18446744073709551616 % 8 ∧ most % 18446744073709551616 % 8 < 8 := by omega
  (refine PureA.enter (ac := c11) (rs := r11) Try.func11 rfl (by decide) c11_ok r11_ok ?_; intro Q hQ; simp only [go_sem, Int.reduceEq, Int.reduceAdd, Int.reduceSub, Int.reduceMul, Nat.reduceLT, Int.reduceLT, Int.reduceLE, Int.reduceToNat, Nat.reduceAdd, Nat.reduceSub, Nat.reduceMul, Nat.reduceLeDiff, reduceCtorEq, c11, Try.ntmps11])
  generalize most % 18446744073709551616 % 8 = M at *
  have w1 : IntKind.i64.wrap M = M := w64 (by omega) (by omega)
  have w2 : IntKind.i64.wrap (1 + M) = 1 + M := w64 (by omega) (by omega)
  simp only [go_sem, Int.reduceEq, Int.reduceAdd, Int.reduceSub, Int.reduceMul, Nat.reduceLT, Int.reduceLT, Int.reduceLE, Int.reduceToNat, Nat.reduceAdd, Nat.reduceSub, Nat.reduceMul, Nat.reduceLeDiff, reduceCtorEq, e1, show ((8 : Int) == 0) = false from rfl, w1, w2]
  refine (nnew_spec (1 + M) (by omega) h).use ?_
  rintro _ H ⟨t, id, rfl, ht, hid, tb, hs⟩
  have hidt := tb.ne
  simp only [go_sem, Int.reduceEq, Int.reduceAdd, Int.reduceSub, Int.reduceMul, Nat.reduceLT, Int.reduceLT, Int.reduceLE, Int.reduceToNat, Nat.reduceAdd, Nat.reduceSub, Nat.reduceMul, Nat.reduceLeDiff, reduceCtorEq, show decide ((0 : Int) = 0) = true from rfl]
  refine loop_st d11_0 (fun x : Nat × List Int × Tb × AV => l.length - x.1) (fun x s => ((s.set 7 (.int .i64 (x.2.1.length : Int))).set 8 x.2.2.2).set 9 (.int .i64 (x.1 : Int)))
    (fun x H => x.1 ≤ l.length ∧ x.2.1.length ≤ 40 ∧ Best (1 + M) x.2.1 x.2.2.1 ∧ ∃ B, Grow B 1 x.2.2.2 (cat i1 x.2.1) x.2.1.length H ∧ TbIn t id (1 + M) [] x.2.2.1 B ∧ Sub h B) (0, [], [], .nils) ?_
    ⟨Nat.zero_le _, by simp, ⟨tbOk_nil, by simp; omega, by simp [vals], by simp [vals], by simp [vals], by simp [vals]⟩, H, Grow.nil, tb, hs⟩ ?_
  · (simp only [go_sem, Int.reduceEq, Int.reduceAdd, Int.reduceSub, Int.reduceMul, Nat.reduceLT, Int.reduceLT, Int.reduceLE, Int.reduceToNat, Nat.reduceAdd, Nat.reduceSub, Nat.reduceMul, Nat.reduceLeDiff, reduceCtorEq, d11_0] <;> rfl)
  rintro N ⟨k, all, f, v⟩ H3 ⟨hk, h40, best, B, gr, tbB, hsB⟩ hN
  simp only at hk h40 best gr tbB hN
  simp only [go_sem, Int.reduceEq, Int.reduceAdd, Int.reduceSub, Int.reduceMul, Nat.reduceLT, Int.reduceLT, Int.reduceLE, Int.reduceToNat, Nat.reduceAdd, Nat.reduceSub, Nat.reduceMul, Nat.reduceLeDiff, reduceCtorEq, d11_0]
  have hlen := best.len
  by_cases hgo : k < l.length ∧ (all.length : Int) < 40
  · obtain ⟨hlt, hlt4⟩ := hgo
    have hadd := wadd1 (k := k) (by omega)
    have e2 := umod_spec l[k] 65408 (by omega)
    have hc := cost_mod l[k]
    have hcr : 128 ≤ 128 + l[k] % 18446744073709551616 % 65408 ∧ 128 + l[k] % 18446744073709551616 % 65408 ≤ 65535 := by omega
    simp only [go_sem, Int.reduceEq, Int.reduceAdd, Int.reduceSub, Int.reduceMul, Nat.reduceLT, Int.reduceLT, Int.reduceLE, Int.reduceToNat, Nat.reduceAdd, Nat.reduceSub, Nat.reduceMul, Nat.reduceLeDiff, reduceCtorEq, hlt, hlt4, rdI hlt, e2, show ((65408 : Int) == 0) = false from rfl, hc]
    generalize 128 + l[k] % 18446744073709551616 % 65408 = c at *
    refine (rhas_spec all c v B H3 gr (by omega)).use ?_
    cases g : all.contains c
    · have hcn : c ∉ all := by simpa using g
      have hb := best_step (by omega) best hcn hcr (by omega)
      simp only [go_sem, Int.reduceEq, Int.reduceAdd, Int.reduceSub, Int.reduceMul, Nat.reduceLT, Int.reduceLT, Int.reduceLE, Int.reduceToNat, Nat.reduceAdd, Nat.reduceSub, Nat.reduceMul, Nat.reduceLeDiff, reduceCtorEq]
      refine (nput_spec (tbB.sub gr.sub) (by simp) (by omega) (by omega) ⟨all.length, 0, 0, c, 0⟩).use ?_
      rintro _ H4 ⟨rfl, es4, c4, hm4, rfl⟩
      obtain ⟨es0, c0, k1, k2⟩ := tbB.map
      have gr4 := gr.poke (o := .map es4 c4) k1
      simp only [go_sem, Int.reduceEq, Int.reduceAdd, Int.reduceSub, Int.reduceMul, Nat.reduceLT, Int.reduceLT, Int.reduceLE, Int.reduceToNat, Nat.reduceAdd, Nat.reduceSub, Nat.reduceMul, Nat.reduceLeDiff, reduceCtorEq]
      refine gr4.add1 (x := i1 c) rfl rfl (by omega) fun v5 H5 gr5 => ?_
      have hadd2 := wadd1 (k := all.length) (by omega)
      simp only [go_sem, Int.reduceEq, Int.reduceAdd, Int.reduceSub, Int.reduceMul, Nat.reduceLT, Int.reduceLT, Int.reduceLE, Int.reduceToNat, Nat.reduceAdd, Nat.reduceSub, Nat.reduceMul, Nat.reduceLeDiff, reduceCtorEq, hadd, hadd2]
      refine hN (k + 1, all ++ [c], _, v5) _ _ (by simp only; omega) ?_ ⟨hlt, by simp only [List.length_append, List.length_cons, List.length_nil]; omega, hb, upd B id (.map es4 c4), ?_, ?_, ?_⟩
      · simp only [go_sem, Int.reduceEq, Int.reduceAdd, Int.reduceSub, Int.reduceMul, Nat.reduceLT, Int.reduceLT, Int.reduceLE, Int.reduceToNat, Nat.reduceAdd, Nat.reduceSub, Nat.reduceMul, Nat.reduceLeDiff, reduceCtorEq, d11_0, List.length_append]
      · rw [cat_append, List.length_append]; simpa [cat] using gr5
      · exact ⟨by rw [upd_ne tbB.ne]; exact tbB.blk, ⟨es4, c4, upd_same, hm4⟩, hb.ok⟩
      · exact hsB.upd2 hid
    · simp only [go_sem, Int.reduceEq, Int.reduceAdd, Int.reduceSub, Int.reduceMul, Nat.reduceLT, Int.reduceLT, Int.reduceLE, Int.reduceToNat, Nat.reduceAdd, Nat.reduceSub, Nat.reduceMul, Nat.reduceLeDiff, reduceCtorEq, hadd]
      refine hN (k + 1, all, f, v) _ _ (by simp only; omega) ?_ ⟨hlt, h40, best, B, gr, tbB, hsB⟩
      simp only [go_sem, Int.reduceEq, Int.reduceAdd, Int.reduceSub, Int.reduceMul, Nat.reduceLT, Int.reduceLT, Int.reduceLE, Int.reduceToNat, Nat.reduceAdd, Nat.reduceSub, Nat.reduceMul, Nat.reduceLeDiff, reduceCtorEq, d11_0]
  · have hnot : ¬ k < l.length ∨ ¬ (all.length : Int) < 40 := by
      rcases Classical.em (k < l.length) with h1 | h1
      · exact .inr fun h2 => hgo ⟨h1, h2⟩
      · exact .inl h1
    have tbH := tbB.sub gr.sub
    have hzv := gr.fz
    by_cases hlt : k < l.length
    case' pos =>
      have h2 := hnot.resolve_left (fun h => h hlt)
      simp only [go_sem, Int.reduceEq, Int.reduceAdd, Int.reduceSub, Int.reduceMul, Nat.reduceLT, Int.reduceLT, Int.reduceLE, Int.reduceToNat, Nat.reduceAdd, Nat.reduceSub, Nat.reduceMul, Nat.reduceLeDiff, reduceCtorEq, hlt, h2]
    case' neg =>
      simp only [go_sem, Int.reduceEq, Int.reduceAdd, Int.reduceSub, Int.reduceMul, Nat.reduceLT, Int.reduceLT, Int.reduceLE, Int.reduceToNat, Nat.reduceAdd, Nat.reduceSub, Nat.reduceMul, Nat.reduceLeDiff, reduceCtorEq, hlt]
    all_goals
      refine frz_id ?_
      simp only [go_sem, Int.reduceEq, Int.reduceAdd, Int.reduceSub, Int.reduceMul, Nat.reduceLT, Int.reduceLT, Int.reduceLE, Int.reduceToNat, Nat.reduceAdd, Nat.reduceSub, Nat.reduceMul, Nat.reduceLeDiff, reduceCtorEq]
      refine (nall_spec tbH (by omega)).use ?_
      rintro r H4 ⟨gL, _⟩
      have hzr := Fz_mono (Sub.refl H4) gr.sub gL.fz
      have hzv4 := Fz_mono gL.sub (Sub.refl B) hzv
      have hal : (allN f).length = f.length := allN_len f
      rw [← hal] at hzr
      have hmin : (if (1 + M) < (all.length : Int) then (1 + M) else (all.length : Int)) = (f.length : Int) := by rw [hlen]; omega
      generalize hS : allN f = S at *
      simp only [go_sem, Int.reduceEq, Int.reduceAdd, Int.reduceSub, Int.reduceMul, Nat.reduceLT, Int.reduceLT, Int.reduceLE, Int.reduceToNat, Nat.reduceAdd, Nat.reduceSub, Nat.reduceMul, Nat.reduceLeDiff, reduceCtorEq]
      refine loop_zz d11_1 [(8, .ro (cat i1 all) all.length false), (11, .ro (cat encE S) S.length false)] (fun i : Nat => S.length - i) (fun i s => s.set 12 (.int .i64 (i : Int))) (fun i H => i ≤ S.length ∧ H = B) 0 B (FzH.sub (Sub.trans gr.sub gL.sub)) ?_ ⟨Nat.zero_le _, rfl⟩ ?_
      · simp only [go_sem, Int.reduceEq, Int.reduceAdd, Int.reduceSub, Int.reduceMul, Nat.reduceLT, Int.reduceLT, Int.reduceLE, Int.reduceToNat, Nat.reduceAdd, Nat.reduceSub, Nat.reduceMul, Nat.reduceLeDiff, reduceCtorEq, d11_1]
        repeat' (first | exact FzL.nil | exact hzv4 | exact hzr | exact Fz.refl _ | refine FzL.cons ?_ ?_)
      rintro N2 i H5 ⟨hi, rfl⟩ hN2
      simp only [go_sem, Int.reduceEq, Int.reduceAdd, Int.reduceSub, Int.reduceMul, Nat.reduceLT, Int.reduceLT, Int.reduceLE, Int.reduceToNat, Nat.reduceAdd, Nat.reduceSub, Nat.reduceMul, Nat.reduceLeDiff, reduceCtorEq, d11_1]
      by_cases hli : i < S.length
      · have haddi := wadd1 (k := i) (by omega)
        have hmemS : S[i] ∈ vals f := by rw [← mem_allN, hS]; exact List.getElem_mem hli
        have hlow := best.low _ hmemS
        simp only [go_sem, Int.reduceEq, Int.reduceAdd, Int.reduceSub, Int.reduceMul, Nat.reduceLT, Int.reduceLT, Int.reduceLE, Int.reduceToNat, Nat.reduceAdd, Nat.reduceSub, Nat.reduceMul, Nat.reduceLeDiff, reduceCtorEq, hli]
        refine loop_range d11_2 all.length (fun j s => (s.set 13 (.int .i64 (belowN (all.take j) S[i].cost : Int))).set 14 (.int .i64 (j : Int))) (fun j H => H = H5) ?_ rfl ?_
        · (simp only [go_sem, Int.reduceEq, Int.reduceAdd, Int.reduceSub, Int.reduceMul, Nat.reduceLT, Int.reduceLT, Int.reduceLE, Int.reduceToNat, Nat.reduceAdd, Nat.reduceSub, Nat.reduceMul, Nat.reduceLeDiff, reduceCtorEq, d11_2] <;> rfl)
        rintro N3 j H6 hj rfl hN3
        simp only [go_sem, Int.reduceEq, Int.reduceAdd, Int.reduceSub, Int.reduceMul, Nat.reduceLT, Int.reduceLT, Int.reduceLE, Int.reduceToNat, Nat.reduceAdd, Nat.reduceSub, Nat.reduceMul, Nat.reduceLeDiff, reduceCtorEq, d11_2]
        by_cases hlj : j < all.length
        · have haddj := wadd1 (k := j) (by omega)
          have r3 := rd_cell (h := H6) (off := 3) encE_len hli (by omega)
          simp only [encE, List.getElem?_cons_succ, List.getElem?_cons_zero] at r3
          have hsn := belowN_snoc (all.take j) all[j] S[i].cost
          rw [← List.take_succ_eq_append_getElem hlj] at hsn
          have hbl : belowN (all.take j) S[i].cost ≤ 40 := by
            have : belowN (all.take j) S[i].cost ≤ (all.take j).length := List.length_filter_le _ _
            rw [List.length_take] at this; omega
          have haddb := wadd1 (k := belowN (all.take j) S[i].cost) (by omega)
          by_cases hcc : all[j] < S[i].cost
          · rw [if_pos hcc] at hsn
            simp only [go_sem, Int.reduceEq, Int.reduceAdd, Int.reduceSub, Int.reduceMul, Nat.reduceLT, Int.reduceLT, Int.reduceLE, Int.reduceToNat, Nat.reduceAdd, Nat.reduceSub, Nat.reduceMul, Nat.reduceLeDiff, reduceCtorEq, hlj, hli, rdI hlj, r3, hcc, haddb, haddj]
            refine hN3 _ _ hlj ?_ rfl
            simp only [go_sem, Int.reduceEq, Int.reduceAdd, Int.reduceSub, Int.reduceMul, Nat.reduceLT, Int.reduceLT, Int.reduceLE, Int.reduceToNat, Nat.reduceAdd, Nat.reduceSub, Nat.reduceMul, Nat.reduceLeDiff, reduceCtorEq, d11_2, hsn]
          · rw [if_neg hcc] at hsn
            simp only [go_sem, Int.reduceEq, Int.reduceAdd, Int.reduceSub, Int.reduceMul, Nat.reduceLT, Int.reduceLT, Int.reduceLE, Int.reduceToNat, Nat.reduceAdd, Nat.reduceSub, Nat.reduceMul, Nat.reduceLeDiff, reduceCtorEq, hlj, hli, rdI hlj, r3, hcc, haddj]
            refine hN3 _ _ hlj ?_ rfl
            simp only [go_sem, Int.reduceEq, Int.reduceAdd, Int.reduceSub, Int.reduceMul, Nat.reduceLT, Int.reduceLT, Int.reduceLE, Int.reduceToNat, Nat.reduceAdd, Nat.reduceSub, Nat.reduceMul, Nat.reduceLeDiff, reduceCtorEq, d11_2, hsn]
        · have hjl : j = all.length := by omega
          subst hjl
          have hd : decide (1 + M ≤ (belowN all S[i].cost : Int)) = false := decide_eq_false (by omega)
          rw [List.take_length]
          simp only [go_sem, Int.reduceEq, Int.reduceAdd, Int.reduceSub, Int.reduceMul, Nat.reduceLT, Int.reduceLT, Int.reduceLE, Int.reduceToNat, Nat.reduceAdd, Nat.reduceSub, Nat.reduceMul, Nat.reduceLeDiff, reduceCtorEq, hlj]
          refine frz_id ?_
          simp only [go_sem, Int.reduceEq, Int.reduceAdd, Int.reduceSub, Int.reduceMul, Nat.reduceLT, Int.reduceLT, Int.reduceLE, Int.reduceToNat, Nat.reduceAdd, Nat.reduceSub, Nat.reduceMul, Nat.reduceLeDiff, reduceCtorEq, hd, haddi]
          refine hN2 (i + 1) _ _ (by omega) ?_ ⟨hli, rfl⟩
          simp only [go_sem, Int.reduceEq, Int.reduceAdd, Int.reduceSub, Int.reduceMul, Nat.reduceLT, Int.reduceLT, Int.reduceLE, Int.reduceToNat, Nat.reduceAdd, Nat.reduceSub, Nat.reduceMul, Nat.reduceLeDiff, reduceCtorEq, d11_1]
      · simp only [go_sem, Int.reduceEq, Int.reduceAdd, Int.reduceSub, Int.reduceMul, Nat.reduceLT, Int.reduceLT, Int.reduceLE, Int.reduceToNat, Nat.reduceAdd, Nat.reduceSub, Nat.reduceMul, Nat.reduceLeDiff, reduceCtorEq, hli]
        refine frz_id ?_
        refine (known14_spec _).use ?_
        simp only [go_sem, Int.reduceEq, Int.reduceAdd, Int.reduceSub, Int.reduceMul, Nat.reduceLT, Int.reduceLT, Int.reduceLE, Int.reduceToNat, Nat.reduceAdd, Nat.reduceSub, Nat.reduceMul, Nat.reduceLeDiff, reduceCtorEq, hal, hmin]
        refine hQ _ _ _ _ _ (.inr rfl) rfl (FzH.sub hsB) (FzL.refl _ _ _) rfl

theorem nbest_law (xs : List AV) (h : ArgsSh Try.prog 6 Try.f11.params.toList xs) : PureA Try.prog 11 xs emp (.bool true) := by
  rw [Try.params11] at h
  simp only [ArgsSh, ArgSh, Try.underlying33, Try.underlying3] at h
  obtain ⟨x, _, rfl, hx, z, _, rfl, hz, rfl⟩ := h
  rw [ShC] at hz
  simp only [Try.underlying33] at hz
  simp only [Try.underlying3, ShC] at hx
  obtain ⟨m, hm, _⟩ := hx
  cases hm
  obtain ⟨els, e, hl, hels⟩ := hz
  cases e
  obtain ⟨l, e1, e2, _⟩ := sh_list (enc := i1) (R := fun _ => True) (els := els) fun el hel => by
    have := (hels el hel).2
    rw [ShC] at this
    simp only [Try.underlying3] at this
    obtain ⟨a, rfl, _⟩ := this
    exact ⟨a, rfl, trivial⟩
  rw [e1, e2]
  exact nbest_spec m l emp (by have := maxLen_le; omega)

end Go.Proofs.Ytaeppifdbcoipaa
