/-
  Neighbours: a new table; the laws on abstract values.
-/
import Derived.Test.YtaeppifdbcoipaaNd
namespace Go.Proofs.Ytaeppifdbcoipaa
open Go E
set_option linter.unusedVariables false
set_option linter.unusedSimpArgs false
set_option maxRecDepth 100000

theorem nnew_spec (most : Int) (hm : 1 ≤ most ∧ most ≤ 8) (h : AHeap) : CallsA Try.prog 51 [.int .i64 most] h (fun r H => ∃ t id, r = .tup [.ptr t 0, .int .i64 0] ∧ h t = none ∧ h id = none ∧ TbIn t id most [] [] H ∧ Sub h H) := by
  have g1 : ¬ most < 1 := by omega
  have g2 : ¬ 8 < most := by omega
  (refine CallsA.enterR (ac := c51) (rs := r51) Try.func51 rfl (by decide) c51_ok r51_ok ?_; intro Q hQ; simp only [go_sem, Int.reduceEq, Int.reduceAdd, Int.reduceSub, Int.reduceMul, Nat.reduceLT, Int.reduceLT, Int.reduceLE, Int.reduceToNat, Nat.reduceAdd, Nat.reduceSub, Nat.reduceMul, Nat.reduceLeDiff, reduceCtorEq, c51, Try.ntmps51])
  simp only [go_sem, Int.reduceEq, Int.reduceAdd, Int.reduceSub, Int.reduceMul, Nat.reduceLT, Int.reduceLT, Int.reduceLE, Int.reduceToNat, Nat.reduceAdd, Nat.reduceSub, Nat.reduceMul, Nat.reduceLeDiff, reduceCtorEq, g1, g2]
  intro id hid t ht
  have hne : t ≠ id := by rintro rfl; rw [upd_same] at ht; cases ht
  have ht0 : h t = none := by rw [upd_ne hne] at ht; exact ht
  refine hQ _ _ _ _ (upd (upd h id (.map [] 0)) t (.cells [.ro (cat i1 []) 0 false, .int .i64 most, .map id] 3)) _ (.inr rfl) rfl (fun x o' e => ?_) (FzL.refl _ _ _) ⟨t, id, rfl, ht0, hid, ⟨upd_same, ⟨[], 0, by rw [upd_ne hne.symm]; exact upd_same, MapIs_nil⟩, tbOk_nil⟩, ?_⟩
  · by_cases hx : x = t
    · subst hx
      rw [upd_same] at e
      cases e
      exact ⟨_, upd_same, .cells (.cons .nils (.cons (.refl _) (.cons (.refl _) .nil)))⟩
    · rw [upd_ne hx] at e
      exact ⟨o', by rw [upd_ne hx]; exact e, .refl _⟩
  · exact (Sub.refl h).upd2 hid |>.trans ((Sub.refl _).upd2 ht)

theorem E.Grow.fzd {h0 h k h' : AHeap} {esz n : Nat} {v : AV} {cs : List AV} (c : Grow h0 esz v cs n h) (hs : ∀ id o, h0 id = Option.none → h id = some o → k id = some o) (hn : ∀ id, h0 id = Option.none → h' id = Option.none) : Fz k h' v (.ro cs n false) := by
  have hsz := c.size
  rcases c.how with ⟨rfl, rfl, rfl⟩ | ⟨rfl, rfl⟩ | ⟨id, cap, junk, tot, rfl, hc, hT, hid, rfl⟩
  · have : cs = [] := by simpa using hsz
    subst this; exact .nils
  · exact .ro (FzL.refl _ _ _) (by simp)
  · refine .sl (cs := cs ++ junk) (tot := tot) cs.length (hs id _ hid upd_same) (hn id hid) (by simp) ?_ (by simp)
    simp only [List.drop_zero, List.take_left]
    exact FzL.refl _ _ _

theorem clone_own (b : Int) (bs : List Int) (ex : Bool) (h : AHeap) (hn : bs.length ≤ 100000) : CallsA Try.prog 119 [.ro (cat i1 (b :: bs)) (bs.length + 1) ex] h fun r h' => Grow h 1 r (cat i1 (b :: bs)) (bs.length + 1) h' := by
  (refine CallsA.enterR (ac := c119) (rs := r119) Try.func119 rfl (by decide) c119_ok r119_ok ?_; intro Q hQ; simp only [go_sem, Int.reduceEq, Int.reduceAdd, Int.reduceSub, Int.reduceMul, Nat.reduceLT, Int.reduceLT, Int.reduceLE, Int.reduceToNat, Nat.reduceAdd, Nat.reduceSub, Nat.reduceMul, Nat.reduceLeDiff, reduceCtorEq, c119, Try.ntmps119])
  refine (Grow.lit (by simp) (by simp)).addN (m := bs.length + 1) (by rw [cat_len i1_len]; simp) (cat_sca i1_sca _) (by simp; omega) fun v' h' g => ?_
  simp only [go_sem, Int.reduceEq, Int.reduceAdd, Int.reduceSub, Int.reduceMul, Nat.reduceLT, Int.reduceLT, Int.reduceLE, Int.reduceToNat, Nat.reduceAdd, Nat.reduceSub, Nat.reduceMul, Nat.reduceLeDiff, reduceCtorEq]
  exact hQ _ _ _ _ _ [_] (.inr rfl) rfl (.refl _) (.cons (.refl _) .nil) (by simpa [tupA] using g)

theorem nkeep_spec {t id : Nat} {most : Int} {kept : List Int} {f : Tb} {H : AHeap} (tb : TbIn t id most kept f H) (b : Int) (bs : List Int) (ex : Bool) (hn : bs.length ≤ 100000) :
    CallsA Try.prog 57 [.ptr t 0, .ro (cat i1 (b :: bs)) (bs.length + 1) ex] H (fun r H' => r = .tup [] ∧ H' = upd H t (.cells [.ro (cat i1 (b :: bs)) (b :: bs).length false, .int .i64 most, .map id] 3)) := by
  have kk : CallsA Try.prog 114 [.ptr t 0, .ro (cat i1 (b :: bs)) (bs.length + 1) ex] H (fun r H' => r = .tup [] ∧ H' = upd H t (.cells [.ro (cat i1 (b :: bs)) (b :: bs).length false, .int .i64 most, .map id] 3)) := by
    (refine CallsA.enterR (ac := c114) (rs := r114) Try.func114 rfl (by decide) c114_ok r114_ok ?_; intro Q hQ; simp only [go_sem, Int.reduceEq, Int.reduceAdd, Int.reduceSub, Int.reduceMul, Nat.reduceLT, Int.reduceLT, Int.reduceLE, Int.reduceToNat, Nat.reduceAdd, Nat.reduceSub, Nat.reduceMul, Nat.reduceLeDiff, reduceCtorEq, c114, Try.ntmps114])
    refine (clone_own b bs ex H hn).use ?_
    rintro r H1 gr
    have hb := gr.box
    simp only [go_sem, Int.reduceEq, Int.reduceAdd, Int.reduceSub, Int.reduceMul, Nat.reduceLT, Int.reduceLT, Int.reduceLE, Int.reduceToNat, Nat.reduceAdd, Nat.reduceSub, Nat.reduceMul, Nat.reduceLeDiff, reduceCtorEq, gr.keep tb.blk, hb.1, hb.2]
    refine hQ _ _ _ _ (upd H t (.cells [.ro (cat i1 (b :: bs)) (b :: bs).length false, .int .i64 most, .map id] 3)) _ (.inl rfl) rfl (fun x o' e => ?_) (FzL.refl _ _ _) ⟨rfl, rfl⟩
    by_cases hx : x = t
    · subst hx
      rw [upd_same] at e
      cases e
      refine ⟨_, upd_same, .cells (.cons (gr.fzd (fun y o h1 h2 => ?_) fun y h1 => ?_) (.cons (.refl _) (.cons (.refl _) .nil)))⟩
      · have hy : y ≠ x := fun e => by rw [e, tb.blk] at h1; cases h1
        rw [upd_ne hy]; exact h2
      · have hy : y ≠ x := fun e => by rw [e, tb.blk] at h1; cases h1
        rw [upd_ne hy]; exact h1
    · rw [upd_ne hx] at e
      exact ⟨o', by rw [upd_ne hx]; exact gr.keep e, .refl _⟩
  (refine CallsA.enterR (ac := c57) (rs := r57) Try.func57 rfl (by decide) c57_ok r57_ok ?_; intro Q hQ; simp only [go_sem, Int.reduceEq, Int.reduceAdd, Int.reduceSub, Int.reduceMul, Nat.reduceLT, Int.reduceLT, Int.reduceLE, Int.reduceToNat, Nat.reduceAdd, Nat.reduceSub, Nat.reduceMul, Nat.reduceLeDiff, reduceCtorEq, c57, Try.ntmps57])
  refine kk.use ?_
  rintro r H' ⟨rfl, rfl⟩
  simp only [go_sem, Int.reduceEq, Int.reduceAdd, Int.reduceSub, Int.reduceMul, Nat.reduceLT, Int.reduceLT, Int.reduceLE, Int.reduceToNat, Nat.reduceAdd, Nat.reduceSub, Nat.reduceMul, Nat.reduceLeDiff, reduceCtorEq]
  refine hQ _ _ _ _ _ _ (.inl rfl) rfl (FzH.refl _) (FzL.refl _ _ _) ⟨rfl, rfl⟩

theorem rhas_spec (l : List Int) (x : Int) (v : AV) (b h : AHeap) (gr : Grow b 1 v (cat i1 l) l.length h) (hn : l.length ≤ 1000000) : PureA Try.prog 52 [v, .int .i64 x] h (.bool (l.contains x)) := by
  have hlen := gr.len
  have rd : ∀ (k : Nat) (hk : k < l.length) (K : AV → AHeap → Prop), (∀ q, aload h q = some (.int .i64 l[k]) → K q h) → idxK 1 v (.int .i64 (k : Int)) K h := fun k hk K hK =>
    gr.rd hk _ fun q h1 h2 => by
      refine hK q ?_
      have h3 := cat_get0 (enc := i1) (esz := 1) i1_len (by omega) hk
      have h4 := h1 0 (by omega)
      simp only [Nat.add_zero, List.drop_zero] at h4
      rw [h3] at h4
      cases q <;> first | exact h4 | (simp [aloads] at h2)
  (refine PureA.enter (ac := c52) (rs := r52) Try.func52 rfl (by decide) c52_ok r52_ok ?_; intro Q hQ; simp only [go_sem, Int.reduceEq, Int.reduceAdd, Int.reduceSub, Int.reduceMul, Nat.reduceLT, Int.reduceLT, Int.reduceLE, Int.reduceToNat, Nat.reduceAdd, Nat.reduceSub, Nat.reduceMul, Nat.reduceLeDiff, reduceCtorEq, c52, Try.ntmps52])
  refine loop_range d52_0 (l.length) (fun k s => s.set 5 (.int .i64 k)) (fun k h' => ((l.take k).any (fun y => decide (x = y)) = false) ∧ h' = h) ?_ ⟨rfl, rfl⟩ ?_
  · (simp only [go_sem, Int.reduceEq, Int.reduceAdd, Int.reduceSub, Int.reduceMul, Nat.reduceLT, Int.reduceLT, Int.reduceLE, Int.reduceToNat, Nat.reduceAdd, Nat.reduceSub, Nat.reduceMul, Nat.reduceLeDiff, reduceCtorEq, d52_0] <;> rfl)
  rintro N k h' hk ⟨hall, rfl⟩ hN
  simp only [go_sem, Int.reduceEq, Int.reduceAdd, Int.reduceSub, Int.reduceMul, Nat.reduceLT, Int.reduceLT, Int.reduceLE, Int.reduceToNat, Nat.reduceAdd, Nat.reduceSub, Nat.reduceMul, Nat.reduceLeDiff, reduceCtorEq, d52_0]
  have hadd := wadd1 (k := k) (by omega)
  by_cases hlt : k < l.length
  · have ht := take_any hlt hall
    simp only [go_sem, Int.reduceEq, Int.reduceAdd, Int.reduceSub, Int.reduceMul, Nat.reduceLT, Int.reduceLT, Int.reduceLE, Int.reduceToNat, Nat.reduceAdd, Nat.reduceSub, Nat.reduceMul, Nat.reduceLeDiff, reduceCtorEq, hlen, hlt, hadd]
    refine rd k hlt _ fun q hq => ?_
    simp only [go_sem, Int.reduceEq, Int.reduceAdd, Int.reduceSub, Int.reduceMul, Nat.reduceLT, Int.reduceLT, Int.reduceLE, Int.reduceToNat, Nat.reduceAdd, Nat.reduceSub, Nat.reduceMul, Nat.reduceLeDiff, reduceCtorEq, hq]
    cases e : decide (l[k] = x)
    · simp only [go_sem, Int.reduceEq, Int.reduceAdd, Int.reduceSub, Int.reduceMul, Nat.reduceLT, Int.reduceLT, Int.reduceLE, Int.reduceToNat, Nat.reduceAdd, Nat.reduceSub, Nat.reduceMul, Nat.reduceLeDiff, reduceCtorEq]
      (refine hN _ _ hlt ?_ ⟨?_, rfl⟩; (simp only [go_sem, Int.reduceEq, Int.reduceAdd, Int.reduceSub, Int.reduceMul, Nat.reduceLT, Int.reduceLT, Int.reduceLE, Int.reduceToNat, Nat.reduceAdd, Nat.reduceSub, Nat.reduceMul, Nat.reduceLeDiff, reduceCtorEq, d52_0, hadd]))
      rw [ht]
      exact decide_eq_false fun h => of_decide_eq_false e h.symm
    · simp only [go_sem, Int.reduceEq, Int.reduceAdd, Int.reduceSub, Int.reduceMul, Nat.reduceLT, Int.reduceLT, Int.reduceLE, Int.reduceToNat, Nat.reduceAdd, Nat.reduceSub, Nat.reduceMul, Nat.reduceLeDiff, reduceCtorEq]
      refine hQ _ _ _ _ _ (by first | exact .inr rfl | exact .inl rfl) rfl (by first | exact FzH.refl _ | exact FzH.sub (by (repeat' (first | exact Sub.refl _ | assumption | (refine Sub.upd ?_ (by first | assumption | (simp only [*]; done) | exact Sub.isNone (by assumption) (by assumption) | exact Sub.isNone (by assumption) (by simp only [*]))))))) (FzL.refl _ _ _) ?_
      rw [← any_contains, any_good hlt (decide_eq_true (of_decide_eq_true e).symm)]; rfl
  · (simp only [go_sem, Int.reduceEq, Int.reduceAdd, Int.reduceSub, Int.reduceMul, Nat.reduceLT, Int.reduceLT, Int.reduceLE, Int.reduceToNat, Nat.reduceAdd, Nat.reduceSub, Nat.reduceMul, Nat.reduceLeDiff, reduceCtorEq, hlen, hlt]; refine frz_id ?_; simp only [go_sem, Int.reduceEq, Int.reduceAdd, Int.reduceSub, Int.reduceMul, Nat.reduceLT, Int.reduceLT, Int.reduceLE, Int.reduceToNat, Nat.reduceAdd, Nat.reduceSub, Nat.reduceMul, Nat.reduceLeDiff, reduceCtorEq])
    refine hQ _ _ _ _ _ (by first | exact .inr rfl | exact .inl rfl) rfl (by first | exact FzH.refl _ | exact FzH.sub (by (repeat' (first | exact Sub.refl _ | assumption | (refine Sub.upd ?_ (by first | assumption | (simp only [*]; done) | exact Sub.isNone (by assumption) (by assumption) | exact Sub.isNone (by assumption) (by simp only [*]))))))) (FzL.refl _ _ _) ?_
    rw [List.take_of_length_le (by omega)] at hall
    rw [← any_contains, hall]; rfl

theorem TbTo.sub {id : Nat} {f' : Tb} {h H H' : AHeap} (hid : h id = none) (s : Sub h H) (hT : TbTo id f' H H') : Sub h H' := by
  obtain ⟨es', c', _, rfl⟩ := hT
  exact s.upd2 hid

theorem to14_spec (e : En) (h : AHeap) : PureA Try.prog 58 [.agg (encE e)] h (.agg (encE e)) := by
  (refine PureA.enter (ac := c58) (rs := r58) Try.func58 rfl (by decide) c58_ok r58_ok ?_; intro Q hQ; simp only [go_sem, Int.reduceEq, Int.reduceAdd, Int.reduceSub, Int.reduceMul, Nat.reduceLT, Int.reduceLT, Int.reduceLE, Int.reduceToNat, Nat.reduceAdd, Nat.reduceSub, Nat.reduceMul, Nat.reduceLeDiff, reduceCtorEq, c58, Try.ntmps58, encE])
  intro p hp
  simp only [go_sem, Int.reduceEq, Int.reduceAdd, Int.reduceSub, Int.reduceMul, Nat.reduceLT, Int.reduceLT, Int.reduceLE, Int.reduceToNat, Nat.reduceAdd, Nat.reduceSub, Nat.reduceMul, Nat.reduceLeDiff, reduceCtorEq, del_same, del_none hp]
  (refine hQ _ _ _ _ _ (by first | exact .inr rfl | exact .inl rfl) rfl (by first | exact FzH.refl _ | exact FzH.sub (by (repeat' (first | exact Sub.refl _ | assumption | (refine Sub.upd ?_ (by first | assumption | (simp only [*]; done) | exact Sub.isNone (by assumption) (by assumption) | exact Sub.isNone (by assumption) (by simp only [*]))))))) (FzL.refl _ _ _) ?_; try (simp only [go_sem, Int.reduceEq, Int.reduceAdd, Int.reduceSub, Int.reduceMul, Nat.reduceLT, Int.reduceLT, Int.reduceLE, Int.reduceToNat, Nat.reduceAdd, Nat.reduceSub, Nat.reduceMul, Nat.reduceLeDiff, reduceCtorEq, encE]))

theorem known14_spec (h : AHeap) : PureA Try.prog 55 [] h (.bool true) := by
  (refine PureA.enter (ac := c55) (rs := r55) Try.func55 rfl (by decide) c55_ok r55_ok ?_; intro Q hQ; simp only [go_sem, Int.reduceEq, Int.reduceAdd, Int.reduceSub, Int.reduceMul, Nat.reduceLT, Int.reduceLT, Int.reduceLE, Int.reduceToNat, Nat.reduceAdd, Nat.reduceSub, Nat.reduceMul, Nat.reduceLeDiff, reduceCtorEq, c55, Try.ntmps55])
  refine (nnew_spec 2 (by omega) h).use ?_
  rintro _ H ⟨t, id, rfl, ht, hid, tb, hs⟩
  simp only [go_sem, Int.reduceEq, Int.reduceAdd, Int.reduceSub, Int.reduceMul, Nat.reduceLT, Int.reduceLT, Int.reduceLE, Int.reduceToNat, Nat.reduceAdd, Nat.reduceSub, Nat.reduceMul, Nat.reduceLeDiff, reduceCtorEq]
  refine (nput_spec tb (by simp) (by omega) (by simp) ⟨1, 0, 0, 128, 0⟩).use ?_
  rintro _ H1 ⟨rfl, hT1⟩
  rw [show putN 2 [] [] ⟨1, 0, 0, 128, 0⟩ = ([(1, ⟨1, 0, 0, 128, 0⟩)], -1, 0) from rfl] at hT1 ⊢
  have tb1 := hT1.tb tb (by unfold tbOk AKeys; simp)
  simp only [go_sem, Int.reduceEq, Int.reduceAdd, Int.reduceSub, Int.reduceMul, Nat.reduceLT, Int.reduceLT, Int.reduceLE, Int.reduceToNat, Nat.reduceAdd, Nat.reduceSub, Nat.reduceMul, Nat.reduceLeDiff, reduceCtorEq]
  refine (nput_spec tb1 (by simp) (by omega) (by simp) ⟨2, 0, 0, 200, 0⟩).use ?_
  rintro _ H2 ⟨rfl, hT2⟩
  rw [show putN 2 [] [(1, ⟨1, 0, 0, 128, 0⟩)] ⟨2, 0, 0, 200, 0⟩ = ([(1, ⟨1, 0, 0, 128, 0⟩), (2, ⟨2, 0, 0, 200, 0⟩)], -1, 0) from rfl] at hT2 ⊢
  have tb2 := hT2.tb tb1 (by unfold tbOk AKeys; simp)
  simp only [go_sem, Int.reduceEq, Int.reduceAdd, Int.reduceSub, Int.reduceMul, Nat.reduceLT, Int.reduceLT, Int.reduceLE, Int.reduceToNat, Nat.reduceAdd, Nat.reduceSub, Nat.reduceMul, Nat.reduceLeDiff, reduceCtorEq]
  refine (nput_spec tb2 (by simp) (by omega) (by simp) ⟨3, 0, 0, 300, 0⟩).use ?_
  rintro _ H3 ⟨rfl, hT3⟩
  rw [show putN 2 [] [(1, ⟨1, 0, 0, 128, 0⟩), (2, ⟨2, 0, 0, 200, 0⟩)] ⟨3, 0, 0, 300, 0⟩ = ([(1, ⟨1, 0, 0, 128, 0⟩), (2, ⟨2, 0, 0, 200, 0⟩)], 0, 7) from rfl] at hT3 ⊢
  have tb3 := hT3.tb tb2 (by unfold tbOk AKeys; simp)
  simp only [go_sem, Int.reduceEq, Int.reduceAdd, Int.reduceSub, Int.reduceMul, Nat.reduceLT, Int.reduceLT, Int.reduceLE, Int.reduceToNat, Nat.reduceAdd, Nat.reduceSub, Nat.reduceMul, Nat.reduceLeDiff, reduceCtorEq]
  refine (nput_spec tb3 (by simp) (by omega) (by simp) ⟨4, 0, 0, 150, 0⟩).use ?_
  rintro _ H4 ⟨rfl, hT4⟩
  rw [show putN 2 [] [(1, ⟨1, 0, 0, 128, 0⟩), (2, ⟨2, 0, 0, 200, 0⟩)] ⟨4, 0, 0, 150, 0⟩ = ([(1, ⟨1, 0, 0, 128, 0⟩), (4, ⟨4, 0, 0, 150, 0⟩)], 2, 0) from rfl] at hT4 ⊢
  have hs4 := TbTo.sub hid (TbTo.sub hid (TbTo.sub hid (TbTo.sub hid hs hT1) hT2) hT3) hT4
  simp only [go_sem, Int.reduceEq, Int.reduceAdd, Int.reduceSub, Int.reduceMul, Nat.reduceLT, Int.reduceLT, Int.reduceLE, Int.reduceToNat, Nat.reduceAdd, Nat.reduceSub, Nat.reduceMul, Nat.reduceLeDiff, reduceCtorEq]
  refine hQ _ _ _ _ _ (.inr rfl) rfl (FzH.sub hs4) (FzL.refl _ _ _) rfl

/-! ### NeighborKeeps -/

theorem umod_spec (x n : Int) (hn : 0 < n) : (IntKind.u64.wrap x).tmod n = x % 18446744073709551616 % n := by
  rw [wu64]; exact Int.tmod_eq_emod_of_nonneg (Int.emod_nonneg _ (by omega))

theorem nkeeps_spec (most node : Int) (l : List En) (h : AHeap) (hn : l.length ≤ 9223372036854775807) : PureA Try.prog 13 [.int .i64 most, .int .i64 node, .ro (cat encE l) l.length false] h (.bool true) := by
  have e1 := umod_spec most 8 (by omega)
  have e2 := umod_spec node 64 (by omega)
  have m1 : 0 ≤ most % 18446744073709551616 % 8 ∧ most % 18446744073709551616 % 8 < 8 := by omega
  have m2 : 0 ≤ node % 18446744073709551616 % 64 ∧ node % 18446744073709551616 % 64 < 64 := by omega
  (refine PureA.enter (ac := c13) (rs := r13) Try.func13 rfl (by decide) c13_ok r13_ok ?_; intro Q hQ; simp only [go_sem, Int.reduceEq, Int.reduceAdd, Int.reduceSub, Int.reduceMul, Nat.reduceLT, Int.reduceLT, Int.reduceLE, Int.reduceToNat, Nat.reduceAdd, Nat.reduceSub, Nat.reduceMul, Nat.reduceLeDiff, reduceCtorEq, c13, Try.ntmps13])
  generalize most % 18446744073709551616 % 8 = M at *
  generalize node % 18446744073709551616 % 64 = Z at *
  have w1 : IntKind.i64.wrap M = M := w64 (by omega) (by omega)
  have w2 : IntKind.i64.wrap (1 + M) = 1 + M := w64 (by omega) (by omega)
  have w3 : IntKind.i64.wrap Z = Z := w64 (by omega) (by omega)
  simp only [go_sem, Int.reduceEq, Int.reduceAdd, Int.reduceSub, Int.reduceMul, Nat.reduceLT, Int.reduceLT, Int.reduceLE, Int.reduceToNat, Nat.reduceAdd, Nat.reduceSub, Nat.reduceMul, Nat.reduceLeDiff, reduceCtorEq, e1, e2, show ((8 : Int) == 0) = false from rfl, show ((64 : Int) == 0) = false from rfl, w1, w2, w3]
  refine (nnew_spec (1 + M) (by omega) h).use ?_
  rintro _ H ⟨t, id, rfl, ht, hid, tb, hs⟩
  simp only [go_sem, Int.reduceEq, Int.reduceAdd, Int.reduceSub, Int.reduceMul, Nat.reduceLT, Int.reduceLT, Int.reduceLE, Int.reduceToNat, Nat.reduceAdd, Nat.reduceSub, Nat.reduceMul, Nat.reduceLeDiff, reduceCtorEq]
  refine (nput_spec tb (by simp) (by omega) (by simp; omega) ⟨Z, 65535, 0, 65535, 0⟩).use ?_
  rintro _ H1 ⟨rfl, hT1⟩
  have hre : rightE ⟨Z, 65535, 0, 65535, 0⟩ = true := by rw [rightE_iff]; simp; omega
  have hP : putN (1 + M) [] [] ⟨Z, 65535, 0, 65535, 0⟩ = ([(Z, ⟨Z, 65535, 0, 65535, 0⟩)], -1, 0) := by
    unfold putN
    rw [if_neg (by rw [hre]; simp), if_pos (.inr (by simp; omega))]; rfl
  rw [hP] at hT1 ⊢
  have tb1 := hT1.tb tb (by unfold tbOk AKeys; simp)
  have hs1 := TbTo.sub hid hs hT1
  simp only [go_sem, Int.reduceEq, Int.reduceAdd, Int.reduceSub, Int.reduceMul, Nat.reduceLT, Int.reduceLT, Int.reduceLE, Int.reduceToNat, Nat.reduceAdd, Nat.reduceSub, Nat.reduceMul, Nat.reduceLeDiff, reduceCtorEq, show decide ((0 : Int) = 0) = true from rfl]
  refine (nkeep_spec tb1 Z [] true (by simp)).use ?_
  rintro _ H2 ⟨rfl, rfl⟩
  have hne := tb1.ne
  obtain ⟨es1, c1, k1, k2⟩ := tb1.map
  have tb2 : TbIn t id (1 + M) [Z] [(Z, ⟨Z, 65535, 0, 65535, 0⟩)] (upd H1 t (.cells [.ro (cat i1 [Z]) [Z].length false, .int .i64 (1 + M), .map id] 3)) :=
    ⟨upd_same, ⟨es1, c1, by rw [upd_ne hne.symm]; exact k1, k2⟩, tb1.ok⟩
  have hs2 := hs1.upd2 (o := .cells [.ro (cat i1 [Z]) [Z].length false, .int .i64 (1 + M), .map id] 3) ht
  simp only [go_sem, Int.reduceEq, Int.reduceAdd, Int.reduceSub, Int.reduceMul, Nat.reduceLT, Int.reduceLT, Int.reduceLE, Int.reduceToNat, Nat.reduceAdd, Nat.reduceSub, Nat.reduceMul, Nat.reduceLeDiff, reduceCtorEq]
  refine loop_st d13_0 (fun x : Nat × Tb => l.length - x.1) (fun x s => s.set 11 (.int .i64 (x.1 : Int))) (fun x H => x.1 ≤ l.length ∧ TbIn t id (1 + M) [Z] x.2 H ∧ (x.2.length : Int) ≤ 1 + M ∧ (alook x.2 Z).isSome = true ∧ Sub h H) (0, _) ?_ ⟨Nat.zero_le _, tb2, by simp; omega, by simp [alook_cons], hs2⟩ ?_
  · (simp only [go_sem, Int.reduceEq, Int.reduceAdd, Int.reduceSub, Int.reduceMul, Nat.reduceLT, Int.reduceLT, Int.reduceLE, Int.reduceToNat, Nat.reduceAdd, Nat.reduceSub, Nat.reduceMul, Nat.reduceLeDiff, reduceCtorEq, d13_0] <;> rfl)
  rintro N ⟨k, f⟩ H3 ⟨hk, tb3, hl3, hz3, hs3⟩ hN
  simp only at hk tb3 hl3 hz3 hN
  simp only [go_sem, Int.reduceEq, Int.reduceAdd, Int.reduceSub, Int.reduceMul, Nat.reduceLT, Int.reduceLT, Int.reduceLE, Int.reduceToNat, Nat.reduceAdd, Nat.reduceSub, Nat.reduceMul, Nat.reduceLeDiff, reduceCtorEq, d13_0]
  by_cases hlt : k < l.length
  · have hadd := wadd1 (k := k) (by omega)
    by_cases h60 : (k : Int) < 60
    · have rk := rd_all (h := H3) encE_len hlt
      simp only [go_sem, Int.reduceEq, Int.reduceAdd, Int.reduceSub, Int.reduceMul, Nat.reduceLT, Int.reduceLT, Int.reduceLE, Int.reduceToNat, Nat.reduceAdd, Nat.reduceSub, Nat.reduceMul, Nat.reduceLeDiff, reduceCtorEq, hlt, h60, rk]
      refine (to14_spec l[k] _).use ?_
      simp only [go_sem, Int.reduceEq, Int.reduceAdd, Int.reduceSub, Int.reduceMul, Nat.reduceLT, Int.reduceLT, Int.reduceLE, Int.reduceToNat, Nat.reduceAdd, Nat.reduceSub, Nat.reduceMul, Nat.reduceLeDiff, reduceCtorEq]
      refine (nput_spec tb3 (by simp) (by omega) hl3 l[k]).use ?_
      rintro _ H4 ⟨rfl, hT4⟩
      have ok4 := tbOk_put (most := 1 + M) (kept := [Z]) tb3.ok l[k]
      have tb4 := hT4.tb tb3 ok4
      have hl4 := put_len (most := 1 + M) (kept := [Z]) tb3.ok hl3 l[k]
      obtain ⟨hz4, hne4⟩ := put_keeps (most := 1 + M) (node := Z) tb3.ok hz3 (by omega) l[k]
      have hs4 := TbTo.sub hid hs3 hT4
      generalize putN (1 + M) [Z] f l[k] = p at *
      have hlen4 := (nlen_spec tb4)
      have hget4 := (nget_spec tb4 Z)
      rw [if_pos hz4] at hget4
      have hd : decide (1 + M < (p.1.length : Int)) = false := decide_eq_false (by omega)
      cases g7 : alook p.1 Z with
      | none => rw [g7] at hz4; cases hz4
      | some e7 =>
        rw [g7] at hget4
        cases e5 : decide (p.2.2 = 0)
        · simp only [go_sem, Int.reduceEq, Int.reduceAdd, Int.reduceSub, Int.reduceMul, Nat.reduceLT, Int.reduceLT, Int.reduceLE, Int.reduceToNat, Nat.reduceAdd, Nat.reduceSub, Nat.reduceMul, Nat.reduceLeDiff, reduceCtorEq, e5]
          refine hlen4.use ?_
          simp only [go_sem, Int.reduceEq, Int.reduceAdd, Int.reduceSub, Int.reduceMul, Nat.reduceLT, Int.reduceLT, Int.reduceLE, Int.reduceToNat, Nat.reduceAdd, Nat.reduceSub, Nat.reduceMul, Nat.reduceLeDiff, reduceCtorEq, hd]
          refine hget4.use ?_
          simp only [go_sem, Int.reduceEq, Int.reduceAdd, Int.reduceSub, Int.reduceMul, Nat.reduceLT, Int.reduceLT, Int.reduceLE, Int.reduceToNat, Nat.reduceAdd, Nat.reduceSub, Nat.reduceMul, Nat.reduceLeDiff, reduceCtorEq, show decide ((0 : Int) = 0) = true from rfl, encE_len, encE_sca]
          intro q hq
          simp only [go_sem, Int.reduceEq, Int.reduceAdd, Int.reduceSub, Int.reduceMul, Nat.reduceLT, Int.reduceLT, Int.reduceLE, Int.reduceToNat, Nat.reduceAdd, Nat.reduceSub, Nat.reduceMul, Nat.reduceLeDiff, reduceCtorEq, hadd, del_none hq]
          refine hN (k + 1, p.1) _ _ (by simp only; omega) ?_ ⟨hlt, tb4, hl4, by rw [g7]; rfl, hs4⟩
          simp only [go_sem, Int.reduceEq, Int.reduceAdd, Int.reduceSub, Int.reduceMul, Nat.reduceLT, Int.reduceLT, Int.reduceLE, Int.reduceToNat, Nat.reduceAdd, Nat.reduceSub, Nat.reduceMul, Nat.reduceLeDiff, reduceCtorEq, d13_0]
        · have e6 : decide (p.2.1 = Z) = false := decide_eq_false (hne4 (of_decide_eq_true e5))
          simp only [go_sem, Int.reduceEq, Int.reduceAdd, Int.reduceSub, Int.reduceMul, Nat.reduceLT, Int.reduceLT, Int.reduceLE, Int.reduceToNat, Nat.reduceAdd, Nat.reduceSub, Nat.reduceMul, Nat.reduceLeDiff, reduceCtorEq, e5, e6]
          refine hlen4.use ?_
          simp only [go_sem, Int.reduceEq, Int.reduceAdd, Int.reduceSub, Int.reduceMul, Nat.reduceLT, Int.reduceLT, Int.reduceLE, Int.reduceToNat, Nat.reduceAdd, Nat.reduceSub, Nat.reduceMul, Nat.reduceLeDiff, reduceCtorEq, hd]
          refine hget4.use ?_
          simp only [go_sem, Int.reduceEq, Int.reduceAdd, Int.reduceSub, Int.reduceMul, Nat.reduceLT, Int.reduceLT, Int.reduceLE, Int.reduceToNat, Nat.reduceAdd, Nat.reduceSub, Nat.reduceMul, Nat.reduceLeDiff, reduceCtorEq, show decide ((0 : Int) = 0) = true from rfl, encE_len, encE_sca]
          intro q hq
          simp only [go_sem, Int.reduceEq, Int.reduceAdd, Int.reduceSub, Int.reduceMul, Nat.reduceLT, Int.reduceLT, Int.reduceLE, Int.reduceToNat, Nat.reduceAdd, Nat.reduceSub, Nat.reduceMul, Nat.reduceLeDiff, reduceCtorEq, hadd, del_none hq]
          refine hN (k + 1, p.1) _ _ (by simp only; omega) ?_ ⟨hlt, tb4, hl4, by rw [g7]; rfl, hs4⟩
          simp only [go_sem, Int.reduceEq, Int.reduceAdd, Int.reduceSub, Int.reduceMul, Nat.reduceLT, Int.reduceLT, Int.reduceLE, Int.reduceToNat, Nat.reduceAdd, Nat.reduceSub, Nat.reduceMul, Nat.reduceLeDiff, reduceCtorEq, d13_0]
    · simp only [go_sem, Int.reduceEq, Int.reduceAdd, Int.reduceSub, Int.reduceMul, Nat.reduceLT, Int.reduceLT, Int.reduceLE, Int.reduceToNat, Nat.reduceAdd, Nat.reduceSub, Nat.reduceMul, Nat.reduceLeDiff, reduceCtorEq, hlt, h60]
      refine frz_id ?_
      refine (known14_spec _).use ?_
      simp only [go_sem, Int.reduceEq, Int.reduceAdd, Int.reduceSub, Int.reduceMul, Nat.reduceLT, Int.reduceLT, Int.reduceLE, Int.reduceToNat, Nat.reduceAdd, Nat.reduceSub, Nat.reduceMul, Nat.reduceLeDiff, reduceCtorEq]
      refine hQ _ _ _ _ _ (.inr rfl) rfl (FzH.sub hs3) (FzL.refl _ _ _) rfl
  · simp only [go_sem, Int.reduceEq, Int.reduceAdd, Int.reduceSub, Int.reduceMul, Nat.reduceLT, Int.reduceLT, Int.reduceLE, Int.reduceToNat, Nat.reduceAdd, Nat.reduceSub, Nat.reduceMul, Nat.reduceLeDiff, reduceCtorEq, hlt]
    refine frz_id ?_
    refine (known14_spec _).use ?_
    simp only [go_sem, Int.reduceEq, Int.reduceAdd, Int.reduceSub, Int.reduceMul, Nat.reduceLT, Int.reduceLT, Int.reduceLE, Int.reduceToNat, Nat.reduceAdd, Nat.reduceSub, Nat.reduceMul, Nat.reduceLeDiff, reduceCtorEq]
    refine hQ _ _ _ _ _ (.inr rfl) rfl (FzH.sub hs3) (FzL.refl _ _ _) rfl

theorem ens_sh {els : List (List AV)} (h : ∀ el ∈ els, el.length = 5 ∧ ShC Try.prog 5 109 el) : ∃ l : List En, els.flatten = cat encE l ∧ els.length = l.length := by
  obtain ⟨l, e1, e2, _⟩ := sh_list (enc := encE) (R := fun _ => True) (els := els) fun el hel => by
    have := (h el hel).2
    rw [ShC] at this
    simp only [Try.underlying109, ShFs, ShC, Try.underlying3] at this
    obtain ⟨_, _, rfl, _, ⟨a, rfl, _⟩, _, _, rfl, _, ⟨b, rfl, _⟩, _, _, rfl, _, ⟨c, rfl, _⟩, _, _, rfl, _, ⟨d, rfl, _⟩, _, _, rfl, _, ⟨e, rfl, _⟩, rfl⟩ := this
    exact ⟨⟨a, b, c, d, e⟩, rfl, trivial⟩
  exact ⟨l, e1, e2⟩

theorem nkeeps_law (xs : List AV) (h : ArgsSh Try.prog 6 Try.f13.params.toList xs) : PureA Try.prog 13 xs emp (.bool true) := by
  rw [Try.params13] at h
  simp only [ArgsSh, ArgSh, Try.underlying106, Try.underlying3] at h
  obtain ⟨x, _, rfl, hx, y, _, rfl, hy, z, _, rfl, hz, rfl⟩ := h
  rw [ShC] at hz
  simp only [Try.underlying106] at hz
  simp only [Try.underlying3, ShC] at hx hy
  obtain ⟨m, hm, _⟩ := hx
  cases hm
  obtain ⟨n, hn, _⟩ := hy
  cases hn
  obtain ⟨els, e, hl, hels⟩ := hz
  cases e
  obtain ⟨l, e1, e2⟩ := ens_sh (els := els) hels
  rw [e1, e2]
  exact nkeeps_spec m n l emp (by have := maxLen_le; omega)

end Go.Proofs.Ytaeppifdbcoipaa
