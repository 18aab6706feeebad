/-
  Parents: by the second code.
-/
import Derived.Test.YtaeppifdbcoipaaPb
namespace Go.Proofs.Ytaeppifdbcoipaa
open Go E
set_option linter.unusedVariables false
set_option linter.unusedSimpArgs false
set_option linter.unusedSectionVars false
set_option maxRecDepth 100000

def okH (p : Pol) (l : List Cd) : Bool := p.hf.good && rightL l && isLeast p.least
/-- Who is chosen by the second code. -/
def hCh (p : Pol) (now : Int) (l : List Cd) : Ch := match resL p.hf p.least now l with
  | [] => nobody
  | c0 :: r => ⟨c0.n, rkN p.hf p.least (c0 :: r), (c0 :: r).map (·.n)⟩

theorem physt_spec (p : Pol) (now : Int) (l : List Cd) (ex : Bool) (h : AHeap) (hn : l.length ≤ 12) :
    PureA Try.prog 126 [.agg p.av, .int .i64 now, .ro (cat encC l) l.length ex] h (.tup [(hCh p now l).av, .int .i64 (if okH p l then 0 else 1)]) := by
  (refine PureA.enter (ac := c126) (rs := r126) Try.func126 rfl (by decide) c126_ok r126_ok ?_; intro Q hQ; simp only [go_sem, w64, Int.cast_ofNat_Int, Int.reduceEq, Int.reduceAdd, Int.reduceSub, Int.reduceMul, Int.natCast_zero, Int.natCast_inj, Int.ofNat_lt, Int.ofNat_le, Int.natCast_nonneg, Int.toNat_natCast, Nat.mul_one, Nat.reduceLT, Int.reduceLT, Int.reduceLE, Int.reduceToNat, Nat.reduceAdd, Nat.reduceSub, Nat.reduceMul, Nat.reduceLeDiff, decide_true, decide_false, Bool.not_true, Bool.not_false, Bool.false_eq_true, if_true, if_false, true_and, and_true, and_self, reduceCtorEq, Bool.and_true, Bool.true_and, Bool.and_self, upd_upd, c126, Try.ntmps126, Pol.av])
  intro b hb
  refine (hall_spec p.hf p.least now l ex _ hn).use ?_
  cases g : p.hf.good && rightL l && isLeast p.least
  · have e : resL p.hf p.least now l = [] := by unfold resL; rw [g]; rfl
    have ez : hCh p now l = nobody := by unfold hCh; rw [e]
    simp only [go_sem, w64, Int.cast_ofNat_Int, Int.reduceEq, Int.reduceAdd, Int.reduceSub, Int.reduceMul, Int.natCast_zero, Int.natCast_inj, Int.ofNat_lt, Int.ofNat_le, Int.natCast_nonneg, Int.toNat_natCast, Nat.mul_one, Nat.reduceLT, Int.reduceLT, Int.reduceLE, Int.reduceToNat, Nat.reduceAdd, Nat.reduceSub, Nat.reduceMul, Nat.reduceLeDiff, decide_true, decide_false, Bool.not_true, Bool.not_false, Bool.false_eq_true, if_true, if_false, true_and, and_true, and_self, reduceCtorEq, Bool.and_true, Bool.true_and, Bool.and_self, upd_upd, show decide ((1 : Int) = 0) = false from rfl, show decide ((1 : Int) = 8) = false from rfl]
    refine (pnobody_spec _).use ?_
    simp only [go_sem, w64, Int.cast_ofNat_Int, Int.reduceEq, Int.reduceAdd, Int.reduceSub, Int.reduceMul, Int.natCast_zero, Int.natCast_inj, Int.ofNat_lt, Int.ofNat_le, Int.natCast_nonneg, Int.toNat_natCast, Nat.mul_one, Nat.reduceLT, Int.reduceLT, Int.reduceLE, Int.reduceToNat, Nat.reduceAdd, Nat.reduceSub, Nat.reduceMul, Nat.reduceLeDiff, decide_true, decide_false, Bool.not_true, Bool.not_false, Bool.false_eq_true, if_true, if_false, true_and, and_true, and_self, reduceCtorEq, Bool.and_true, Bool.true_and, Bool.and_self, upd_upd]
    refine hQ _ _ _ _ [nobody.av, .int .i64 1] (by first | exact .inr rfl | exact .inl rfl) (by first | rfl | (simp only [go_sem, w64, Int.cast_ofNat_Int, Int.reduceEq, Int.reduceAdd, Int.reduceSub, Int.reduceMul, Int.natCast_zero, Int.natCast_inj, Int.ofNat_lt, Int.ofNat_le, Int.natCast_nonneg, Int.toNat_natCast, Nat.mul_one, Nat.reduceLT, Int.reduceLT, Int.reduceLE, Int.reduceToNat, Nat.reduceAdd, Nat.reduceSub, Nat.reduceMul, Nat.reduceLeDiff, decide_true, decide_false, Bool.not_true, Bool.not_false, Bool.false_eq_true, if_true, if_false, true_and, and_true, and_self, reduceCtorEq, Bool.and_true, Bool.true_and, Bool.and_self, upd_upd, r126]; rfl) | simp only [go_sem, w64, Int.cast_ofNat_Int, Int.reduceEq, Int.reduceAdd, Int.reduceSub, Int.reduceMul, Int.natCast_zero, Int.natCast_inj, Int.ofNat_lt, Int.ofNat_le, Int.natCast_nonneg, Int.toNat_natCast, Nat.mul_one, Nat.reduceLT, Int.reduceLT, Int.reduceLE, Int.reduceToNat, Nat.reduceAdd, Nat.reduceSub, Nat.reduceMul, Nat.reduceLeDiff, decide_true, decide_false, Bool.not_true, Bool.not_false, Bool.false_eq_true, if_true, if_false, true_and, and_true, and_self, reduceCtorEq, Bool.and_true, Bool.true_and, Bool.and_self, upd_upd, r126]) (FzH.sub (by (repeat' (first | exact Sub.refl _ | assumption | (refine Sub.upd ?_ (by first | assumption | (simp only [*]; done) | exact Sub.isNone (by assumption) (by assumption) | exact Sub.isNone (by assumption) (by simp only [*]))))))) (.cons (.agg (.cons (.refl _) (.cons (.refl _) (.cons .nils .nil)))) (.cons (.refl _) .nil)) ?_
    rw [ez]; unfold okH; rw [g]; rfl
  have gg := g
  simp only [Bool.and_eq_true] at gg
  obtain ⟨⟨gf, gr⟩, gl⟩ := gg
  by_cases he : waysL p.hf l = []
  · have e : resL p.hf p.least now l = [] := by unfold resL; rw [g, if_pos he]; rfl
    have ez : hCh p now l = nobody := by unfold hCh; rw [e]
    simp only [go_sem, w64, Int.cast_ofNat_Int, Int.reduceEq, Int.reduceAdd, Int.reduceSub, Int.reduceMul, Int.natCast_zero, Int.natCast_inj, Int.ofNat_lt, Int.ofNat_le, Int.natCast_nonneg, Int.toNat_natCast, Nat.mul_one, Nat.reduceLT, Int.reduceLT, Int.reduceLE, Int.reduceToNat, Nat.reduceAdd, Nat.reduceSub, Nat.reduceMul, Nat.reduceLeDiff, decide_true, decide_false, Bool.not_true, Bool.not_false, Bool.false_eq_true, if_true, if_false, true_and, and_true, and_self, reduceCtorEq, Bool.and_true, Bool.true_and, Bool.and_self, upd_upd, he, show decide ((8 : Int) = 0) = false from rfl]
    refine (pnobody_spec _).use ?_
    simp only [go_sem, w64, Int.cast_ofNat_Int, Int.reduceEq, Int.reduceAdd, Int.reduceSub, Int.reduceMul, Int.natCast_zero, Int.natCast_inj, Int.ofNat_lt, Int.ofNat_le, Int.natCast_nonneg, Int.toNat_natCast, Nat.mul_one, Nat.reduceLT, Int.reduceLT, Int.reduceLE, Int.reduceToNat, Nat.reduceAdd, Nat.reduceSub, Nat.reduceMul, Nat.reduceLeDiff, decide_true, decide_false, Bool.not_true, Bool.not_false, Bool.false_eq_true, if_true, if_false, true_and, and_true, and_self, reduceCtorEq, Bool.and_true, Bool.true_and, Bool.and_self, upd_upd]
    refine hQ _ _ _ _ [nobody.av, .int .i64 0] (by first | exact .inr rfl | exact .inl rfl) (by first | rfl | (simp only [go_sem, w64, Int.cast_ofNat_Int, Int.reduceEq, Int.reduceAdd, Int.reduceSub, Int.reduceMul, Int.natCast_zero, Int.natCast_inj, Int.ofNat_lt, Int.ofNat_le, Int.natCast_nonneg, Int.toNat_natCast, Nat.mul_one, Nat.reduceLT, Int.reduceLT, Int.reduceLE, Int.reduceToNat, Nat.reduceAdd, Nat.reduceSub, Nat.reduceMul, Nat.reduceLeDiff, decide_true, decide_false, Bool.not_true, Bool.not_false, Bool.false_eq_true, if_true, if_false, true_and, and_true, and_self, reduceCtorEq, Bool.and_true, Bool.true_and, Bool.and_self, upd_upd, r126]; rfl) | simp only [go_sem, w64, Int.cast_ofNat_Int, Int.reduceEq, Int.reduceAdd, Int.reduceSub, Int.reduceMul, Int.natCast_zero, Int.natCast_inj, Int.ofNat_lt, Int.ofNat_le, Int.natCast_nonneg, Int.toNat_natCast, Nat.mul_one, Nat.reduceLT, Int.reduceLT, Int.reduceLE, Int.reduceToNat, Nat.reduceAdd, Nat.reduceSub, Nat.reduceMul, Nat.reduceLeDiff, decide_true, decide_false, Bool.not_true, Bool.not_false, Bool.false_eq_true, if_true, if_false, true_and, and_true, and_self, reduceCtorEq, Bool.and_true, Bool.true_and, Bool.and_self, upd_upd, r126]) (FzH.sub (by (repeat' (first | exact Sub.refl _ | assumption | (refine Sub.upd ?_ (by first | assumption | (simp only [*]; done) | exact Sub.isNone (by assumption) (by assumption) | exact Sub.isNone (by assumption) (by simp only [*]))))))) (.cons (.agg (.cons (.refl _) (.cons (.refl _) (.cons .nils .nil)))) (.cons (.refl _) .nil)) ?_
    rw [ez]; unfold okH; rw [g]; rfl
  have hres : resL p.hf p.least now l = allL p.hf p.least now l := by unfold resL; rw [g, if_neg he]; rfl
  have har := all_right gf gr gl he (now := now)
  have hinv := all_inv gf gr gl he (now := now)
  obtain ⟨⟨r, hr1, _, _⟩, _, hlen⟩ := hinv
  have hg := HF.good_iff.1 gf
  have hz : hCh p now l = ⟨(bestN p.hf now l).c.n, rkN p.hf p.least (allL p.hf p.least now l), (allL p.hf p.least now l).map (·.n)⟩ := by unfold hCh; rw [hres, hr1]
  rw [hres]
  generalize hq : allL p.hf p.least now l = q at *
  generalize hc0 : (bestN p.hf now l).c = c0 at *
  have hq1 : 1 ≤ q.length := by rw [hr1]; simp
  have hqne : q ≠ [] := fun e => by rw [e] at hq1; simp at hq1
  have hgq : (p.hf.good && rightL q && isLeast p.least) = true := by rw [gf, har, gl]; rfl
  have hhead : ∀ k, 0 < k → (if (q.take k).map (fun c : Cd => c.n) = [] then (-1 : Int) else c0.n) = c0.n := fun k hk => by
    rw [if_neg]; intro e; have := congrArg List.length e; simp at this; rcases this with h | h
    · omega
    · exact hqne h
  simp only [go_sem, w64, Int.cast_ofNat_Int, Int.reduceEq, Int.reduceAdd, Int.reduceSub, Int.reduceMul, Int.natCast_zero, Int.natCast_inj, Int.ofNat_lt, Int.ofNat_le, Int.natCast_nonneg, Int.toNat_natCast, Nat.mul_one, Nat.reduceLT, Int.reduceLT, Int.reduceLE, Int.reduceToNat, Nat.reduceAdd, Nat.reduceSub, Nat.reduceMul, Nat.reduceLeDiff, decide_true, decide_false, Bool.not_true, Bool.not_false, Bool.false_eq_true, if_true, if_false, true_and, and_true, and_self, reduceCtorEq, Bool.and_true, Bool.true_and, Bool.and_self, upd_upd, he]
  refine (pnobody_spec _).use ?_
  simp only [go_sem, w64, Int.cast_ofNat_Int, Int.reduceEq, Int.reduceAdd, Int.reduceSub, Int.reduceMul, Int.natCast_zero, Int.natCast_inj, Int.ofNat_lt, Int.ofNat_le, Int.natCast_nonneg, Int.toNat_natCast, Nat.mul_one, Nat.reduceLT, Int.reduceLT, Int.reduceLE, Int.reduceToNat, Nat.reduceAdd, Nat.reduceSub, Nat.reduceMul, Nat.reduceLeDiff, decide_true, decide_false, Bool.not_true, Bool.not_false, Bool.false_eq_true, if_true, if_false, true_and, and_true, and_self, reduceCtorEq, Bool.and_true, Bool.true_and, Bool.and_self, upd_upd]
  intro m hm
  refine loop_range d126_0 q.length (fun k s => s.set 36 (.int .i64 k)) (fun k H => MD (upd h b (.cells [.int .i64 0, .int .i64 0, .nils] 3)) m (if k = 0 then -1 else c0.n) 65535 ((q.take k).map (fun c : Cd => c.n)) H) ?_ ⟨hm, .nils, _, Grow.nil, hm, rfl⟩ ?_
  · (simp only [go_sem, w64, Int.cast_ofNat_Int, Int.reduceEq, Int.reduceAdd, Int.reduceSub, Int.reduceMul, Int.natCast_zero, Int.natCast_inj, Int.ofNat_lt, Int.ofNat_le, Int.natCast_nonneg, Int.toNat_natCast, Nat.mul_one, Nat.reduceLT, Int.reduceLT, Int.reduceLE, Int.reduceToNat, Nat.reduceAdd, Nat.reduceSub, Nat.reduceMul, Nat.reduceLeDiff, decide_true, decide_false, Bool.not_true, Bool.not_false, Bool.false_eq_true, if_true, if_false, true_and, and_true, and_self, reduceCtorEq, Bool.and_true, Bool.true_and, Bool.and_self, upd_upd, d126_0] <;> rfl)
  rintro N k H hk md hN
  simp only [go_sem, w64, Int.cast_ofNat_Int, Int.reduceEq, Int.reduceAdd, Int.reduceSub, Int.reduceMul, Int.natCast_zero, Int.natCast_inj, Int.ofNat_lt, Int.ofNat_le, Int.natCast_nonneg, Int.toNat_natCast, Nat.mul_one, Nat.reduceLT, Int.reduceLT, Int.reduceLE, Int.reduceToNat, Nat.reduceAdd, Nat.reduceSub, Nat.reduceMul, Nat.reduceLeDiff, decide_true, decide_false, Bool.not_true, Bool.not_false, Bool.false_eq_true, if_true, if_false, true_and, and_true, and_self, reduceCtorEq, Bool.and_true, Bool.true_and, Bool.and_self, upd_upd, d126_0]
  have hadd := wadd1 (k := k) (by omega)
  by_cases hlt : k < q.length
  · have rk := rd_all (h := H) encC_len hlt
    have htk := List.take_succ_eq_append_getElem hlt
    simp only [go_sem, w64, Int.cast_ofNat_Int, Int.reduceEq, Int.reduceAdd, Int.reduceSub, Int.reduceMul, Int.natCast_zero, Int.natCast_inj, Int.ofNat_lt, Int.ofNat_le, Int.natCast_nonneg, Int.toNat_natCast, Nat.mul_one, Nat.reduceLT, Int.reduceLT, Int.reduceLE, Int.reduceToNat, Nat.reduceAdd, Nat.reduceSub, Nat.reduceMul, Nat.reduceLeDiff, decide_true, decide_false, Bool.not_true, Bool.not_false, Bool.false_eq_true, if_true, if_false, true_and, and_true, and_self, reduceCtorEq, Bool.and_true, Bool.true_and, Bool.and_self, upd_upd, hlt, hadd, rk, encC_len, encC_sca]
    intro u hu
    simp only [go_sem, w64, Int.cast_ofNat_Int, Int.reduceEq, Int.reduceAdd, Int.reduceSub, Int.reduceMul, Int.natCast_zero, Int.natCast_inj, Int.ofNat_lt, Int.ofNat_le, Int.natCast_nonneg, Int.toNat_natCast, Nat.mul_one, Nat.reduceLT, Int.reduceLT, Int.reduceLE, Int.reduceToNat, Nat.reduceAdd, Nat.reduceSub, Nat.reduceMul, Nat.reduceLeDiff, decide_true, decide_false, Bool.not_true, Bool.not_false, Bool.false_eq_true, if_true, if_false, true_and, and_true, and_self, reduceCtorEq, Bool.and_true, Bool.true_and, Bool.and_self, upd_upd, del_none hu, encC]
    refine (mparent_spec md (by rw [List.length_map, List.length_take]; omega) q[k]).use ?_
    rintro _ H3 ⟨rfl, md2⟩
    simp only [go_sem, w64, Int.cast_ofNat_Int, Int.reduceEq, Int.reduceAdd, Int.reduceSub, Int.reduceMul, Int.natCast_zero, Int.natCast_inj, Int.ofNat_lt, Int.ofNat_le, Int.natCast_nonneg, Int.toNat_natCast, Nat.mul_one, Nat.reduceLT, Int.reduceLT, Int.reduceLE, Int.reduceToNat, Nat.reduceAdd, Nat.reduceSub, Nat.reduceMul, Nat.reduceLeDiff, decide_true, decide_false, Bool.not_true, Bool.not_false, Bool.false_eq_true, if_true, if_false, true_and, and_true, and_self, reduceCtorEq, Bool.and_true, Bool.true_and, Bool.and_self, upd_upd, hadd]
    refine hN _ _ hlt ?_ ?_
    · simp only [go_sem, w64, Int.cast_ofNat_Int, Int.reduceEq, Int.reduceAdd, Int.reduceSub, Int.reduceMul, Int.natCast_zero, Int.natCast_inj, Int.ofNat_lt, Int.ofNat_le, Int.natCast_nonneg, Int.toNat_natCast, Nat.mul_one, Nat.reduceLT, Int.reduceLT, Int.reduceLE, Int.reduceToNat, Nat.reduceAdd, Nat.reduceSub, Nat.reduceMul, Nat.reduceLeDiff, decide_true, decide_false, Bool.not_true, Bool.not_false, Bool.false_eq_true, if_true, if_false, true_and, and_true, and_self, reduceCtorEq, Bool.and_true, Bool.true_and, Bool.and_self, upd_upd, d126_0, encC]
    · rw [htk, List.map_append, if_neg (by omega)]
      by_cases hk0 : k = 0
      · subst hk0
        have : q[0].n = c0.n := by subst hr1; rfl
        simpa [this] using md2
      · rw [if_neg hk0, if_neg (fun x => by have := congrArg List.length x; rw [List.length_map, List.length_take, List.length_nil] at this; omega)] at md2
        exact md2
  · have hkl : k = q.length := by omega
    subst hkl
    rw [List.take_length, if_neg (by omega)] at md
    have hne' : b ≠ m := by rintro rfl; rw [upd_same] at hm; cases hm
    have hHb : ∀ X, upd H m X b = some (.cells [.int .i64 0, .int .i64 0, .nils] 3) := fun X => by rw [upd_ne hne']; exact md.keep upd_same
    obtain ⟨v, hat, _⟩ := md.at
    obtain ⟨hp2, v', K, gk, hmK, hHK⟩ := md
    have hvv : v' = v := by rw [hHK, upd_same] at hat; cases hat; rfl
    subst hvv
    have gp := gk.poke (o := .cells [.int .i64 c0.n, .int .i64 (rkN p.hf p.least q), v'] 3) (x := b) upd_same
    rw [upd_upd] at gp
    have hbx := gk.box
    simp only [go_sem, w64, Int.cast_ofNat_Int, Int.reduceEq, Int.reduceAdd, Int.reduceSub, Int.reduceMul, Int.natCast_zero, Int.natCast_inj, Int.ofNat_lt, Int.ofNat_le, Int.natCast_nonneg, Int.toNat_natCast, Nat.mul_one, Nat.reduceLT, Int.reduceLT, Int.reduceLE, Int.reduceToNat, Nat.reduceAdd, Nat.reduceSub, Nat.reduceMul, Nat.reduceLeDiff, decide_true, decide_false, Bool.not_true, Bool.not_false, Bool.false_eq_true, if_true, if_false, true_and, and_true, and_self, reduceCtorEq, Bool.and_true, Bool.true_and, Bool.and_self, upd_upd, hlt]
    refine frz_id ?_
    simp only [go_sem, w64, Int.cast_ofNat_Int, Int.reduceEq, Int.reduceAdd, Int.reduceSub, Int.reduceMul, Int.natCast_zero, Int.natCast_inj, Int.ofNat_lt, Int.ofNat_le, Int.natCast_nonneg, Int.toNat_natCast, Nat.mul_one, Nat.reduceLT, Int.reduceLT, Int.reduceLE, Int.reduceToNat, Nat.reduceAdd, Nat.reduceSub, Nat.reduceMul, Nat.reduceLeDiff, decide_true, decide_false, Bool.not_true, Bool.not_false, Bool.false_eq_true, if_true, if_false, true_and, and_true, and_self, reduceCtorEq, Bool.and_true, Bool.true_and, Bool.and_self, upd_upd]
    refine (hrank_spec p.hf p.least q _ _ (by omega)).use ?_
    simp only [go_sem, w64, Int.cast_ofNat_Int, Int.reduceEq, Int.reduceAdd, Int.reduceSub, Int.reduceMul, Int.natCast_zero, Int.natCast_inj, Int.ofNat_lt, Int.ofNat_le, Int.natCast_nonneg, Int.toNat_natCast, Nat.mul_one, Nat.reduceLT, Int.reduceLT, Int.reduceLE, Int.reduceToNat, Nat.reduceAdd, Nat.reduceSub, Nat.reduceMul, Nat.reduceLeDiff, decide_true, decide_false, Bool.not_true, Bool.not_false, Bool.false_eq_true, if_true, if_false, true_and, and_true, and_self, reduceCtorEq, Bool.and_true, Bool.true_and, Bool.and_self, upd_upd, hgq, hqne, hat, upd_same, hHb, hbx.2]
    have hH : ∀ C, upd H m C = upd K m C := fun C => by rw [hHK, upd_upd]
    have hz1 : Fz (upd (upd H m (.cells [.int .i64 c0.n, .int .i64 (rkN p.hf p.least q), v'] 3)) b (.cells [.int .i64 c0.n, .int .i64 (rkN p.hf p.least q), v'] 3)) h v' (.ro (cat i1 (q.map (fun c : Cd => c.n))) (q.map (fun c : Cd => c.n)).length false) := by
      rw [hH, upd_comm hne'.symm]
      refine Fz_mono (upd_new ?_) (upd_new hb) gp.fz
      rw [upd_ne hne'.symm]; exact hmK
    refine hQ _ _ _ _ [Ch.av ⟨c0.n, rkN p.hf p.least q, q.map (fun c : Cd => c.n)⟩, .int .i64 0] (by first | exact .inr rfl | exact .inl rfl) (by first | rfl | (simp only [go_sem, w64, Int.cast_ofNat_Int, Int.reduceEq, Int.reduceAdd, Int.reduceSub, Int.reduceMul, Int.natCast_zero, Int.natCast_inj, Int.ofNat_lt, Int.ofNat_le, Int.natCast_nonneg, Int.toNat_natCast, Nat.mul_one, Nat.reduceLT, Int.reduceLT, Int.reduceLE, Int.reduceToNat, Nat.reduceAdd, Nat.reduceSub, Nat.reduceMul, Nat.reduceLeDiff, decide_true, decide_false, Bool.not_true, Bool.not_false, Bool.false_eq_true, if_true, if_false, true_and, and_true, and_self, reduceCtorEq, Bool.and_true, Bool.true_and, Bool.and_self, upd_upd, r126]; rfl) | simp only [go_sem, w64, Int.cast_ofNat_Int, Int.reduceEq, Int.reduceAdd, Int.reduceSub, Int.reduceMul, Int.natCast_zero, Int.natCast_inj, Int.ofNat_lt, Int.ofNat_le, Int.natCast_nonneg, Int.toNat_natCast, Nat.mul_one, Nat.reduceLT, Int.reduceLT, Int.reduceLE, Int.reduceToNat, Nat.reduceAdd, Nat.reduceSub, Nat.reduceMul, Nat.reduceLeDiff, decide_true, decide_false, Bool.not_true, Bool.not_false, Bool.false_eq_true, if_true, if_false, true_and, and_true, and_self, reduceCtorEq, Bool.and_true, Bool.true_and, Bool.and_self, upd_upd, r126]) ?_ (.cons (.agg (.cons (.refl _) (.cons (.refl _) (.cons hz1 .nil)))) (.cons (.refl _) .nil)) ?_
    · refine FzH.sub fun x o hx => ?_
      have x1 : x ≠ b := by rintro rfl; rw [hb] at hx; cases hx
      have x2 : x ≠ m := by rintro rfl; rw [upd_ne x1] at hp2; rw [hp2] at hx; cases hx
      rw [upd_ne x1, upd_ne x2, hHK, upd_ne x2]
      exact gk.keep (by rw [upd_ne x1]; exact hx)
    · rw [hz]; unfold okH; rw [g]; rfl

end Go.Proofs.Ytaeppifdbcoipaa
