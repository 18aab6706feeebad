/-
  ParentsBehind.
-/
import Derived.Test.YtaeppifdbcoipaaPe
namespace Go.Proofs.Ytaeppifdbcoipaa
open Go E
set_option linter.unusedVariables false
set_option linter.unusedSimpArgs false
set_option linter.unusedSectionVars false
set_option maxRecDepth 100000

theorem chN_or (p : Pol) (now lowest : Int) (l : List Cd) : chN p now lowest l = nobody ∨ (chN p now lowest l = inCh p now l ∧ p.err = 0 ∧ rightL l = true ∧ inRank lowest = true ∧ (inCh p now l).rank ≠ 65535 ∧ (lowest = 65535 ∨ mayN (inCh p now l).rank lowest p.inc = true) ∧ chE p lowest l = 0) := by
  unfold chN chE
  split
  · exact .inl rfl
  · rename_i h1
    split
    · exact .inl rfl
    · rename_i h2
      simp only [not_or, Decidable.not_not, Bool.not_eq_false, Bool.and_eq_true] at h1
      simp only [not_or, not_and, Bool.not_eq_false] at h2
      refine .inr ⟨rfl, h1.1, h1.2.1, h1.2.2, h2.1, ?_, ?_⟩
      · by_cases e : lowest = 65535
        · exact .inl e
        · exact .inr (h2.2 e)
      · rw [if_neg (fun x => x h1.1), if_neg (by rw [h1.2.1, h1.2.2]; simp)]

theorem zAll_mem {by_ own : Int} {c0 : Cd} {l : List Cd} {x : Cd} (h : x ∈ zAll by_ own c0 l) : x = c0 ∨ (x ∈ l ∧ isBehind x.r own by_ = true) := by
  induction l using snoc_ind with
  | h0 => simp [zAll] at h; exact .inl h
  | h1 l c ih =>
    rw [zAll_snoc] at h
    unfold zStep at h
    split at h
    · rename_i hc
      rcases List.mem_append.1 h with h | h
      · rcases ih h with e | ⟨e1, e2⟩
        · exact .inl e
        · exact .inr ⟨List.mem_append_left _ e1, e2⟩
      · simp at h; subst h; exact .inr ⟨by simp, hc.1⟩
    · rcases ih h with e | ⟨e1, e2⟩
      · exact .inl e
      · exact .inr ⟨List.mem_append_left _ e1, e2⟩
theorem zAll_len7 (by_ own : Int) (c0 : Cd) (l : List Cd) : (zAll by_ own c0 l).length ≤ 7 := by
  induction l using snoc_ind with
  | h0 => simp [zAll]
  | h1 l c ih => rw [zAll_snoc]; unfold zStep; split <;> (try simp only [List.length_append, List.length_cons, List.length_nil]) <;> omega
theorem zAll_head (by_ own : Int) (c0 : Cd) (l : List Cd) : ∃ r, zAll by_ own c0 l = c0 :: r := by
  induction l using snoc_ind with
  | h0 => exact ⟨[], rfl⟩
  | h1 l c ih =>
    obtain ⟨r, e⟩ := ih
    rw [zAll_snoc, e]; unfold zStep; split
    · exact ⟨r ++ [c], rfl⟩
    · exact ⟨r, rfl⟩

theorem inc_ge {a b n by_ : Int} (ho : okInc a b n by_ = true) : min by_ 65535 ≤ incN a b n by_ := by
  obtain ⟨h1, h2, h3, _⟩ := inc_bd ho
  have e : 1 * by_ ≤ (a * stepN n + b) * by_ := Int.mul_le_mul_of_nonneg_right (by omega) (by omega)
  unfold incN; omega
theorem step_up {r own by_ : Int} (hb : 1 ≤ by_) (h : r + by_ ≤ own) : r / by_ < own / by_ := by
  have h3 := Int.ediv_le_ediv (show 0 < by_ by omega) h
  have h4 := Int.add_mul_ediv_right r 1 (show by_ ≠ 0 by omega)
  rw [Int.one_mul] at h4
  omega
theorem behind_step {r own by_ : Int} (h : isBehind r own by_ = true) : r / by_ < own / by_ := by
  simp only [isBehind, Bool.and_eq_true, decide_eq_true_eq] at h
  exact h.1.2

/-- What is so of one that was chosen. -/
structure ChOk (p : Pol) (l : List Cd) (c : Ch) : Prop where
  head : ∃ r, c.ps = c.pref :: r
  len : c.ps.length ≤ 8
  nn : 0 ≤ c.pref
  par : ∀ x ∈ c.ps, ∃ d ∈ l, d.n = x ∧ d.r / p.least < c.rank / p.least

theorem inCh_ok {p : Pol} {now : Int} {l : List Cd} (he : p.err = 0) (hr : rightL l = true) (hk : (inCh p now l).rank ≠ 65535) : ChOk p l (inCh p now l) := by
  obtain ⟨hl, _, hc⟩ := err0 he
  have hb : 1 ≤ p.least ∧ p.least ≤ 65535 := by simpa [isLeast] using hl
  rcases hc with ⟨hc, hf⟩ | ⟨hc, hf⟩
  · have hX : inCh p now l = zCh p now l := by unfold inCh; rw [if_neg (by omega)]
    rw [hX] at hk ⊢
    have hok : okOrd p.zf p.zs p.least l = true := by unfold okOrd; rw [hf, hr, hl]; rfl
    have hR : ordR p.zf p.zs p.least now l = ordL p.zf p.zs p.least now l := by unfold ordR; rw [if_pos hok]
    unfold zCh at hk ⊢
    rw [hR] at hk ⊢
    cases e : ordL p.zf p.zs p.least now l with
    | nil => rw [e] at hk; exact absurd rfl hk
    | cons c0 r =>
      rw [e] at hk
      simp only at hk ⊢
      have hmem : ∀ c ∈ c0 :: r, c ∈ l ∧ oneB c = true := fun c hc => by
        rw [← e] at hc
        obtain ⟨o, ho, rfl⟩ := List.mem_map.1 hc
        have := (mem_off (mem_isort.1 ho)).1
        exact ⟨this, List.all_eq_true.1 (rightL_one hr) _ this⟩
      obtain ⟨q, hq⟩ := zAll_head p.least (rankN p.zf p.zs p.least c0) c0 r
      have h0 := hmem c0 (by simp)
      have ho0 := oneB_iff.1 h0.2
      have hor := okRank_of hf hl h0.2
      have hself : c0.r / p.least < rankN p.zf p.zs p.least c0 / p.least := by
        refine step_up hb.1 ?_
        simp only [okRank, Bool.and_eq_true] at hor
        have := inc_ge hor.1
        unfold rankN at hk ⊢
        split at hk
        · exact absurd rfl hk
        · rename_i hne
          rw [if_neg hne]
          omega
      refine ⟨⟨q.map (·.n), by rw [hq]; rfl⟩, by rw [List.length_map]; have := zAll_len7 p.least (rankN p.zf p.zs p.least c0) c0 r; omega, ho0.1, fun x hx => ?_⟩
      obtain ⟨d, hd, rfl⟩ := List.mem_map.1 hx
      rcases zAll_mem hd with rfl | ⟨h1, h2⟩
      · exact ⟨_, h0.1, rfl, hself⟩
      · exact ⟨d, (hmem d (by simp [h1])).1, rfl, behind_step h2⟩
  · have hX : inCh p now l = hCh p now l := by unfold inCh; rw [if_pos hc]
    rw [hX] at hk ⊢
    unfold hCh at hk ⊢
    by_cases hw : waysL p.hf l = []
    · have e : resL p.hf p.least now l = [] := by unfold resL; rw [hf, hr, hl, if_pos hw]; rfl
      rw [e] at hk; exact absurd rfl hk
    · have e : resL p.hf p.least now l = allL p.hf p.least now l := by unfold resL; rw [hf, hr, hl, if_neg hw]; rfl
      rw [e] at hk ⊢
      have hin := all_inv hf hr hl hw (now := now)
      have h2 := rkN_range hf hl (rightL_one (all_right hf hr hl hw (now := now)))
      have hm := fun c => all_mem hf hr hl hw (now := now) (c := c)
      have ha := fun c => all_above hf hr hl hw (now := now) (c := c)
      have hg := HF.good_iff.1 hf
      have hlen := hin.len
      cases e2 : allL p.hf p.least now l with
      | nil => rw [e2] at hk; exact absurd rfl hk
      | cons c0 r =>
        rw [e2] at hk h2 hm ha hlen
        simp only at hk ⊢
        have h0 := hm c0 (by simp)
        have ho0 := oneB_iff.1 (List.all_eq_true.1 (rightL_one hr) _ h0)
        refine ⟨⟨r.map (·.n), rfl⟩, by rw [List.length_map]; omega, ho0.1, fun x hx => ?_⟩
        obtain ⟨d, hd, rfl⟩ := List.mem_map.1 hx
        exact ⟨d, hm d hd, rfl, ha d hd hk h2.2⟩

def fnd (x own by_ : Int) (l : List Cd) : Bool := l.foldl (fun b c => if c.n = x then decide (c.r / by_ < own / by_) else b) false
theorem fnd_snoc (x own by_ : Int) (l : List Cd) (c : Cd) : fnd x own by_ (l ++ [c]) = if c.n = x then decide (c.r / by_ < own / by_) else fnd x own by_ l := by simp [fnd]
theorem fnd_true {own by_ : Int} {l : List Cd} (hr : rightL l = true) {d : Cd} (hd : d ∈ l) (h : d.r / by_ < own / by_) : fnd d.n own by_ l = true := by
  have key : ∀ q : List Cd, (∀ c ∈ q, c ∈ l) → d ∈ q → fnd d.n own by_ q = true := by
    intro q hq hm
    induction q using snoc_ind with
    | h0 => cases hm
    | h1 q c ih =>
      rw [fnd_snoc]
      by_cases e : c.n = d.n
      · rw [uniq_n hr (hq c (by simp)) hd e, if_pos rfl]; exact decide_eq_true h
      · rw [if_neg e]
        refine ih (fun x hx => hq x (List.mem_append_left _ hx)) ?_
        rcases List.mem_append.1 hm with hm | hm
        · exact hm
        · simp at hm; subst hm; exact absurd rfl e
  exact key l (fun _ h => h) hd

theorem to17_spec (p : Pol) (h : AHeap) : PureA Try.prog 19 [.agg p.av] h (.agg p.av) := by
  (refine PureA.enter (ac := c19) (rs := r19) Try.func19 rfl (by decide) c19_ok r19_ok ?_; intro Q hQ; simp only [go_sem, w64, Int.cast_ofNat_Int, Int.reduceEq, Int.reduceAdd, Int.reduceSub, Int.reduceMul, Int.natCast_zero, Int.natCast_inj, Int.ofNat_lt, Int.ofNat_le, Int.natCast_nonneg, Int.toNat_natCast, Nat.mul_one, Nat.reduceLT, Int.reduceLT, Int.reduceLE, Int.reduceToNat, Nat.reduceAdd, Nat.reduceSub, Nat.reduceMul, Nat.reduceLeDiff, decide_true, decide_false, Bool.not_true, Bool.not_false, Bool.false_eq_true, if_true, if_false, true_and, and_true, and_self, reduceCtorEq, Bool.and_true, Bool.true_and, Bool.and_self, upd_upd, c19, Try.ntmps19, Pol.av])
  intro q hq
  refine (hto_spec p.hf _).use ?_
  simp only [go_sem, w64, Int.cast_ofNat_Int, Int.reduceEq, Int.reduceAdd, Int.reduceSub, Int.reduceMul, Int.natCast_zero, Int.natCast_inj, Int.ofNat_lt, Int.ofNat_le, Int.natCast_nonneg, Int.toNat_natCast, Nat.mul_one, Nat.reduceLT, Int.reduceLT, Int.reduceLE, Int.reduceToNat, Nat.reduceAdd, Nat.reduceSub, Nat.reduceMul, Nat.reduceLeDiff, decide_true, decide_false, Bool.not_true, Bool.not_false, Bool.false_eq_true, if_true, if_false, true_and, and_true, and_self, reduceCtorEq, Bool.and_true, Bool.true_and, Bool.and_self, upd_upd, HF.av, upd_same, del_same, del_none hq]
  (refine hQ _ _ _ _ _ (by first | exact .inr rfl | exact .inl rfl) rfl (by first | exact FzH.refl _ | exact FzH.sub (by (repeat' (first | exact Sub.refl _ | assumption | (refine Sub.upd ?_ (by first | assumption | (simp only [*]; done) | exact Sub.isNone (by assumption) (by assumption) | exact Sub.isNone (by assumption) (by simp only [*]))))))) (FzL.refl _ _ _) ?_; try (simp only [go_sem, w64, Int.cast_ofNat_Int, Int.reduceEq, Int.reduceAdd, Int.reduceSub, Int.reduceMul, Int.natCast_zero, Int.natCast_inj, Int.ofNat_lt, Int.ofNat_le, Int.natCast_nonneg, Int.toNat_natCast, Nat.mul_one, Nat.reduceLT, Int.reduceLT, Int.reduceLE, Int.reduceToNat, Nat.reduceAdd, Nat.reduceSub, Nat.reduceMul, Nat.reduceLeDiff, decide_true, decide_false, Bool.not_true, Bool.not_false, Bool.false_eq_true, if_true, if_false, true_and, and_true, and_self, reduceCtorEq, Bool.and_true, Bool.true_and, Bool.and_self, upd_upd, Pol.av]))

theorem pbehind_spec (p : Pol) (now lowest : Int) (l : List Cd) (h : AHeap) (hn : l.length ≤ 9223372036854775807) : PureA Try.prog 15 [.agg p.av, .int .i64 now, .int .i64 lowest, .ro (cat encC l) l.length false] h (.bool true) := by
  have h12 : (l.take 12).length ≤ 12 := by rw [List.length_take]; omega
  (refine PureA.enter (ac := c15) (rs := r15) Try.func15 rfl (by decide) c15_ok r15_ok ?_; intro Q hQ; simp only [go_sem, w64, Int.cast_ofNat_Int, Int.reduceEq, Int.reduceAdd, Int.reduceSub, Int.reduceMul, Int.natCast_zero, Int.natCast_inj, Int.ofNat_lt, Int.ofNat_le, Int.natCast_nonneg, Int.toNat_natCast, Nat.mul_one, Nat.reduceLT, Int.reduceLT, Int.reduceLE, Int.reduceToNat, Nat.reduceAdd, Nat.reduceSub, Nat.reduceMul, Nat.reduceLeDiff, decide_true, decide_false, Bool.not_true, Bool.not_false, Bool.false_eq_true, if_true, if_false, true_and, and_true, and_self, reduceCtorEq, Bool.and_true, Bool.true_and, Bool.and_self, upd_upd, c15, Try.ntmps15])
  refine (to15_spec l false _ hn).use ?_
  generalize hm : l.take 12 = m at *
  simp only [go_sem, w64, Int.cast_ofNat_Int, Int.reduceEq, Int.reduceAdd, Int.reduceSub, Int.reduceMul, Int.natCast_zero, Int.natCast_inj, Int.ofNat_lt, Int.ofNat_le, Int.natCast_nonneg, Int.toNat_natCast, Nat.mul_one, Nat.reduceLT, Int.reduceLT, Int.reduceLE, Int.reduceToNat, Nat.reduceAdd, Nat.reduceSub, Nat.reduceMul, Nat.reduceLeDiff, decide_true, decide_false, Bool.not_true, Bool.not_false, Bool.false_eq_true, if_true, if_false, true_and, and_true, and_self, reduceCtorEq, Bool.and_true, Bool.true_and, Bool.and_self, upd_upd, Pol.av]
  refine (to17_spec p _).use ?_
  simp only [go_sem, w64, Int.cast_ofNat_Int, Int.reduceEq, Int.reduceAdd, Int.reduceSub, Int.reduceMul, Int.natCast_zero, Int.natCast_inj, Int.ofNat_lt, Int.ofNat_le, Int.natCast_nonneg, Int.toNat_natCast, Nat.mul_one, Nat.reduceLT, Int.reduceLT, Int.reduceLE, Int.reduceToNat, Nat.reduceAdd, Nat.reduceSub, Nat.reduceMul, Nat.reduceLeDiff, decide_true, decide_false, Bool.not_true, Bool.not_false, Bool.false_eq_true, if_true, if_false, true_and, and_true, and_self, reduceCtorEq, Bool.and_true, Bool.true_and, Bool.and_self, upd_upd, Pol.av]
  refine (choose_spec p now lowest m _ _ h12).use ?_
  simp only [go_sem, w64, Int.cast_ofNat_Int, Int.reduceEq, Int.reduceAdd, Int.reduceSub, Int.reduceMul, Int.natCast_zero, Int.natCast_inj, Int.ofNat_lt, Int.ofNat_le, Int.natCast_nonneg, Int.toNat_natCast, Nat.mul_one, Nat.reduceLT, Int.reduceLT, Int.reduceLE, Int.reduceToNat, Nat.reduceAdd, Nat.reduceSub, Nat.reduceMul, Nat.reduceLeDiff, decide_true, decide_false, Bool.not_true, Bool.not_false, Bool.false_eq_true, if_true, if_false, true_and, and_true, and_self, reduceCtorEq, Bool.and_true, Bool.true_and, Bool.and_self, upd_upd, Ch.av]
  intro q hq
  simp only [go_sem, w64, Int.cast_ofNat_Int, Int.reduceEq, Int.reduceAdd, Int.reduceSub, Int.reduceMul, Int.natCast_zero, Int.natCast_inj, Int.ofNat_lt, Int.ofNat_le, Int.natCast_nonneg, Int.toNat_natCast, Nat.mul_one, Nat.reduceLT, Int.reduceLT, Int.reduceLE, Int.reduceToNat, Nat.reduceAdd, Nat.reduceSub, Nat.reduceMul, Nat.reduceLeDiff, decide_true, decide_false, Bool.not_true, Bool.not_false, Bool.false_eq_true, if_true, if_false, true_and, and_true, and_self, reduceCtorEq, Bool.and_true, Bool.true_and, Bool.and_self, upd_upd, del_same, del_none hq]
  rcases chN_or p now lowest m with hc | ⟨hc, he, hr, hlo, hk, hmay, hE⟩
  · rw [hc]
    cases e0 : decide (chE p lowest m = 0)
    · simp only [go_sem, w64, Int.cast_ofNat_Int, Int.reduceEq, Int.reduceAdd, Int.reduceSub, Int.reduceMul, Int.natCast_zero, Int.natCast_inj, Int.ofNat_lt, Int.ofNat_le, Int.natCast_nonneg, Int.toNat_natCast, Nat.mul_one, Nat.reduceLT, Int.reduceLT, Int.reduceLE, Int.reduceToNat, Nat.reduceAdd, Nat.reduceSub, Nat.reduceMul, Nat.reduceLeDiff, decide_true, decide_false, Bool.not_true, Bool.not_false, Bool.false_eq_true, if_true, if_false, true_and, and_true, and_self, reduceCtorEq, Bool.and_true, Bool.true_and, Bool.and_self, upd_upd, e0, nobody]
      refine (known17_spec _).use ?_
      simp only [go_sem, w64, Int.cast_ofNat_Int, Int.reduceEq, Int.reduceAdd, Int.reduceSub, Int.reduceMul, Int.natCast_zero, Int.natCast_inj, Int.ofNat_lt, Int.ofNat_le, Int.natCast_nonneg, Int.toNat_natCast, Nat.mul_one, Nat.reduceLT, Int.reduceLT, Int.reduceLE, Int.reduceToNat, Nat.reduceAdd, Nat.reduceSub, Nat.reduceMul, Nat.reduceLeDiff, decide_true, decide_false, Bool.not_true, Bool.not_false, Bool.false_eq_true, if_true, if_false, true_and, and_true, and_self, reduceCtorEq, Bool.and_true, Bool.true_and, Bool.and_self, upd_upd, List.length_nil]
      (refine hQ _ _ _ _ _ (by first | exact .inr rfl | exact .inl rfl) rfl (by first | exact FzH.refl _ | exact FzH.sub (by (repeat' (first | exact Sub.refl _ | assumption | (refine Sub.upd ?_ (by first | assumption | (simp only [*]; done) | exact Sub.isNone (by assumption) (by assumption) | exact Sub.isNone (by assumption) (by simp only [*]))))))) (FzL.refl _ _ _) ?_; try (simp only [go_sem, w64, Int.cast_ofNat_Int, Int.reduceEq, Int.reduceAdd, Int.reduceSub, Int.reduceMul, Int.natCast_zero, Int.natCast_inj, Int.ofNat_lt, Int.ofNat_le, Int.natCast_nonneg, Int.toNat_natCast, Nat.mul_one, Nat.reduceLT, Int.reduceLT, Int.reduceLE, Int.reduceToNat, Nat.reduceAdd, Nat.reduceSub, Nat.reduceMul, Nat.reduceLeDiff, decide_true, decide_false, Bool.not_true, Bool.not_false, Bool.false_eq_true, if_true, if_false, true_and, and_true, and_self, reduceCtorEq, Bool.and_true, Bool.true_and, Bool.and_self, upd_upd]))
    · simp only [go_sem, w64, Int.cast_ofNat_Int, Int.reduceEq, Int.reduceAdd, Int.reduceSub, Int.reduceMul, Int.natCast_zero, Int.natCast_inj, Int.ofNat_lt, Int.ofNat_le, Int.natCast_nonneg, Int.toNat_natCast, Nat.mul_one, Nat.reduceLT, Int.reduceLT, Int.reduceLE, Int.reduceToNat, Nat.reduceAdd, Nat.reduceSub, Nat.reduceMul, Nat.reduceLeDiff, decide_true, decide_false, Bool.not_true, Bool.not_false, Bool.false_eq_true, if_true, if_false, true_and, and_true, and_self, reduceCtorEq, Bool.and_true, Bool.true_and, Bool.and_self, upd_upd, e0, nobody]
      refine (known17_spec _).use ?_
      simp only [go_sem, w64, Int.cast_ofNat_Int, Int.reduceEq, Int.reduceAdd, Int.reduceSub, Int.reduceMul, Int.natCast_zero, Int.natCast_inj, Int.ofNat_lt, Int.ofNat_le, Int.natCast_nonneg, Int.toNat_natCast, Nat.mul_one, Nat.reduceLT, Int.reduceLT, Int.reduceLE, Int.reduceToNat, Nat.reduceAdd, Nat.reduceSub, Nat.reduceMul, Nat.reduceLeDiff, decide_true, decide_false, Bool.not_true, Bool.not_false, Bool.false_eq_true, if_true, if_false, true_and, and_true, and_self, reduceCtorEq, Bool.and_true, Bool.true_and, Bool.and_self, upd_upd, List.length_nil]
      (refine hQ _ _ _ _ _ (by first | exact .inr rfl | exact .inl rfl) rfl (by first | exact FzH.refl _ | exact FzH.sub (by (repeat' (first | exact Sub.refl _ | assumption | (refine Sub.upd ?_ (by first | assumption | (simp only [*]; done) | exact Sub.isNone (by assumption) (by assumption) | exact Sub.isNone (by assumption) (by simp only [*]))))))) (FzL.refl _ _ _) ?_; try (simp only [go_sem, w64, Int.cast_ofNat_Int, Int.reduceEq, Int.reduceAdd, Int.reduceSub, Int.reduceMul, Int.natCast_zero, Int.natCast_inj, Int.ofNat_lt, Int.ofNat_le, Int.natCast_nonneg, Int.toNat_natCast, Nat.mul_one, Nat.reduceLT, Int.reduceLT, Int.reduceLE, Int.reduceToNat, Nat.reduceAdd, Nat.reduceSub, Nat.reduceMul, Nat.reduceLeDiff, decide_true, decide_false, Bool.not_true, Bool.not_false, Bool.false_eq_true, if_true, if_false, true_and, and_true, and_self, reduceCtorEq, Bool.and_true, Bool.true_and, Bool.and_self, upd_upd]))
  rw [hc, hE]
  have hok := inCh_ok he hr hk
  have hir := inCh_range he hr (now := now)
  obtain ⟨gl, gi, _⟩ := err0 he
  generalize inCh p now m = c at *
  have hb : 1 ≤ p.least ∧ p.least ≤ 65535 := by simpa [isLeast] using gl
  have hi : 0 ≤ p.inc ∧ p.inc ≤ 65535 := by simpa [inRank] using gi
  have hlr : 0 ≤ lowest ∧ lowest ≤ 65535 := by simpa [inRank] using hlo
  have hrr : 0 ≤ c.rank ∧ c.rank ≤ 65535 := by simpa [inRank] using hir
  obtain ⟨⟨r, hps⟩, h8, hnn, hpar⟩ := hok
  have d0 : decide (c.pref < 0) = false := decide_eq_false (by omega)
  have hpos : 0 < c.ps.length := by rw [hps]; simp
  have d1 : decide ((c.ps.length : Int) < 1) = false := decide_eq_false (by omega)
  have d2 : decide ((8 : Int) < (c.ps.length : Int)) = false := decide_eq_false (by omega)
  have d3 : decide ((65535 : Int) ≤ c.rank) = false := decide_eq_false (by omega)
  have hpos' : (0 : Int) < (c.ps.length : Int) := by omega
  have hhd : (cat i1 c.ps).head? = some (.int .i64 c.pref) := by rw [hps]; rfl
  have hz : (p.least == 0) = false := by simp; omega
  have q2 : IntKind.i64.wrap (c.rank.tdiv p.least) = c.rank / p.least := by rw [Int.tdiv_eq_ediv_of_nonneg hrr.1]; exact w64 (by have := Int.ediv_nonneg hrr.1 (show 0 ≤ p.least by omega); omega) (by have := Int.ediv_le_self p.least hrr.1; omega)
  have hmax : IntKind.i64.wrap (lowest + p.inc) = lowest + p.inc := w64 (by omega) (by omega)
  simp only [go_sem, w64, Int.cast_ofNat_Int, Int.reduceEq, Int.reduceAdd, Int.reduceSub, Int.reduceMul, Int.natCast_zero, Int.natCast_inj, Int.ofNat_lt, Int.ofNat_le, Int.natCast_nonneg, Int.toNat_natCast, Nat.mul_one, Nat.reduceLT, Int.reduceLT, Int.reduceLE, Int.reduceToNat, Nat.reduceAdd, Nat.reduceSub, Nat.reduceMul, Nat.reduceLeDiff, decide_true, decide_false, Bool.not_true, Bool.not_false, Bool.false_eq_true, if_true, if_false, true_and, and_true, and_self, reduceCtorEq, Bool.and_true, Bool.true_and, Bool.and_self, upd_upd, d0, d1, d2, d3, hpos, hpos', hhd]
  generalize hP : c.ps = P at *
  refine loop_range d15_0 (P.length) (fun k s => s.set 12 (.int .i64 k)) (fun k h' => (True) ∧ h' = h) ?_ ⟨trivial, rfl⟩ ?_
  · (simp only [go_sem, w64, Int.cast_ofNat_Int, Int.reduceEq, Int.reduceAdd, Int.reduceSub, Int.reduceMul, Int.natCast_zero, Int.natCast_inj, Int.ofNat_lt, Int.ofNat_le, Int.natCast_nonneg, Int.toNat_natCast, Nat.mul_one, Nat.reduceLT, Int.reduceLT, Int.reduceLE, Int.reduceToNat, Nat.reduceAdd, Nat.reduceSub, Nat.reduceMul, Nat.reduceLeDiff, decide_true, decide_false, Bool.not_true, Bool.not_false, Bool.false_eq_true, if_true, if_false, true_and, and_true, and_self, reduceCtorEq, Bool.and_true, Bool.true_and, Bool.and_self, upd_upd, d15_0] <;> rfl)
  rintro N k h' hk ⟨hT, rfl⟩ hN
  simp only [go_sem, w64, Int.cast_ofNat_Int, Int.reduceEq, Int.reduceAdd, Int.reduceSub, Int.reduceMul, Int.natCast_zero, Int.natCast_inj, Int.ofNat_lt, Int.ofNat_le, Int.natCast_nonneg, Int.toNat_natCast, Nat.mul_one, Nat.reduceLT, Int.reduceLT, Int.reduceLE, Int.reduceToNat, Nat.reduceAdd, Nat.reduceSub, Nat.reduceMul, Nat.reduceLeDiff, decide_true, decide_false, Bool.not_true, Bool.not_false, Bool.false_eq_true, if_true, if_false, true_and, and_true, and_self, reduceCtorEq, Bool.and_true, Bool.true_and, Bool.and_self, upd_upd, d15_0]
  have hadd := wadd1 (k := k) (by omega)
  by_cases hlt : k < P.length
  · have hmem : P[k] ∈ P := List.getElem_mem hlt
    obtain ⟨d, hd1, hd2, hd3⟩ := hpar _ hmem
    have hfnd := fnd_true hr hd1 hd3
    rw [hd2] at hfnd
    simp only [go_sem, w64, Int.cast_ofNat_Int, Int.reduceEq, Int.reduceAdd, Int.reduceSub, Int.reduceMul, Int.natCast_zero, Int.natCast_inj, Int.ofNat_lt, Int.ofNat_le, Int.natCast_nonneg, Int.toNat_natCast, Nat.mul_one, Nat.reduceLT, Int.reduceLT, Int.reduceLE, Int.reduceToNat, Nat.reduceAdd, Nat.reduceSub, Nat.reduceMul, Nat.reduceLeDiff, decide_true, decide_false, Bool.not_true, Bool.not_false, Bool.false_eq_true, if_true, if_false, true_and, and_true, and_self, reduceCtorEq, Bool.and_true, Bool.true_and, Bool.and_self, upd_upd, hlt]
    refine loop_range d15_1 m.length (fun j s => (s.set 13 (.bool (fnd P[k] c.rank p.least (m.take j)))).set 14 (.int .i64 j)) (fun j H => H = h') ?_ rfl ?_
    · (simp only [go_sem, w64, Int.cast_ofNat_Int, Int.reduceEq, Int.reduceAdd, Int.reduceSub, Int.reduceMul, Int.natCast_zero, Int.natCast_inj, Int.ofNat_lt, Int.ofNat_le, Int.natCast_nonneg, Int.toNat_natCast, Nat.mul_one, Nat.reduceLT, Int.reduceLT, Int.reduceLE, Int.reduceToNat, Nat.reduceAdd, Nat.reduceSub, Nat.reduceMul, Nat.reduceLeDiff, decide_true, decide_false, Bool.not_true, Bool.not_false, Bool.false_eq_true, if_true, if_false, true_and, and_true, and_self, reduceCtorEq, Bool.and_true, Bool.true_and, Bool.and_self, upd_upd, d15_1] <;> rfl)
    rintro N2 j H hj rfl hN2
    simp only [go_sem, w64, Int.cast_ofNat_Int, Int.reduceEq, Int.reduceAdd, Int.reduceSub, Int.reduceMul, Int.natCast_zero, Int.natCast_inj, Int.ofNat_lt, Int.ofNat_le, Int.natCast_nonneg, Int.toNat_natCast, Nat.mul_one, Nat.reduceLT, Int.reduceLT, Int.reduceLE, Int.reduceToNat, Nat.reduceAdd, Nat.reduceSub, Nat.reduceMul, Nat.reduceLeDiff, decide_true, decide_false, Bool.not_true, Bool.not_false, Bool.false_eq_true, if_true, if_false, true_and, and_true, and_self, reduceCtorEq, Bool.and_true, Bool.true_and, Bool.and_self, upd_upd, d15_1]
    have hadd2 := wadd1 (k := j) (by omega)
    by_cases hlt2 : j < m.length
    · have hone := oneB_iff.1 (List.all_eq_true.1 (rightL_one hr) _ (List.getElem_mem hlt2))
      have r0 := rd_first (h := H) encC_len (by omega) hlt2
      have r1 := rd_cell (h := H) (off := 1) encC_len hlt2 (by omega)
      simp only [encC, List.getElem?_cons_succ, List.getElem?_cons_zero] at r0 r1
      have q1 : IntKind.i64.wrap (m[j].r.tdiv p.least) = m[j].r / p.least := by rw [Int.tdiv_eq_ediv_of_nonneg hone.2.2.1]; exact w64 (by have := Int.ediv_nonneg hone.2.2.1 (show 0 ≤ p.least by omega); omega) (by have := Int.ediv_le_self p.least hone.2.2.1; omega)
      have hsn := fnd_snoc P[k] c.rank p.least (m.take j) m[j]
      rw [← List.take_succ_eq_append_getElem hlt2] at hsn
      have hrd := rdI (h := H) hlt
      cases e1 : decide (m[j].n = P[k])
      · rw [if_neg (of_decide_eq_false e1)] at hsn
        simp only [go_sem, w64, Int.cast_ofNat_Int, Int.reduceEq, Int.reduceAdd, Int.reduceSub, Int.reduceMul, Int.natCast_zero, Int.natCast_inj, Int.ofNat_lt, Int.ofNat_le, Int.natCast_nonneg, Int.toNat_natCast, Nat.mul_one, Nat.reduceLT, Int.reduceLT, Int.reduceLE, Int.reduceToNat, Nat.reduceAdd, Nat.reduceSub, Nat.reduceMul, Nat.reduceLeDiff, decide_true, decide_false, Bool.not_true, Bool.not_false, Bool.false_eq_true, if_true, if_false, true_and, and_true, and_self, reduceCtorEq, Bool.and_true, Bool.true_and, Bool.and_self, upd_upd, hlt2, hlt, r0, hrd, e1, hadd2]
        refine hN2 _ _ hlt2 ?_ rfl
        simp only [go_sem, w64, Int.cast_ofNat_Int, Int.reduceEq, Int.reduceAdd, Int.reduceSub, Int.reduceMul, Int.natCast_zero, Int.natCast_inj, Int.ofNat_lt, Int.ofNat_le, Int.natCast_nonneg, Int.toNat_natCast, Nat.mul_one, Nat.reduceLT, Int.reduceLT, Int.reduceLE, Int.reduceToNat, Nat.reduceAdd, Nat.reduceSub, Nat.reduceMul, Nat.reduceLeDiff, decide_true, decide_false, Bool.not_true, Bool.not_false, Bool.false_eq_true, if_true, if_false, true_and, and_true, and_self, reduceCtorEq, Bool.and_true, Bool.true_and, Bool.and_self, upd_upd, d15_1, hsn]
      · rw [if_pos (of_decide_eq_true e1)] at hsn
        simp only [go_sem, w64, Int.cast_ofNat_Int, Int.reduceEq, Int.reduceAdd, Int.reduceSub, Int.reduceMul, Int.natCast_zero, Int.natCast_inj, Int.ofNat_lt, Int.ofNat_le, Int.natCast_nonneg, Int.toNat_natCast, Nat.mul_one, Nat.reduceLT, Int.reduceLT, Int.reduceLE, Int.reduceToNat, Nat.reduceAdd, Nat.reduceSub, Nat.reduceMul, Nat.reduceLeDiff, decide_true, decide_false, Bool.not_true, Bool.not_false, Bool.false_eq_true, if_true, if_false, true_and, and_true, and_self, reduceCtorEq, Bool.and_true, Bool.true_and, Bool.and_self, upd_upd, hlt2, hlt, r0, hrd, e1, r1, hz, q1, q2, hadd2]
        refine hN2 _ _ hlt2 ?_ rfl
        simp only [go_sem, w64, Int.cast_ofNat_Int, Int.reduceEq, Int.reduceAdd, Int.reduceSub, Int.reduceMul, Int.natCast_zero, Int.natCast_inj, Int.ofNat_lt, Int.ofNat_le, Int.natCast_nonneg, Int.toNat_natCast, Nat.mul_one, Nat.reduceLT, Int.reduceLT, Int.reduceLE, Int.reduceToNat, Nat.reduceAdd, Nat.reduceSub, Nat.reduceMul, Nat.reduceLeDiff, decide_true, decide_false, Bool.not_true, Bool.not_false, Bool.false_eq_true, if_true, if_false, true_and, and_true, and_self, reduceCtorEq, Bool.and_true, Bool.true_and, Bool.and_self, upd_upd, d15_1, hsn]
    · have hkl : j = m.length := by omega
      subst hkl
      rw [List.take_length, hfnd]
      simp only [go_sem, w64, Int.cast_ofNat_Int, Int.reduceEq, Int.reduceAdd, Int.reduceSub, Int.reduceMul, Int.natCast_zero, Int.natCast_inj, Int.ofNat_lt, Int.ofNat_le, Int.natCast_nonneg, Int.toNat_natCast, Nat.mul_one, Nat.reduceLT, Int.reduceLT, Int.reduceLE, Int.reduceToNat, Nat.reduceAdd, Nat.reduceSub, Nat.reduceMul, Nat.reduceLeDiff, decide_true, decide_false, Bool.not_true, Bool.not_false, Bool.false_eq_true, if_true, if_false, true_and, and_true, and_self, reduceCtorEq, Bool.and_true, Bool.true_and, Bool.and_self, upd_upd, hlt2]
      refine frz_id ?_
      simp only [go_sem, w64, Int.cast_ofNat_Int, Int.reduceEq, Int.reduceAdd, Int.reduceSub, Int.reduceMul, Int.natCast_zero, Int.natCast_inj, Int.ofNat_lt, Int.ofNat_le, Int.natCast_nonneg, Int.toNat_natCast, Nat.mul_one, Nat.reduceLT, Int.reduceLT, Int.reduceLE, Int.reduceToNat, Nat.reduceAdd, Nat.reduceSub, Nat.reduceMul, Nat.reduceLeDiff, decide_true, decide_false, Bool.not_true, Bool.not_false, Bool.false_eq_true, if_true, if_false, true_and, and_true, and_self, reduceCtorEq, Bool.and_true, Bool.true_and, Bool.and_self, upd_upd, hadd]
      (refine hN _ _ hlt ?_ ⟨?_, rfl⟩; (simp only [go_sem, w64, Int.cast_ofNat_Int, Int.reduceEq, Int.reduceAdd, Int.reduceSub, Int.reduceMul, Int.natCast_zero, Int.natCast_inj, Int.ofNat_lt, Int.ofNat_le, Int.natCast_nonneg, Int.toNat_natCast, Nat.mul_one, Nat.reduceLT, Int.reduceLT, Int.reduceLE, Int.reduceToNat, Nat.reduceAdd, Nat.reduceSub, Nat.reduceMul, Nat.reduceLeDiff, decide_true, decide_false, Bool.not_true, Bool.not_false, Bool.false_eq_true, if_true, if_false, true_and, and_true, and_self, reduceCtorEq, Bool.and_true, Bool.true_and, Bool.and_self, upd_upd, d15_0]))
      trivial
  · simp only [go_sem, w64, Int.cast_ofNat_Int, Int.reduceEq, Int.reduceAdd, Int.reduceSub, Int.reduceMul, Int.natCast_zero, Int.natCast_inj, Int.ofNat_lt, Int.ofNat_le, Int.natCast_nonneg, Int.toNat_natCast, Nat.mul_one, Nat.reduceLT, Int.reduceLT, Int.reduceLE, Int.reduceToNat, Nat.reduceAdd, Nat.reduceSub, Nat.reduceMul, Nat.reduceLeDiff, decide_true, decide_false, Bool.not_true, Bool.not_false, Bool.false_eq_true, if_true, if_false, true_and, and_true, and_self, reduceCtorEq, Bool.and_true, Bool.true_and, Bool.and_self, upd_upd, hlt]
    refine frz_id ?_
    refine (known17_spec _).use ?_
    simp only [go_sem, w64, Int.cast_ofNat_Int, Int.reduceEq, Int.reduceAdd, Int.reduceSub, Int.reduceMul, Int.natCast_zero, Int.natCast_inj, Int.ofNat_lt, Int.ofNat_le, Int.natCast_nonneg, Int.toNat_natCast, Nat.mul_one, Nat.reduceLT, Int.reduceLT, Int.reduceLE, Int.reduceToNat, Nat.reduceAdd, Nat.reduceSub, Nat.reduceMul, Nat.reduceLeDiff, decide_true, decide_false, Bool.not_true, Bool.not_false, Bool.false_eq_true, if_true, if_false, true_and, and_true, and_self, reduceCtorEq, Bool.and_true, Bool.true_and, Bool.and_self, upd_upd]
    rcases hmay with e | e
    · simp only [go_sem, w64, Int.cast_ofNat_Int, Int.reduceEq, Int.reduceAdd, Int.reduceSub, Int.reduceMul, Int.natCast_zero, Int.natCast_inj, Int.ofNat_lt, Int.ofNat_le, Int.natCast_nonneg, Int.toNat_natCast, Nat.mul_one, Nat.reduceLT, Int.reduceLT, Int.reduceLE, Int.reduceToNat, Nat.reduceAdd, Nat.reduceSub, Nat.reduceMul, Nat.reduceLeDiff, decide_true, decide_false, Bool.not_true, Bool.not_false, Bool.false_eq_true, if_true, if_false, true_and, and_true, and_self, reduceCtorEq, Bool.and_true, Bool.true_and, Bool.and_self, upd_upd, e, show decide ((65535 : Int) = 65535) = true from rfl]
      (refine hQ _ _ _ _ _ (by first | exact .inr rfl | exact .inl rfl) rfl (by first | exact FzH.refl _ | exact FzH.sub (by (repeat' (first | exact Sub.refl _ | assumption | (refine Sub.upd ?_ (by first | assumption | (simp only [*]; done) | exact Sub.isNone (by assumption) (by assumption) | exact Sub.isNone (by assumption) (by simp only [*]))))))) (FzL.refl _ _ _) ?_; try (simp only [go_sem, w64, Int.cast_ofNat_Int, Int.reduceEq, Int.reduceAdd, Int.reduceSub, Int.reduceMul, Int.natCast_zero, Int.natCast_inj, Int.ofNat_lt, Int.ofNat_le, Int.natCast_nonneg, Int.toNat_natCast, Nat.mul_one, Nat.reduceLT, Int.reduceLT, Int.reduceLE, Int.reduceToNat, Nat.reduceAdd, Nat.reduceSub, Nat.reduceMul, Nat.reduceLeDiff, decide_true, decide_false, Bool.not_true, Bool.not_false, Bool.false_eq_true, if_true, if_false, true_and, and_true, and_self, reduceCtorEq, Bool.and_true, Bool.true_and, Bool.and_self, upd_upd]))
    · cases e1 : decide (lowest = 65535)
      · cases e2 : decide (p.inc = 0)
        · have : c.rank ≤ lowest + p.inc := by
            simp only [mayN, Bool.and_eq_true, Bool.or_eq_true, e2, decide_eq_true_eq, Bool.false_eq_true, or_false] at e
            omega
          simp only [go_sem, w64, Int.cast_ofNat_Int, Int.reduceEq, Int.reduceAdd, Int.reduceSub, Int.reduceMul, Int.natCast_zero, Int.natCast_inj, Int.ofNat_lt, Int.ofNat_le, Int.natCast_nonneg, Int.toNat_natCast, Nat.mul_one, Nat.reduceLT, Int.reduceLT, Int.reduceLE, Int.reduceToNat, Nat.reduceAdd, Nat.reduceSub, Nat.reduceMul, Nat.reduceLeDiff, decide_true, decide_false, Bool.not_true, Bool.not_false, Bool.false_eq_true, if_true, if_false, true_and, and_true, and_self, reduceCtorEq, Bool.and_true, Bool.true_and, Bool.and_self, upd_upd, e1, e2, hmax, this]
          (refine hQ _ _ _ _ _ (by first | exact .inr rfl | exact .inl rfl) rfl (by first | exact FzH.refl _ | exact FzH.sub (by (repeat' (first | exact Sub.refl _ | assumption | (refine Sub.upd ?_ (by first | assumption | (simp only [*]; done) | exact Sub.isNone (by assumption) (by assumption) | exact Sub.isNone (by assumption) (by simp only [*]))))))) (FzL.refl _ _ _) ?_; try (simp only [go_sem, w64, Int.cast_ofNat_Int, Int.reduceEq, Int.reduceAdd, Int.reduceSub, Int.reduceMul, Int.natCast_zero, Int.natCast_inj, Int.ofNat_lt, Int.ofNat_le, Int.natCast_nonneg, Int.toNat_natCast, Nat.mul_one, Nat.reduceLT, Int.reduceLT, Int.reduceLE, Int.reduceToNat, Nat.reduceAdd, Nat.reduceSub, Nat.reduceMul, Nat.reduceLeDiff, decide_true, decide_false, Bool.not_true, Bool.not_false, Bool.false_eq_true, if_true, if_false, true_and, and_true, and_self, reduceCtorEq, Bool.and_true, Bool.true_and, Bool.and_self, upd_upd]))
        · simp only [go_sem, w64, Int.cast_ofNat_Int, Int.reduceEq, Int.reduceAdd, Int.reduceSub, Int.reduceMul, Int.natCast_zero, Int.natCast_inj, Int.ofNat_lt, Int.ofNat_le, Int.natCast_nonneg, Int.toNat_natCast, Nat.mul_one, Nat.reduceLT, Int.reduceLT, Int.reduceLE, Int.reduceToNat, Nat.reduceAdd, Nat.reduceSub, Nat.reduceMul, Nat.reduceLeDiff, decide_true, decide_false, Bool.not_true, Bool.not_false, Bool.false_eq_true, if_true, if_false, true_and, and_true, and_self, reduceCtorEq, Bool.and_true, Bool.true_and, Bool.and_self, upd_upd, e1, e2]
          (refine hQ _ _ _ _ _ (by first | exact .inr rfl | exact .inl rfl) rfl (by first | exact FzH.refl _ | exact FzH.sub (by (repeat' (first | exact Sub.refl _ | assumption | (refine Sub.upd ?_ (by first | assumption | (simp only [*]; done) | exact Sub.isNone (by assumption) (by assumption) | exact Sub.isNone (by assumption) (by simp only [*]))))))) (FzL.refl _ _ _) ?_; try (simp only [go_sem, w64, Int.cast_ofNat_Int, Int.reduceEq, Int.reduceAdd, Int.reduceSub, Int.reduceMul, Int.natCast_zero, Int.natCast_inj, Int.ofNat_lt, Int.ofNat_le, Int.natCast_nonneg, Int.toNat_natCast, Nat.mul_one, Nat.reduceLT, Int.reduceLT, Int.reduceLE, Int.reduceToNat, Nat.reduceAdd, Nat.reduceSub, Nat.reduceMul, Nat.reduceLeDiff, decide_true, decide_false, Bool.not_true, Bool.not_false, Bool.false_eq_true, if_true, if_false, true_and, and_true, and_self, reduceCtorEq, Bool.and_true, Bool.true_and, Bool.and_self, upd_upd]))
      · simp only [go_sem, w64, Int.cast_ofNat_Int, Int.reduceEq, Int.reduceAdd, Int.reduceSub, Int.reduceMul, Int.natCast_zero, Int.natCast_inj, Int.ofNat_lt, Int.ofNat_le, Int.natCast_nonneg, Int.toNat_natCast, Nat.mul_one, Nat.reduceLT, Int.reduceLT, Int.reduceLE, Int.reduceToNat, Nat.reduceAdd, Nat.reduceSub, Nat.reduceMul, Nat.reduceLeDiff, decide_true, decide_false, Bool.not_true, Bool.not_false, Bool.false_eq_true, if_true, if_false, true_and, and_true, and_self, reduceCtorEq, Bool.and_true, Bool.true_and, Bool.and_self, upd_upd, e1]
        (refine hQ _ _ _ _ _ (by first | exact .inr rfl | exact .inl rfl) rfl (by first | exact FzH.refl _ | exact FzH.sub (by (repeat' (first | exact Sub.refl _ | assumption | (refine Sub.upd ?_ (by first | assumption | (simp only [*]; done) | exact Sub.isNone (by assumption) (by assumption) | exact Sub.isNone (by assumption) (by simp only [*]))))))) (FzL.refl _ _ _) ?_; try (simp only [go_sem, w64, Int.cast_ofNat_Int, Int.reduceEq, Int.reduceAdd, Int.reduceSub, Int.reduceMul, Int.natCast_zero, Int.natCast_inj, Int.ofNat_lt, Int.ofNat_le, Int.natCast_nonneg, Int.toNat_natCast, Nat.mul_one, Nat.reduceLT, Int.reduceLT, Int.reduceLE, Int.reduceToNat, Nat.reduceAdd, Nat.reduceSub, Nat.reduceMul, Nat.reduceLeDiff, decide_true, decide_false, Bool.not_true, Bool.not_false, Bool.false_eq_true, if_true, if_false, true_and, and_true, and_self, reduceCtorEq, Bool.and_true, Bool.true_and, Bool.and_self, upd_upd]))

theorem pbehind_law (xs : List AV) (h : ArgsSh Try.prog 6 Try.f15.params.toList xs) : PureA Try.prog 15 xs emp (.bool true) := by
  rw [Try.params15] at h
  simp only [ArgsSh, ArgSh, Try.underlying28, Try.underlying77, Try.underlying3] at h
  obtain ⟨x, _, rfl, hx, y, _, rfl, hy, u, _, rfl, hu, z, _, rfl, hz, rfl⟩ := h
  rw [ShC] at hz
  simp only [Try.underlying77] at hz
  simp only [Try.underlying28, Try.underlying26, Try.underlying24, Try.underlying3, ShC, ShFs] at hx hy hu
  obtain ⟨_, rfl, _, _, rfl, _, ⟨a, rfl, _⟩, _, _, rfl, _, ⟨b, rfl, _⟩, _, _, rfl, _, ⟨c, rfl, _⟩, _, _, rfl, _, ⟨_, _, rfl, _, ⟨d, rfl, _⟩, _, _, rfl, _, ⟨e, rfl, _⟩, rfl⟩, _, _, rfl, _, ⟨_, _, rfl, _, ⟨f, rfl, _⟩, _, _, rfl, _, ⟨g, rfl, _⟩, _, _, rfl, _, ⟨i, rfl, _⟩, _, _, rfl, _, ⟨j, rfl, _⟩, rfl⟩, rfl⟩ := hx
  obtain ⟨m, hm, _⟩ := hy
  cases hm
  obtain ⟨n, hn, _⟩ := hu
  cases hn
  obtain ⟨els, e0, hl, hels⟩ := hz
  cases e0
  obtain ⟨l, e1, e2, e3⟩ := cds_sh (els := els) fun el hel => ⟨(hels el hel).1, by
    have := (hels el hel).2
    rw [ShC] at this
    simp only [Try.underlying67] at this ⊢
    exact this⟩
  rw [e1, e2]
  exact pbehind_spec ⟨a, b, c, d, e, ⟨f, g, i, j⟩⟩ m n l emp (by have := maxLen_le; omega)

end Go.Proofs.Ytaeppifdbcoipaa
