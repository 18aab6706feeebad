/-
  ZeroStays on abstract values.
-/
import Derived.Test.YtaeppifdbcoipaaZp
namespace Go.Proofs.Ytaeppifdbcoipaa
open Go E
set_option linter.unusedVariables false
set_option linter.unusedSimpArgs false
set_option linter.unusedSectionVars false
set_option maxRecDepth 100000

def ownS (a b by_ now : Int) (l : List Cd) : Int := l.foldl (fun o c => if c.n = now ∧ rankN a b by_ c ≠ 65535 then rankN a b by_ c / by_ else o) 65535
def leastS (a b by_ : Int) (l : List Cd) : Int := l.foldl (fun o c => min o (rankN a b by_ c / by_)) 65535
theorem ownS_snoc (a b by_ now : Int) (l : List Cd) (c : Cd) : ownS a b by_ now (l ++ [c]) = if c.n = now ∧ rankN a b by_ c ≠ 65535 then rankN a b by_ c / by_ else ownS a b by_ now l := by simp [ownS]
theorem leastS_snoc (a b by_ : Int) (l : List Cd) (c : Cd) : leastS a b by_ (l ++ [c]) = min (leastS a b by_ l) (rankN a b by_ c / by_) := by simp [leastS]
theorem leastS_ge {a b by_ v : Int} (hv : v ≤ 65535) {l : List Cd} (h : ∀ c ∈ l, v ≤ rankN a b by_ c / by_) : v ≤ leastS a b by_ l := by
  induction l using snoc_ind with
  | h0 => exact hv
  | h1 l c ih =>
    rw [leastS_snoc]
    have h1 := ih fun d hd => h d (List.mem_append_left _ hd)
    have h2 := h c (by simp)
    omega
theorem leastS_le {a b by_ : Int} {l : List Cd} {c : Cd} (h : c ∈ l) : leastS a b by_ l ≤ rankN a b by_ c / by_ := by
  induction l using snoc_ind with
  | h0 => cases h
  | h1 l d ih =>
    rw [leastS_snoc]
    rcases List.mem_append.1 h with h | h
    · have := ih h; omega
    · simp at h; subst h; omega
theorem ownS_mem {a b by_ now : Int} {l : List Cd} (h : ownS a b by_ now l ≠ 65535) : ∃ c ∈ l, c.n = now ∧ rankN a b by_ c ≠ 65535 ∧ ownS a b by_ now l = rankN a b by_ c / by_ := by
  induction l using snoc_ind with
  | h0 => exact absurd rfl h
  | h1 l d ih =>
    rw [ownS_snoc] at h ⊢
    split at h
    · rename_i e; exact ⟨d, by simp, e.1, e.2, by rw [if_pos e]⟩
    · rename_i e
      obtain ⟨c, h1, h2, h3, h4⟩ := ih h
      exact ⟨c, List.mem_append_left _ h1, h2, h3, by rw [if_neg e]; exact h4⟩
theorem ownS_eq {a b by_ : Int} {l : List Cd} (hr : rightL l = true) {c : Cd} (h : c ∈ l) (hne : rankN a b by_ c ≠ 65535) : ownS a b by_ c.n l = rankN a b by_ c / by_ := by
  have key : ∀ q : List Cd, (∀ d ∈ q, d ∈ l) → c ∈ q → ownS a b by_ c.n q = rankN a b by_ c / by_ := by
    intro q hq hc
    induction q using snoc_ind with
    | h0 => cases hc
    | h1 q d ih =>
      rw [ownS_snoc]
      by_cases e : d.n = c.n
      · rw [uniq_n hr (hq d (by simp)) h e, if_pos ⟨rfl, hne⟩]
      · rw [if_neg (fun x => e x.1)]
        refine ih (fun x hx => hq x (List.mem_append_left _ hx)) ?_
        rcases List.mem_append.1 hc with hc | hc
        · exact hc
        · simp at hc; subst hc; exact absurd rfl e
  exact key l (fun _ h => h) h

/-- The best one: right, its rank finite, and ahead of all others. -/
theorem head_best {a b by_ now : Int} {m : List Cd} (hr : rightL m = true) {c0 : Cd} {q : List Cd} (e : ordL a b by_ now m = c0 :: q) :
    c0 ∈ m ∧ rankN a b by_ c0 ≠ 65535 ∧ ∀ d ∈ m, rankN a b by_ d ≠ 65535 → d = c0 ∨ KL a b by_ now c0 d := by
  have hE := ord_eq (a := a) (b := b) (by_ := by_) (now := now) hr
  rw [e] at hE
  have hm := refO_mem (a := a) (b := b) (by_ := by_) (now := now) (l := m) (y := c0) (by rw [← hE]; simp)
  have hs := refO_srt (a := a) (b := b) (by_ := by_) (now := now) (l := m) (by simp only [rightL, Bool.and_eq_true, decide_eq_true_eq] at hr; exact hr.2)
  rw [← hE] at hs
  unfold Srt at hs
  rw [List.pairwise_cons] at hs
  refine ⟨hm.1, hm.2, fun d hd hne => ?_⟩
  have hin : d ∈ refO a b by_ now m := by
    rw [(refO_perm a b by_ now m).mem_iff]
    exact List.mem_map.2 ⟨⟨d, rankN a b by_ d⟩, List.mem_filterMap.2 ⟨d, hd, by rw [if_neg hne]⟩, rfl⟩
  rw [← hE] at hin
  rcases List.mem_cons.1 hin with h | h
  · exact .inl h
  · exact .inr (hs.1 d h)

section
variable {a b by_ now : Int} {m : List Cd} {c0 : Cd} {q : List Cd} (h1 : okFn a b = true) (h2 : isLeast by_ = true) (hr : rightL m = true) (e : ordL a b by_ now m = c0 :: q)
include h1 h2 hr e

theorem c0_range : 1 ≤ rankN a b by_ c0 ∧ rankN a b by_ c0 ≤ 65534 := by
  obtain ⟨g1, g2, _⟩ := head_best hr e
  have := rank_range (okRank_of h1 h2 (List.all_eq_true.1 (rightL_one hr) _ g1))
  omega
theorem c0_step : rankN a b by_ c0 / by_ ≤ 65534 := by
  have hb : 1 ≤ by_ ∧ by_ ≤ 65535 := by simpa [isLeast] using h2
  have := c0_range h1 h2 hr e
  have := Int.ediv_le_self by_ (show 0 ≤ rankN a b by_ c0 by omega)
  omega
theorem least_c0 : leastS a b by_ m = rankN a b by_ c0 / by_ := by
  have hb : 1 ≤ by_ ∧ by_ ≤ 65535 := by simpa [isLeast] using h2
  obtain ⟨g1, g2, g3⟩ := head_best hr e
  have hc := c0_range h1 h2 hr e
  have hs := c0_step h1 h2 hr e
  have := leastS_le (a := a) (b := b) (by_ := by_) g1
  have := leastS_ge (a := a) (b := b) (by_ := by_) (v := rankN a b by_ c0 / by_) (by omega) (l := m) fun d hd => by
    by_cases hd2 : rankN a b by_ d = 65535
    · exact Int.ediv_le_ediv (by omega) (by omega)
    · rcases g3 d hd hd2 with rfl | h
      · omega
      · unfold KL at h
        generalize rankN a b by_ c0 / by_ = X at *
        generalize rankN a b by_ d / by_ = Y at *
        omega
  omega
theorem stays0 : (ownS a b by_ now m = leastS a b by_ m ∧ ownS a b by_ now m ≠ 65535) ↔ c0.n = now := by
  obtain ⟨g1, g2, g3⟩ := head_best hr e
  have hs := c0_step h1 h2 hr e
  rw [least_c0 h1 h2 hr e]
  constructor
  · rintro ⟨k1, k2⟩
    obtain ⟨c, hc, hcn, hcr, ho⟩ := ownS_mem k2
    rcases g3 c hc hcr with rfl | h
    · exact hcn
    · unfold KL pfN at h
      rw [ho] at k1
      rw [if_pos hcn] at h
      by_cases h0 : c0.n = now
      · exact h0
      · rw [if_neg h0] at h
        generalize rankN a b by_ c0 / by_ = X at *
        generalize rankN a b by_ c / by_ = Y at *
        omega
  · intro h0
    have := ownS_eq (a := a) (b := b) (by_ := by_) hr g1 g2
    rw [h0] at this
    rw [this]
    omega
end

theorem leastS_range {a b by_ : Int} (h1 : okFn a b = true) (h2 : isLeast by_ = true) {l : List Cd} (hl : l.all oneB = true) : ∀ c ∈ l, 0 ≤ rankN a b by_ c / by_ ∧ rankN a b by_ c / by_ ≤ 65535 := by
  have hb : 1 ≤ by_ ∧ by_ ≤ 65535 := by simpa [isLeast] using h2
  intro c hc
  have hr := rank_range (okRank_of h1 h2 (List.all_eq_true.1 hl _ hc))
  have := Int.ediv_le_self by_ (show 0 ≤ rankN a b by_ c by omega)
  have := Int.ediv_nonneg (show 0 ≤ rankN a b by_ c by omega) (show 0 ≤ by_ by omega)
  omega

theorem zstays_spec (a b by_ now : Int) (l : List Cd) (h : AHeap) (hn : l.length ≤ 9223372036854775807) : PureA Try.prog 10 [.agg [.int .i64 a, .int .i64 b], .int .i64 by_, .int .i64 now, .ro (cat encC l) l.length false] h (.bool true) := by
  have h12 : (l.take 12).length ≤ 12 := by rw [List.length_take]; omega
  (refine PureA.enter (ac := c10) (rs := r10) Try.func10 rfl (by decide) c10_ok r10_ok ?_; intro Q hQ; simp only [go_sem, w64, Int.cast_ofNat_Int, Int.reduceEq, Int.reduceAdd, Int.reduceSub, Int.reduceMul, Int.natCast_zero, Int.natCast_inj, Int.ofNat_lt, Int.ofNat_le, Int.natCast_nonneg, Int.toNat_natCast, Nat.mul_one, Nat.reduceLT, Int.reduceLT, Int.reduceLE, Int.reduceToNat, Nat.reduceAdd, Nat.reduceSub, Nat.reduceMul, Nat.reduceLeDiff, decide_true, decide_false, Bool.not_true, Bool.not_false, Bool.false_eq_true, if_true, if_false, true_and, and_true, and_self, reduceCtorEq, Bool.and_true, Bool.true_and, Bool.and_self, upd_upd, c10, Try.ntmps10])
  intro p hp
  simp only [go_sem, w64, Int.cast_ofNat_Int, Int.reduceEq, Int.reduceAdd, Int.reduceSub, Int.reduceMul, Int.natCast_zero, Int.natCast_inj, Int.ofNat_lt, Int.ofNat_le, Int.natCast_nonneg, Int.toNat_natCast, Nat.mul_one, Nat.reduceLT, Int.reduceLT, Int.reduceLE, Int.reduceToNat, Nat.reduceAdd, Nat.reduceSub, Nat.reduceMul, Nat.reduceLeDiff, decide_true, decide_false, Bool.not_true, Bool.not_false, Bool.false_eq_true, if_true, if_false, true_and, and_true, and_self, reduceCtorEq, Bool.and_true, Bool.true_and, Bool.and_self, upd_upd, del_same, del_none hp]
  refine (to15_spec l false _ hn).use ?_
  simp only [go_sem, w64, Int.cast_ofNat_Int, Int.reduceEq, Int.reduceAdd, Int.reduceSub, Int.reduceMul, Int.natCast_zero, Int.natCast_inj, Int.ofNat_lt, Int.ofNat_le, Int.natCast_nonneg, Int.toNat_natCast, Nat.mul_one, Nat.reduceLT, Int.reduceLT, Int.reduceLE, Int.reduceToNat, Nat.reduceAdd, Nat.reduceSub, Nat.reduceMul, Nat.reduceLeDiff, decide_true, decide_false, Bool.not_true, Bool.not_false, Bool.false_eq_true, if_true, if_false, true_and, and_true, and_self, reduceCtorEq, Bool.and_true, Bool.true_and, Bool.and_self, upd_upd]
  generalize hm : l.take 12 = m at *
  refine (zchoose_spec a b by_ now m _ _ h12).use ?_
  cases g : okOrd a b by_ m
  · simp only [go_sem, w64, Int.cast_ofNat_Int, Int.reduceEq, Int.reduceAdd, Int.reduceSub, Int.reduceMul, Int.natCast_zero, Int.natCast_inj, Int.ofNat_lt, Int.ofNat_le, Int.natCast_nonneg, Int.toNat_natCast, Nat.mul_one, Nat.reduceLT, Int.reduceLT, Int.reduceLE, Int.reduceToNat, Nat.reduceAdd, Nat.reduceSub, Nat.reduceMul, Nat.reduceLeDiff, decide_true, decide_false, Bool.not_true, Bool.not_false, Bool.false_eq_true, if_true, if_false, true_and, and_true, and_self, reduceCtorEq, Bool.and_true, Bool.true_and, Bool.and_self, upd_upd, show decide ((1 : Int) = 0) = false from rfl]
    refine (known15_spec _).use ?_
    simp only [go_sem, w64, Int.cast_ofNat_Int, Int.reduceEq, Int.reduceAdd, Int.reduceSub, Int.reduceMul, Int.natCast_zero, Int.natCast_inj, Int.ofNat_lt, Int.ofNat_le, Int.natCast_nonneg, Int.toNat_natCast, Nat.mul_one, Nat.reduceLT, Int.reduceLT, Int.reduceLE, Int.reduceToNat, Nat.reduceAdd, Nat.reduceSub, Nat.reduceMul, Nat.reduceLeDiff, decide_true, decide_false, Bool.not_true, Bool.not_false, Bool.false_eq_true, if_true, if_false, true_and, and_true, and_self, reduceCtorEq, Bool.and_true, Bool.true_and, Bool.and_self, upd_upd]
    (refine hQ _ _ _ _ _ (by first | exact .inr rfl | exact .inl rfl) rfl (by first | exact FzH.refl _ | exact FzH.sub (by (repeat' (first | exact Sub.refl _ | assumption | (refine Sub.upd ?_ (by first | assumption | (simp only [*]; done) | exact Sub.isNone (by assumption) (by assumption) | exact Sub.isNone (by assumption) (by simp only [*]))))))) (FzL.refl _ _ _) ?_; try (simp only [go_sem, w64, Int.cast_ofNat_Int, Int.reduceEq, Int.reduceAdd, Int.reduceSub, Int.reduceMul, Int.natCast_zero, Int.natCast_inj, Int.ofNat_lt, Int.ofNat_le, Int.natCast_nonneg, Int.toNat_natCast, Nat.mul_one, Nat.reduceLT, Int.reduceLT, Int.reduceLE, Int.reduceToNat, Nat.reduceAdd, Nat.reduceSub, Nat.reduceMul, Nat.reduceLeDiff, decide_true, decide_false, Bool.not_true, Bool.not_false, Bool.false_eq_true, if_true, if_false, true_and, and_true, and_self, reduceCtorEq, Bool.and_true, Bool.true_and, Bool.and_self, upd_upd]))
  have hR : ordR a b by_ now m = ordL a b by_ now m := by unfold ordR; rw [if_pos g]
  have g' := g
  simp only [okOrd, Bool.and_eq_true] at g'
  obtain ⟨⟨h1, hr⟩, h2⟩ := g'
  have hb : 1 ≤ by_ ∧ by_ ≤ 65535 := by simpa [isLeast] using h2
  rw [hR]
  by_cases he : ordL a b by_ now m = []
  · simp only [go_sem, w64, Int.cast_ofNat_Int, Int.reduceEq, Int.reduceAdd, Int.reduceSub, Int.reduceMul, Int.natCast_zero, Int.natCast_inj, Int.ofNat_lt, Int.ofNat_le, Int.natCast_nonneg, Int.toNat_natCast, Nat.mul_one, Nat.reduceLT, Int.reduceLT, Int.reduceLE, Int.reduceToNat, Nat.reduceAdd, Nat.reduceSub, Nat.reduceMul, Nat.reduceLeDiff, decide_true, decide_false, Bool.not_true, Bool.not_false, Bool.false_eq_true, if_true, if_false, true_and, and_true, and_self, reduceCtorEq, Bool.and_true, Bool.true_and, Bool.and_self, upd_upd, he, show decide ((8 : Int) = 0) = false from rfl]
    refine (known15_spec _).use ?_
    simp only [go_sem, w64, Int.cast_ofNat_Int, Int.reduceEq, Int.reduceAdd, Int.reduceSub, Int.reduceMul, Int.natCast_zero, Int.natCast_inj, Int.ofNat_lt, Int.ofNat_le, Int.natCast_nonneg, Int.toNat_natCast, Nat.mul_one, Nat.reduceLT, Int.reduceLT, Int.reduceLE, Int.reduceToNat, Nat.reduceAdd, Nat.reduceSub, Nat.reduceMul, Nat.reduceLeDiff, decide_true, decide_false, Bool.not_true, Bool.not_false, Bool.false_eq_true, if_true, if_false, true_and, and_true, and_self, reduceCtorEq, Bool.and_true, Bool.true_and, Bool.and_self, upd_upd]
    (refine hQ _ _ _ _ _ (by first | exact .inr rfl | exact .inl rfl) rfl (by first | exact FzH.refl _ | exact FzH.sub (by (repeat' (first | exact Sub.refl _ | assumption | (refine Sub.upd ?_ (by first | assumption | (simp only [*]; done) | exact Sub.isNone (by assumption) (by assumption) | exact Sub.isNone (by assumption) (by simp only [*]))))))) (FzL.refl _ _ _) ?_; try (simp only [go_sem, w64, Int.cast_ofNat_Int, Int.reduceEq, Int.reduceAdd, Int.reduceSub, Int.reduceMul, Int.natCast_zero, Int.natCast_inj, Int.ofNat_lt, Int.ofNat_le, Int.natCast_nonneg, Int.toNat_natCast, Nat.mul_one, Nat.reduceLT, Int.reduceLT, Int.reduceLE, Int.reduceToNat, Nat.reduceAdd, Nat.reduceSub, Nat.reduceMul, Nat.reduceLeDiff, decide_true, decide_false, Bool.not_true, Bool.not_false, Bool.false_eq_true, if_true, if_false, true_and, and_true, and_self, reduceCtorEq, Bool.and_true, Bool.true_and, Bool.and_self, upd_upd]))
  obtain ⟨c0, q, e⟩ : ∃ c0 q, ordL a b by_ now m = c0 :: q := by
    cases e : ordL a b by_ now m with
    | nil => exact absurd e he
    | cons c q => exact ⟨c, q, rfl⟩
  have hd : ((ordL a b by_ now m).head?.map (·.n)).getD 0 = c0.n := by rw [e]; rfl
  obtain ⟨g1, g2, g3⟩ := head_best hr e
  simp only [go_sem, w64, Int.cast_ofNat_Int, Int.reduceEq, Int.reduceAdd, Int.reduceSub, Int.reduceMul, Int.natCast_zero, Int.natCast_inj, Int.ofNat_lt, Int.ofNat_le, Int.natCast_nonneg, Int.toNat_natCast, Nat.mul_one, Nat.reduceLT, Int.reduceLT, Int.reduceLE, Int.reduceToNat, Nat.reduceAdd, Nat.reduceSub, Nat.reduceMul, Nat.reduceLeDiff, decide_true, decide_false, Bool.not_true, Bool.not_false, Bool.false_eq_true, if_true, if_false, true_and, and_true, and_self, reduceCtorEq, Bool.and_true, Bool.true_and, Bool.and_self, upd_upd, he, hd]
  refine loop_range d10_0 m.length (fun k s => ((s.set 13 (.int .i64 (leastS a b by_ (m.take k)))).set 14 (.int .i64 (ownS a b by_ now (m.take k)))).set 15 (.int .i64 k)) (fun k H => H = h) ?_ rfl ?_
  · (simp only [go_sem, w64, Int.cast_ofNat_Int, Int.reduceEq, Int.reduceAdd, Int.reduceSub, Int.reduceMul, Int.natCast_zero, Int.natCast_inj, Int.ofNat_lt, Int.ofNat_le, Int.natCast_nonneg, Int.toNat_natCast, Nat.mul_one, Nat.reduceLT, Int.reduceLT, Int.reduceLE, Int.reduceToNat, Nat.reduceAdd, Nat.reduceSub, Nat.reduceMul, Nat.reduceLeDiff, decide_true, decide_false, Bool.not_true, Bool.not_false, Bool.false_eq_true, if_true, if_false, true_and, and_true, and_self, reduceCtorEq, Bool.and_true, Bool.true_and, Bool.and_self, upd_upd, d10_0] <;> rfl)
  rintro N k H hk rfl hN
  simp only [go_sem, w64, Int.cast_ofNat_Int, Int.reduceEq, Int.reduceAdd, Int.reduceSub, Int.reduceMul, Int.natCast_zero, Int.natCast_inj, Int.ofNat_lt, Int.ofNat_le, Int.natCast_nonneg, Int.toNat_natCast, Nat.mul_one, Nat.reduceLT, Int.reduceLT, Int.reduceLE, Int.reduceToNat, Nat.reduceAdd, Nat.reduceSub, Nat.reduceMul, Nat.reduceLeDiff, decide_true, decide_false, Bool.not_true, Bool.not_false, Bool.false_eq_true, if_true, if_false, true_and, and_true, and_self, reduceCtorEq, Bool.and_true, Bool.true_and, Bool.and_self, upd_upd, d10_0]
  have hadd := wadd1 (k := k) (by omega)
  by_cases hlt : k < m.length
  · have hmem : m[k] ∈ m := List.getElem_mem hlt
    have hone : oneB m[k] = true := List.all_eq_true.1 (rightL_one hr) _ hmem
    have hok := okRank_of h1 h2 hone
    have hrr := rank_range hok
    have htk := List.take_succ_eq_append_getElem hlt
    have r0 := rd_cell (h := H) (off := 0) encC_len hlt (by omega)
    simp only [encC, List.drop_zero, List.getElem?_cons_zero] at r0
    have hmin := leastS_snoc a b by_ (m.take k) m[k]
    have hown := ownS_snoc a b by_ now (m.take k) m[k]
    rw [← htk] at hmin hown
    have hz : (by_ == 0) = false := by simp; omega
    have q1 : IntKind.i64.wrap ((rankN a b by_ m[k]).tdiv by_) = rankN a b by_ m[k] / by_ := by rw [Int.tdiv_eq_ediv_of_nonneg (by omega)]; exact w64 (by have := Int.ediv_nonneg (show 0 ≤ rankN a b by_ m[k] by omega) (show 0 ≤ by_ by omega); omega) (by have := Int.ediv_le_self by_ (show 0 ≤ rankN a b by_ m[k] by omega); omega)
    have never : m[k].n = c0.n → rankN a b by_ m[k] ≠ 65535 := fun e => by rw [uniq_n hr hmem g1 e]; exact g2
    have next : ∀ s' : List AV, kill d10_0 s' = (((kill d10_0 _).set 13 (.int .i64 (leastS a b by_ (m.take (k + 1))))).set 14 (.int .i64 (ownS a b by_ now (m.take (k + 1))))).set 15 (.int .i64 ((k + 1 : Nat) : Int)) → N s' H := fun s' e => hN s' H hlt e rfl
    simp only [go_sem, w64, Int.cast_ofNat_Int, Int.reduceEq, Int.reduceAdd, Int.reduceSub, Int.reduceMul, Int.natCast_zero, Int.natCast_inj, Int.ofNat_lt, Int.ofNat_le, Int.natCast_nonneg, Int.toNat_natCast, Nat.mul_one, Nat.reduceLT, Int.reduceLT, Int.reduceLE, Int.reduceToNat, Nat.reduceAdd, Nat.reduceSub, Nat.reduceMul, Nat.reduceLeDiff, decide_true, decide_false, Bool.not_true, Bool.not_false, Bool.false_eq_true, if_true, if_false, true_and, and_true, and_self, reduceCtorEq, Bool.and_true, Bool.true_and, Bool.and_self, upd_upd, hlt, rd_all encC_len hlt]
    refine (zrank_spec a b by_ m[k] _).use ?_
    simp only [go_sem, w64, Int.cast_ofNat_Int, Int.reduceEq, Int.reduceAdd, Int.reduceSub, Int.reduceMul, Int.natCast_zero, Int.natCast_inj, Int.ofNat_lt, Int.ofNat_le, Int.natCast_nonneg, Int.toNat_natCast, Nat.mul_one, Nat.reduceLT, Int.reduceLT, Int.reduceLE, Int.reduceToNat, Nat.reduceAdd, Nat.reduceSub, Nat.reduceMul, Nat.reduceLeDiff, decide_true, decide_false, Bool.not_true, Bool.not_false, Bool.false_eq_true, if_true, if_false, true_and, and_true, and_self, reduceCtorEq, Bool.and_true, Bool.true_and, Bool.and_self, upd_upd, hok, hz, q1, if_min, hlt, r0]
    cases e1 : decide (m[k].n = now)
    · rw [if_neg (fun x => of_decide_eq_false e1 x.1)] at hown
      simp only [go_sem, w64, Int.cast_ofNat_Int, Int.reduceEq, Int.reduceAdd, Int.reduceSub, Int.reduceMul, Int.natCast_zero, Int.natCast_inj, Int.ofNat_lt, Int.ofNat_le, Int.natCast_nonneg, Int.toNat_natCast, Nat.mul_one, Nat.reduceLT, Int.reduceLT, Int.reduceLE, Int.reduceToNat, Nat.reduceAdd, Nat.reduceSub, Nat.reduceMul, Nat.reduceLeDiff, decide_true, decide_false, Bool.not_true, Bool.not_false, Bool.false_eq_true, if_true, if_false, true_and, and_true, and_self, reduceCtorEq, Bool.and_true, Bool.true_and, Bool.and_self, upd_upd, hlt, r0]
      cases e2 : decide (m[k].n = c0.n)
      · simp only [go_sem, w64, Int.cast_ofNat_Int, Int.reduceEq, Int.reduceAdd, Int.reduceSub, Int.reduceMul, Int.natCast_zero, Int.natCast_inj, Int.ofNat_lt, Int.ofNat_le, Int.natCast_nonneg, Int.toNat_natCast, Nat.mul_one, Nat.reduceLT, Int.reduceLT, Int.reduceLE, Int.reduceToNat, Nat.reduceAdd, Nat.reduceSub, Nat.reduceMul, Nat.reduceLeDiff, decide_true, decide_false, Bool.not_true, Bool.not_false, Bool.false_eq_true, if_true, if_false, true_and, and_true, and_self, reduceCtorEq, Bool.and_true, Bool.true_and, Bool.and_self, upd_upd, hadd]
        refine next _ ?_
        simp only [go_sem, w64, Int.cast_ofNat_Int, Int.reduceEq, Int.reduceAdd, Int.reduceSub, Int.reduceMul, Int.natCast_zero, Int.natCast_inj, Int.ofNat_lt, Int.ofNat_le, Int.natCast_nonneg, Int.toNat_natCast, Nat.mul_one, Nat.reduceLT, Int.reduceLT, Int.reduceLE, Int.reduceToNat, Nat.reduceAdd, Nat.reduceSub, Nat.reduceMul, Nat.reduceLeDiff, decide_true, decide_false, Bool.not_true, Bool.not_false, Bool.false_eq_true, if_true, if_false, true_and, and_true, and_self, reduceCtorEq, Bool.and_true, Bool.true_and, Bool.and_self, upd_upd, d10_0, hown, hmin]
      · have e3 := decide_eq_false (never (of_decide_eq_true e2))
        simp only [go_sem, w64, Int.cast_ofNat_Int, Int.reduceEq, Int.reduceAdd, Int.reduceSub, Int.reduceMul, Int.natCast_zero, Int.natCast_inj, Int.ofNat_lt, Int.ofNat_le, Int.natCast_nonneg, Int.toNat_natCast, Nat.mul_one, Nat.reduceLT, Int.reduceLT, Int.reduceLE, Int.reduceToNat, Nat.reduceAdd, Nat.reduceSub, Nat.reduceMul, Nat.reduceLeDiff, decide_true, decide_false, Bool.not_true, Bool.not_false, Bool.false_eq_true, if_true, if_false, true_and, and_true, and_self, reduceCtorEq, Bool.and_true, Bool.true_and, Bool.and_self, upd_upd, e3, hadd]
        refine next _ ?_
        simp only [go_sem, w64, Int.cast_ofNat_Int, Int.reduceEq, Int.reduceAdd, Int.reduceSub, Int.reduceMul, Int.natCast_zero, Int.natCast_inj, Int.ofNat_lt, Int.ofNat_le, Int.natCast_nonneg, Int.toNat_natCast, Nat.mul_one, Nat.reduceLT, Int.reduceLT, Int.reduceLE, Int.reduceToNat, Nat.reduceAdd, Nat.reduceSub, Nat.reduceMul, Nat.reduceLeDiff, decide_true, decide_false, Bool.not_true, Bool.not_false, Bool.false_eq_true, if_true, if_false, true_and, and_true, and_self, reduceCtorEq, Bool.and_true, Bool.true_and, Bool.and_self, upd_upd, d10_0, hown, hmin]
    · cases e3 : decide (rankN a b by_ m[k] = 65535)
      · rw [if_pos ⟨of_decide_eq_true e1, of_decide_eq_false e3⟩] at hown
        simp only [go_sem, w64, Int.cast_ofNat_Int, Int.reduceEq, Int.reduceAdd, Int.reduceSub, Int.reduceMul, Int.natCast_zero, Int.natCast_inj, Int.ofNat_lt, Int.ofNat_le, Int.natCast_nonneg, Int.toNat_natCast, Nat.mul_one, Nat.reduceLT, Int.reduceLT, Int.reduceLE, Int.reduceToNat, Nat.reduceAdd, Nat.reduceSub, Nat.reduceMul, Nat.reduceLeDiff, decide_true, decide_false, Bool.not_true, Bool.not_false, Bool.false_eq_true, if_true, if_false, true_and, and_true, and_self, reduceCtorEq, Bool.and_true, Bool.true_and, Bool.and_self, upd_upd, e3, hz, q1, hlt, r0]
        cases e2 : decide (m[k].n = c0.n)
        · simp only [go_sem, w64, Int.cast_ofNat_Int, Int.reduceEq, Int.reduceAdd, Int.reduceSub, Int.reduceMul, Int.natCast_zero, Int.natCast_inj, Int.ofNat_lt, Int.ofNat_le, Int.natCast_nonneg, Int.toNat_natCast, Nat.mul_one, Nat.reduceLT, Int.reduceLT, Int.reduceLE, Int.reduceToNat, Nat.reduceAdd, Nat.reduceSub, Nat.reduceMul, Nat.reduceLeDiff, decide_true, decide_false, Bool.not_true, Bool.not_false, Bool.false_eq_true, if_true, if_false, true_and, and_true, and_self, reduceCtorEq, Bool.and_true, Bool.true_and, Bool.and_self, upd_upd, hadd]
          refine next _ ?_
          simp only [go_sem, w64, Int.cast_ofNat_Int, Int.reduceEq, Int.reduceAdd, Int.reduceSub, Int.reduceMul, Int.natCast_zero, Int.natCast_inj, Int.ofNat_lt, Int.ofNat_le, Int.natCast_nonneg, Int.toNat_natCast, Nat.mul_one, Nat.reduceLT, Int.reduceLT, Int.reduceLE, Int.reduceToNat, Nat.reduceAdd, Nat.reduceSub, Nat.reduceMul, Nat.reduceLeDiff, decide_true, decide_false, Bool.not_true, Bool.not_false, Bool.false_eq_true, if_true, if_false, true_and, and_true, and_self, reduceCtorEq, Bool.and_true, Bool.true_and, Bool.and_self, upd_upd, d10_0, hown, hmin]
        · simp only [go_sem, w64, Int.cast_ofNat_Int, Int.reduceEq, Int.reduceAdd, Int.reduceSub, Int.reduceMul, Int.natCast_zero, Int.natCast_inj, Int.ofNat_lt, Int.ofNat_le, Int.natCast_nonneg, Int.toNat_natCast, Nat.mul_one, Nat.reduceLT, Int.reduceLT, Int.reduceLE, Int.reduceToNat, Nat.reduceAdd, Nat.reduceSub, Nat.reduceMul, Nat.reduceLeDiff, decide_true, decide_false, Bool.not_true, Bool.not_false, Bool.false_eq_true, if_true, if_false, true_and, and_true, and_self, reduceCtorEq, Bool.and_true, Bool.true_and, Bool.and_self, upd_upd, e3, hadd]
          refine next _ ?_
          simp only [go_sem, w64, Int.cast_ofNat_Int, Int.reduceEq, Int.reduceAdd, Int.reduceSub, Int.reduceMul, Int.natCast_zero, Int.natCast_inj, Int.ofNat_lt, Int.ofNat_le, Int.natCast_nonneg, Int.toNat_natCast, Nat.mul_one, Nat.reduceLT, Int.reduceLT, Int.reduceLE, Int.reduceToNat, Nat.reduceAdd, Nat.reduceSub, Nat.reduceMul, Nat.reduceLeDiff, decide_true, decide_false, Bool.not_true, Bool.not_false, Bool.false_eq_true, if_true, if_false, true_and, and_true, and_self, reduceCtorEq, Bool.and_true, Bool.true_and, Bool.and_self, upd_upd, d10_0, hown, hmin]
      · rw [if_neg (fun x => x.2 (of_decide_eq_true e3))] at hown
        have e2 : decide (m[k].n = c0.n) = false := decide_eq_false fun x => never x (of_decide_eq_true e3)
        simp only [go_sem, w64, Int.cast_ofNat_Int, Int.reduceEq, Int.reduceAdd, Int.reduceSub, Int.reduceMul, Int.natCast_zero, Int.natCast_inj, Int.ofNat_lt, Int.ofNat_le, Int.natCast_nonneg, Int.toNat_natCast, Nat.mul_one, Nat.reduceLT, Int.reduceLT, Int.reduceLE, Int.reduceToNat, Nat.reduceAdd, Nat.reduceSub, Nat.reduceMul, Nat.reduceLeDiff, decide_true, decide_false, Bool.not_true, Bool.not_false, Bool.false_eq_true, if_true, if_false, true_and, and_true, and_self, reduceCtorEq, Bool.and_true, Bool.true_and, Bool.and_self, upd_upd, e3, hlt, r0, e2, hadd]
        refine next _ ?_
        simp only [go_sem, w64, Int.cast_ofNat_Int, Int.reduceEq, Int.reduceAdd, Int.reduceSub, Int.reduceMul, Int.natCast_zero, Int.natCast_inj, Int.ofNat_lt, Int.ofNat_le, Int.natCast_nonneg, Int.toNat_natCast, Nat.mul_one, Nat.reduceLT, Int.reduceLT, Int.reduceLE, Int.reduceToNat, Nat.reduceAdd, Nat.reduceSub, Nat.reduceMul, Nat.reduceLeDiff, decide_true, decide_false, Bool.not_true, Bool.not_false, Bool.false_eq_true, if_true, if_false, true_and, and_true, and_self, reduceCtorEq, Bool.and_true, Bool.true_and, Bool.and_self, upd_upd, d10_0, hown, hmin]
  · have hkl : k = m.length := by omega
    subst hkl
    rw [List.take_length]
    have hi := stays0 h1 h2 hr e
    simp only [go_sem, w64, Int.cast_ofNat_Int, Int.reduceEq, Int.reduceAdd, Int.reduceSub, Int.reduceMul, Int.natCast_zero, Int.natCast_inj, Int.ofNat_lt, Int.ofNat_le, Int.natCast_nonneg, Int.toNat_natCast, Nat.mul_one, Nat.reduceLT, Int.reduceLT, Int.reduceLE, Int.reduceToNat, Nat.reduceAdd, Nat.reduceSub, Nat.reduceMul, Nat.reduceLeDiff, decide_true, decide_false, Bool.not_true, Bool.not_false, Bool.false_eq_true, if_true, if_false, true_and, and_true, and_self, reduceCtorEq, Bool.and_true, Bool.true_and, Bool.and_self, upd_upd, hlt]
    refine frz_id ?_
    refine (known15_spec _).use ?_
    cases e1 : decide (ownS a b by_ now m = leastS a b by_ m)
    · have e2 : decide (c0.n = now) = false := decide_eq_false fun x => of_decide_eq_false e1 (hi.2 x).1
      simp only [go_sem, w64, Int.cast_ofNat_Int, Int.reduceEq, Int.reduceAdd, Int.reduceSub, Int.reduceMul, Int.natCast_zero, Int.natCast_inj, Int.ofNat_lt, Int.ofNat_le, Int.natCast_nonneg, Int.toNat_natCast, Nat.mul_one, Nat.reduceLT, Int.reduceLT, Int.reduceLE, Int.reduceToNat, Nat.reduceAdd, Nat.reduceSub, Nat.reduceMul, Nat.reduceLeDiff, decide_true, decide_false, Bool.not_true, Bool.not_false, Bool.false_eq_true, if_true, if_false, true_and, and_true, and_self, reduceCtorEq, Bool.and_true, Bool.true_and, Bool.and_self, upd_upd, e1, e2]
      (refine hQ _ _ _ _ _ (by first | exact .inr rfl | exact .inl rfl) rfl (by first | exact FzH.refl _ | exact FzH.sub (by (repeat' (first | exact Sub.refl _ | assumption | (refine Sub.upd ?_ (by first | assumption | (simp only [*]; done) | exact Sub.isNone (by assumption) (by assumption) | exact Sub.isNone (by assumption) (by simp only [*]))))))) (FzL.refl _ _ _) ?_; try (simp only [go_sem, w64, Int.cast_ofNat_Int, Int.reduceEq, Int.reduceAdd, Int.reduceSub, Int.reduceMul, Int.natCast_zero, Int.natCast_inj, Int.ofNat_lt, Int.ofNat_le, Int.natCast_nonneg, Int.toNat_natCast, Nat.mul_one, Nat.reduceLT, Int.reduceLT, Int.reduceLE, Int.reduceToNat, Nat.reduceAdd, Nat.reduceSub, Nat.reduceMul, Nat.reduceLeDiff, decide_true, decide_false, Bool.not_true, Bool.not_false, Bool.false_eq_true, if_true, if_false, true_and, and_true, and_self, reduceCtorEq, Bool.and_true, Bool.true_and, Bool.and_self, upd_upd]))
    · cases e3 : decide (ownS a b by_ now m = 65535)
      · have e2 : decide (c0.n = now) = true := decide_eq_true (hi.1 ⟨of_decide_eq_true e1, of_decide_eq_false e3⟩)
        simp only [go_sem, w64, Int.cast_ofNat_Int, Int.reduceEq, Int.reduceAdd, Int.reduceSub, Int.reduceMul, Int.natCast_zero, Int.natCast_inj, Int.ofNat_lt, Int.ofNat_le, Int.natCast_nonneg, Int.toNat_natCast, Nat.mul_one, Nat.reduceLT, Int.reduceLT, Int.reduceLE, Int.reduceToNat, Nat.reduceAdd, Nat.reduceSub, Nat.reduceMul, Nat.reduceLeDiff, decide_true, decide_false, Bool.not_true, Bool.not_false, Bool.false_eq_true, if_true, if_false, true_and, and_true, and_self, reduceCtorEq, Bool.and_true, Bool.true_and, Bool.and_self, upd_upd, e1, e2, e3]
        (refine hQ _ _ _ _ _ (by first | exact .inr rfl | exact .inl rfl) rfl (by first | exact FzH.refl _ | exact FzH.sub (by (repeat' (first | exact Sub.refl _ | assumption | (refine Sub.upd ?_ (by first | assumption | (simp only [*]; done) | exact Sub.isNone (by assumption) (by assumption) | exact Sub.isNone (by assumption) (by simp only [*]))))))) (FzL.refl _ _ _) ?_; try (simp only [go_sem, w64, Int.cast_ofNat_Int, Int.reduceEq, Int.reduceAdd, Int.reduceSub, Int.reduceMul, Int.natCast_zero, Int.natCast_inj, Int.ofNat_lt, Int.ofNat_le, Int.natCast_nonneg, Int.toNat_natCast, Nat.mul_one, Nat.reduceLT, Int.reduceLT, Int.reduceLE, Int.reduceToNat, Nat.reduceAdd, Nat.reduceSub, Nat.reduceMul, Nat.reduceLeDiff, decide_true, decide_false, Bool.not_true, Bool.not_false, Bool.false_eq_true, if_true, if_false, true_and, and_true, and_self, reduceCtorEq, Bool.and_true, Bool.true_and, Bool.and_self, upd_upd]))
      · have e2 : decide (c0.n = now) = false := decide_eq_false fun x => (hi.2 x).2 (of_decide_eq_true e3)
        simp only [go_sem, w64, Int.cast_ofNat_Int, Int.reduceEq, Int.reduceAdd, Int.reduceSub, Int.reduceMul, Int.natCast_zero, Int.natCast_inj, Int.ofNat_lt, Int.ofNat_le, Int.natCast_nonneg, Int.toNat_natCast, Nat.mul_one, Nat.reduceLT, Int.reduceLT, Int.reduceLE, Int.reduceToNat, Nat.reduceAdd, Nat.reduceSub, Nat.reduceMul, Nat.reduceLeDiff, decide_true, decide_false, Bool.not_true, Bool.not_false, Bool.false_eq_true, if_true, if_false, true_and, and_true, and_self, reduceCtorEq, Bool.and_true, Bool.true_and, Bool.and_self, upd_upd, e1, e2, e3]
        (refine hQ _ _ _ _ _ (by first | exact .inr rfl | exact .inl rfl) rfl (by first | exact FzH.refl _ | exact FzH.sub (by (repeat' (first | exact Sub.refl _ | assumption | (refine Sub.upd ?_ (by first | assumption | (simp only [*]; done) | exact Sub.isNone (by assumption) (by assumption) | exact Sub.isNone (by assumption) (by simp only [*]))))))) (FzL.refl _ _ _) ?_; try (simp only [go_sem, w64, Int.cast_ofNat_Int, Int.reduceEq, Int.reduceAdd, Int.reduceSub, Int.reduceMul, Int.natCast_zero, Int.natCast_inj, Int.ofNat_lt, Int.ofNat_le, Int.natCast_nonneg, Int.toNat_natCast, Nat.mul_one, Nat.reduceLT, Int.reduceLT, Int.reduceLE, Int.reduceToNat, Nat.reduceAdd, Nat.reduceSub, Nat.reduceMul, Nat.reduceLeDiff, decide_true, decide_false, Bool.not_true, Bool.not_false, Bool.false_eq_true, if_true, if_false, true_and, and_true, and_self, reduceCtorEq, Bool.and_true, Bool.true_and, Bool.and_self, upd_upd]))

theorem zstays_law (xs : List AV) (h : ArgsSh Try.prog 6 Try.f10.params.toList xs) : PureA Try.prog 10 xs emp (.bool true) := by
  rw [Try.params10] at h
  simp only [ArgsSh, ArgSh, Try.underlying24, Try.underlying77, Try.underlying3] at h
  obtain ⟨x, _, rfl, hx, y, _, rfl, hy, u, _, rfl, hu, z, _, rfl, hz, rfl⟩ := h
  rw [ShC] at hz
  simp only [Try.underlying77] at hz
  simp only [Try.underlying24, Try.underlying3, ShC, ShFs] at hx hy hu
  obtain ⟨_, rfl, _, _, rfl, _, ⟨a, rfl, _⟩, _, _, rfl, _, ⟨b, rfl, _⟩, rfl⟩ := hx
  obtain ⟨m, hm, _⟩ := hy
  cases hm
  obtain ⟨n, hn, _⟩ := hu
  cases hn
  obtain ⟨els, e, hl, hels⟩ := hz
  cases e
  obtain ⟨l, e1, e2, e3⟩ := cds_sh (els := els) fun el hel => ⟨(hels el hel).1, by
    have := (hels el hel).2
    rw [ShC] at this
    simp only [Try.underlying67] at this ⊢
    exact this⟩
  rw [e1, e2]
  exact zstays_spec a b m n l emp (by have := maxLen_le; omega)

end Go.Proofs.Ytaeppifdbcoipaa
