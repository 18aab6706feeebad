/-
  Parents: by the first code.
-/
import Derived.Test.YtaeppifdbcoipaaPa
namespace Go.Proofs.Ytaeppifdbcoipaa
open Go E
set_option linter.unusedVariables false
set_option linter.unusedSimpArgs false
set_option linter.unusedSectionVars false
set_option maxRecDepth 100000

structure Ch where
  pref : Int
  rank : Int
  ps : List Int
def Ch.av (c : Ch) : AV := .agg [.int .i64 c.pref, .int .i64 c.rank, .ro (cat i1 c.ps) c.ps.length false]
def nobody : Ch := ⟨-1, 65535, []⟩

def zStep (by_ own : Int) (q : List Cd) (c : Cd) : List Cd := if isBehind c.r own by_ = true ∧ q.length < 7 then q ++ [c] else q
def zAll (by_ own : Int) (c0 : Cd) (l : List Cd) : List Cd := l.foldl (zStep by_ own) [c0]
theorem zAll_snoc (by_ own : Int) (c0 : Cd) (l : List Cd) (c : Cd) : zAll by_ own c0 (l ++ [c]) = zStep by_ own (zAll by_ own c0 l) c := by simp [zAll]
theorem zAll_len (by_ own : Int) (c0 : Cd) (l : List Cd) : (zAll by_ own c0 l).length ≤ l.length + 1 := by
  induction l using snoc_ind with
  | h0 => simp [zAll]
  | h1 l c ih => rw [zAll_snoc]; unfold zStep; split <;> simp <;> omega
theorem zAll_ne (by_ own : Int) (c0 : Cd) (l : List Cd) : zAll by_ own c0 l ≠ [] := by
  induction l using snoc_ind with
  | h0 => simp [zAll]
  | h1 l c ih => rw [zAll_snoc]; unfold zStep; split <;> simp [ih]

/-- Who is chosen by the first code. -/
def zCh (p : Pol) (now : Int) (l : List Cd) : Ch := match ordR p.zf p.zs p.least now l with
  | [] => nobody
  | c0 :: r => ⟨c0.n, rankN p.zf p.zs p.least c0, (zAll p.least (rankN p.zf p.zs p.least c0) c0 r).map (·.n)⟩

theorem MD.fin {h H : AHeap} {p : Nat} {pref rank : Int} {nodes : List Int} (m : MD h p pref rank nodes H) : ∃ v, aloads H 3 (.ptr p 0) = some [.int .i64 pref, .int .i64 rank, v] ∧ Fz H h v (.ro (cat i1 nodes) nodes.length false) ∧ FzH H h ∧ scalar v = true := by
  obtain ⟨hp, v, H2, g, hp2, rfl⟩ := m
  refine ⟨v, by simp [aloads, upd], Fz_mono (upd_new hp2) (Sub.refl _) g.fz, ?_, g.box.2⟩
  refine FzH.sub fun x o e => ?_
  have : x ≠ p := by rintro rfl; rw [hp] at e; cases e
  rw [upd_ne this]; exact g.keep e

theorem MD.at {h H : AHeap} {p : Nat} {pref rank : Int} {nodes : List Int} (m : MD h p pref rank nodes H) : ∃ v, H p = some (.cells [.int .i64 pref, .int .i64 rank, v] 3) ∧ lenA false v = some (.int .i64 (nodes.length : Int)) := by
  obtain ⟨hp, v, H2, g, hp2, rfl⟩ := m
  exact ⟨v, upd_same, g.len⟩
theorem MD.keep {h H : AHeap} {p : Nat} {pref rank : Int} {nodes : List Int} (m : MD h p pref rank nodes H) {x : Nat} {o : AObj} (hx : h x = some o) : H x = some o := by
  obtain ⟨hp, v, H2, g, hp2, rfl⟩ := m
  rw [upd_ne (by rintro rfl; rw [hp] at hx; cases hx)]; exact g.keep hx

theorem pzero_spec (p : Pol) (now : Int) (l : List Cd) (ex : Bool) (h : AHeap) (hn : l.length ≤ 12) :
    PureA Try.prog 125 [.agg p.av, .int .i64 now, .ro (cat encC l) l.length ex] h (.tup [(zCh p now l).av, .int .i64 (if okOrd p.zf p.zs p.least l then 0 else 1)]) := by
  (refine PureA.enter (ac := c125) (rs := r125) Try.func125 rfl (by decide) c125_ok r125_ok ?_; intro Q hQ; simp only [go_sem, w64, Int.cast_ofNat_Int, Int.reduceEq, Int.reduceAdd, Int.reduceSub, Int.reduceMul, Int.natCast_zero, Int.natCast_inj, Int.ofNat_lt, Int.ofNat_le, Int.natCast_nonneg, Int.toNat_natCast, Nat.mul_one, Nat.reduceLT, Int.reduceLT, Int.reduceLE, Int.reduceToNat, Nat.reduceAdd, Nat.reduceSub, Nat.reduceMul, Nat.reduceLeDiff, decide_true, decide_false, Bool.not_true, Bool.not_false, Bool.false_eq_true, if_true, if_false, true_and, and_true, and_self, reduceCtorEq, Bool.and_true, Bool.true_and, Bool.and_self, upd_upd, c125, Try.ntmps125, Pol.av])
  intro b hb
  refine (order_spec p.zf p.zs p.least now l ex _ hn).use ?_
  cases g : okOrd p.zf p.zs p.least l
  · have e : ordR p.zf p.zs p.least now l = [] := by unfold ordR; rw [g]; rfl
    have ez : zCh p now l = nobody := by unfold zCh; rw [e]
    simp only [go_sem, w64, Int.cast_ofNat_Int, Int.reduceEq, Int.reduceAdd, Int.reduceSub, Int.reduceMul, Int.natCast_zero, Int.natCast_inj, Int.ofNat_lt, Int.ofNat_le, Int.natCast_nonneg, Int.toNat_natCast, Nat.mul_one, Nat.reduceLT, Int.reduceLT, Int.reduceLE, Int.reduceToNat, Nat.reduceAdd, Nat.reduceSub, Nat.reduceMul, Nat.reduceLeDiff, decide_true, decide_false, Bool.not_true, Bool.not_false, Bool.false_eq_true, if_true, if_false, true_and, and_true, and_self, reduceCtorEq, Bool.and_true, Bool.true_and, Bool.and_self, upd_upd, show decide ((1 : Int) = 0) = false from rfl]
    refine (pnobody_spec _).use ?_
    simp only [go_sem, w64, Int.cast_ofNat_Int, Int.reduceEq, Int.reduceAdd, Int.reduceSub, Int.reduceMul, Int.natCast_zero, Int.natCast_inj, Int.ofNat_lt, Int.ofNat_le, Int.natCast_nonneg, Int.toNat_natCast, Nat.mul_one, Nat.reduceLT, Int.reduceLT, Int.reduceLE, Int.reduceToNat, Nat.reduceAdd, Nat.reduceSub, Nat.reduceMul, Nat.reduceLeDiff, decide_true, decide_false, Bool.not_true, Bool.not_false, Bool.false_eq_true, if_true, if_false, true_and, and_true, and_self, reduceCtorEq, Bool.and_true, Bool.true_and, Bool.and_self, upd_upd]
    refine hQ _ _ _ _ [nobody.av, .int .i64 1] (by first | exact .inr rfl | exact .inl rfl) (by first | rfl | (simp only [go_sem, w64, Int.cast_ofNat_Int, Int.reduceEq, Int.reduceAdd, Int.reduceSub, Int.reduceMul, Int.natCast_zero, Int.natCast_inj, Int.ofNat_lt, Int.ofNat_le, Int.natCast_nonneg, Int.toNat_natCast, Nat.mul_one, Nat.reduceLT, Int.reduceLT, Int.reduceLE, Int.reduceToNat, Nat.reduceAdd, Nat.reduceSub, Nat.reduceMul, Nat.reduceLeDiff, decide_true, decide_false, Bool.not_true, Bool.not_false, Bool.false_eq_true, if_true, if_false, true_and, and_true, and_self, reduceCtorEq, Bool.and_true, Bool.true_and, Bool.and_self, upd_upd, r125]; rfl) | simp only [go_sem, w64, Int.cast_ofNat_Int, Int.reduceEq, Int.reduceAdd, Int.reduceSub, Int.reduceMul, Int.natCast_zero, Int.natCast_inj, Int.ofNat_lt, Int.ofNat_le, Int.natCast_nonneg, Int.toNat_natCast, Nat.mul_one, Nat.reduceLT, Int.reduceLT, Int.reduceLE, Int.reduceToNat, Nat.reduceAdd, Nat.reduceSub, Nat.reduceMul, Nat.reduceLeDiff, decide_true, decide_false, Bool.not_true, Bool.not_false, Bool.false_eq_true, if_true, if_false, true_and, and_true, and_self, reduceCtorEq, Bool.and_true, Bool.true_and, Bool.and_self, upd_upd, r125]) (FzH.sub (by (repeat' (first | exact Sub.refl _ | assumption | (refine Sub.upd ?_ (by first | assumption | (simp only [*]; done) | exact Sub.isNone (by assumption) (by assumption) | exact Sub.isNone (by assumption) (by simp only [*]))))))) (.cons (.agg (.cons (.refl _) (.cons (.refl _) (.cons .nils .nil)))) (.cons (.refl _) .nil)) ?_
    rw [ez, g]; rfl
  have hR : ordR p.zf p.zs p.least now l = ordL p.zf p.zs p.least now l := by unfold ordR; rw [g]; rfl
  have hol : (ordL p.zf p.zs p.least now l).length ≤ 12 := by
    have := offL_len p.zf p.zs p.least l
    unfold ordL; rw [List.length_map, isort_len]; omega
  have hz : zCh p now l = match ordL p.zf p.zs p.least now l with
    | [] => nobody
    | c0 :: r => ⟨c0.n, rankN p.zf p.zs p.least c0, (zAll p.least (rankN p.zf p.zs p.least c0) c0 r).map (·.n)⟩ := by unfold zCh; rw [hR]
  rw [hR]
  cases e : ordL p.zf p.zs p.least now l with
  | nil =>
    have ez : zCh p now l = nobody := by rw [hz, e]
    simp only [go_sem, w64, Int.cast_ofNat_Int, Int.reduceEq, Int.reduceAdd, Int.reduceSub, Int.reduceMul, Int.natCast_zero, Int.natCast_inj, Int.ofNat_lt, Int.ofNat_le, Int.natCast_nonneg, Int.toNat_natCast, Nat.mul_one, Nat.reduceLT, Int.reduceLT, Int.reduceLE, Int.reduceToNat, Nat.reduceAdd, Nat.reduceSub, Nat.reduceMul, Nat.reduceLeDiff, decide_true, decide_false, Bool.not_true, Bool.not_false, Bool.false_eq_true, if_true, if_false, true_and, and_true, and_self, reduceCtorEq, Bool.and_true, Bool.true_and, Bool.and_self, upd_upd, List.length_nil]
    refine (pnobody_spec _).use ?_
    simp only [go_sem, w64, Int.cast_ofNat_Int, Int.reduceEq, Int.reduceAdd, Int.reduceSub, Int.reduceMul, Int.natCast_zero, Int.natCast_inj, Int.ofNat_lt, Int.ofNat_le, Int.natCast_nonneg, Int.toNat_natCast, Nat.mul_one, Nat.reduceLT, Int.reduceLT, Int.reduceLE, Int.reduceToNat, Nat.reduceAdd, Nat.reduceSub, Nat.reduceMul, Nat.reduceLeDiff, decide_true, decide_false, Bool.not_true, Bool.not_false, Bool.false_eq_true, if_true, if_false, true_and, and_true, and_self, reduceCtorEq, Bool.and_true, Bool.true_and, Bool.and_self, upd_upd]
    refine hQ _ _ _ _ [nobody.av, .int .i64 0] (by first | exact .inr rfl | exact .inl rfl) (by first | rfl | (simp only [go_sem, w64, Int.cast_ofNat_Int, Int.reduceEq, Int.reduceAdd, Int.reduceSub, Int.reduceMul, Int.natCast_zero, Int.natCast_inj, Int.ofNat_lt, Int.ofNat_le, Int.natCast_nonneg, Int.toNat_natCast, Nat.mul_one, Nat.reduceLT, Int.reduceLT, Int.reduceLE, Int.reduceToNat, Nat.reduceAdd, Nat.reduceSub, Nat.reduceMul, Nat.reduceLeDiff, decide_true, decide_false, Bool.not_true, Bool.not_false, Bool.false_eq_true, if_true, if_false, true_and, and_true, and_self, reduceCtorEq, Bool.and_true, Bool.true_and, Bool.and_self, upd_upd, r125]; rfl) | simp only [go_sem, w64, Int.cast_ofNat_Int, Int.reduceEq, Int.reduceAdd, Int.reduceSub, Int.reduceMul, Int.natCast_zero, Int.natCast_inj, Int.ofNat_lt, Int.ofNat_le, Int.natCast_nonneg, Int.toNat_natCast, Nat.mul_one, Nat.reduceLT, Int.reduceLT, Int.reduceLE, Int.reduceToNat, Nat.reduceAdd, Nat.reduceSub, Nat.reduceMul, Nat.reduceLeDiff, decide_true, decide_false, Bool.not_true, Bool.not_false, Bool.false_eq_true, if_true, if_false, true_and, and_true, and_self, reduceCtorEq, Bool.and_true, Bool.true_and, Bool.and_self, upd_upd, r125]) (FzH.sub (by (repeat' (first | exact Sub.refl _ | assumption | (refine Sub.upd ?_ (by first | assumption | (simp only [*]; done) | exact Sub.isNone (by assumption) (by assumption) | exact Sub.isNone (by assumption) (by simp only [*]))))))) (.cons (.agg (.cons (.refl _) (.cons (.refl _) (.cons .nils .nil)))) (.cons (.refl _) .nil)) ?_
    rw [ez, g]; rfl
  | cons c0 r =>
    rw [e] at hz hol
    simp only at hz
    generalize hL : c0 :: r = L at *
    have hpos : 0 < L.length := by rw [← hL]; simp
    have hpos' : (0 : Int) < (L.length : Int) := by omega
    have h0 : L[0] = c0 := by subst hL; rfl
    have hz0 : decide ((L.length : Int) = 0) = false := decide_eq_false (by omega)
    have ra : ∀ h : AHeap, aloads h 3 (.rp (cat encC L)) = some (encC c0) := fun h => by
      have := rd_all (h := h) encC_len hpos
      simpa [h0] using this
    have hl3 : (3 ≤ (cat encC L).length) = True := by rw [cat_len encC_len]; simp; omega
    have ht3 : List.take 3 (cat encC L) = encC c0 := by subst hL; rfl
    simp only [go_sem, w64, Int.cast_ofNat_Int, Int.reduceEq, Int.reduceAdd, Int.reduceSub, Int.reduceMul, Int.natCast_zero, Int.natCast_inj, Int.ofNat_lt, Int.ofNat_le, Int.natCast_nonneg, Int.toNat_natCast, Nat.mul_one, Nat.reduceLT, Int.reduceLT, Int.reduceLE, Int.reduceToNat, Nat.reduceAdd, Nat.reduceSub, Nat.reduceMul, Nat.reduceLeDiff, decide_true, decide_false, Bool.not_true, Bool.not_false, Bool.false_eq_true, if_true, if_false, true_and, and_true, and_self, reduceCtorEq, Bool.and_true, Bool.true_and, Bool.and_self, upd_upd, hz0]
    refine (pnobody_spec _).use ?_
    simp only [go_sem, w64, Int.cast_ofNat_Int, Int.reduceEq, Int.reduceAdd, Int.reduceSub, Int.reduceMul, Int.natCast_zero, Int.natCast_inj, Int.ofNat_lt, Int.ofNat_le, Int.natCast_nonneg, Int.toNat_natCast, Nat.mul_one, Nat.reduceLT, Int.reduceLT, Int.reduceLE, Int.reduceToNat, Nat.reduceAdd, Nat.reduceSub, Nat.reduceMul, Nat.reduceLeDiff, decide_true, decide_false, Bool.not_true, Bool.not_false, Bool.false_eq_true, if_true, if_false, true_and, and_true, and_self, reduceCtorEq, Bool.and_true, Bool.true_and, Bool.and_self, upd_upd]
    intro m hm
    simp only [go_sem, w64, Int.cast_ofNat_Int, Int.reduceEq, Int.reduceAdd, Int.reduceSub, Int.reduceMul, Int.natCast_zero, Int.natCast_inj, Int.ofNat_lt, Int.ofNat_le, Int.natCast_nonneg, Int.toNat_natCast, Nat.mul_one, Nat.reduceLT, Int.reduceLT, Int.reduceLE, Int.reduceToNat, Nat.reduceAdd, Nat.reduceSub, Nat.reduceMul, Nat.reduceLeDiff, decide_true, decide_false, Bool.not_true, Bool.not_false, Bool.false_eq_true, if_true, if_false, true_and, and_true, and_self, reduceCtorEq, Bool.and_true, Bool.true_and, Bool.and_self, upd_upd, hpos', hl3, ht3]
    refine (mparent_spec (h := _) (p := m) (pref := -1) (rank := 65535) (nodes := []) ⟨hm, .nils, _, Grow.nil, hm, rfl⟩ (by simp) c0).use ?_
    rintro _ H1 ⟨rfl, hp1, v1, K1, gr1, hm1, rfl⟩
    have hm1' : ∀ X, upd K1 m X m = some X := fun X => upd_same
    simp only [go_sem, w64, Int.cast_ofNat_Int, Int.reduceEq, Int.reduceAdd, Int.reduceSub, Int.reduceMul, Int.natCast_zero, Int.natCast_inj, Int.ofNat_lt, Int.ofNat_le, Int.natCast_nonneg, Int.toNat_natCast, Nat.mul_one, Nat.reduceLT, Int.reduceLT, Int.reduceLE, Int.reduceToNat, Nat.reduceAdd, Nat.reduceSub, Nat.reduceMul, Nat.reduceLeDiff, decide_true, decide_false, Bool.not_true, Bool.not_false, Bool.false_eq_true, if_true, if_false, true_and, and_true, and_self, reduceCtorEq, Bool.and_true, Bool.true_and, Bool.and_self, upd_upd, hpos', hl3, ht3]
    refine (zrank_spec p.zf p.zs p.least c0 _).use ?_
    have gg := g
    simp only [okOrd, Bool.and_eq_true] at gg
    obtain ⟨⟨gf, gr⟩, gl⟩ := gg
    have hmem : ∀ c ∈ L, oneB c = true := fun c hc => by
      rw [← e] at hc
      obtain ⟨o, ho, rfl⟩ := List.mem_map.1 hc
      exact List.all_eq_true.1 (rightL_one gr) _ (mem_off (mem_isort.1 ho)).1
    have hok := okRank_of gf gl (hmem c0 (by rw [← hL]; simp))
    have hsl : sliceA 3 (.ro (cat encC L) L.length false) (some (.int .i64 1)) none none = some (.ro (cat encC r) r.length false) := by
      have := sl_lo (k1 := .i64) (ex := false) encC_len (l := L) (a := 1) (by omega)
      have e1 : L.drop 1 = r := by subst hL; rfl
      rw [e1] at this
      simpa using this
    have hrl : r.length ≤ 11 := by have := congrArg List.length hL; simp at this; omega
    simp only [go_sem, w64, Int.cast_ofNat_Int, Int.reduceEq, Int.reduceAdd, Int.reduceSub, Int.reduceMul, Int.natCast_zero, Int.natCast_inj, Int.ofNat_lt, Int.ofNat_le, Int.natCast_nonneg, Int.toNat_natCast, Nat.mul_one, Nat.reduceLT, Int.reduceLT, Int.reduceLE, Int.reduceToNat, Nat.reduceAdd, Nat.reduceSub, Nat.reduceMul, Nat.reduceLeDiff, decide_true, decide_false, Bool.not_true, Bool.not_false, Bool.false_eq_true, if_true, if_false, true_and, and_true, and_self, reduceCtorEq, Bool.and_true, Bool.true_and, Bool.and_self, upd_upd, hok, upd_same, show decide ((0 : Int) = 0) = true from rfl, hsl]
    generalize hown : rankN p.zf p.zs p.least c0 = own at *
    refine loop_range d125_0 r.length (fun k s => s.set 64 (.int .i64 k)) (fun k H => MD (upd h b (.cells [.int .i64 0, .int .i64 0, .nils] 3)) m c0.n own ((zAll p.least own c0 (r.take k)).map (fun c : Cd => c.n)) H) ?_ ⟨hp1, v1, K1, gr1, hm1, rfl⟩ ?_
    · (simp only [go_sem, w64, Int.cast_ofNat_Int, Int.reduceEq, Int.reduceAdd, Int.reduceSub, Int.reduceMul, Int.natCast_zero, Int.natCast_inj, Int.ofNat_lt, Int.ofNat_le, Int.natCast_nonneg, Int.toNat_natCast, Nat.mul_one, Nat.reduceLT, Int.reduceLT, Int.reduceLE, Int.reduceToNat, Nat.reduceAdd, Nat.reduceSub, Nat.reduceMul, Nat.reduceLeDiff, decide_true, decide_false, Bool.not_true, Bool.not_false, Bool.false_eq_true, if_true, if_false, true_and, and_true, and_self, reduceCtorEq, Bool.and_true, Bool.true_and, Bool.and_self, upd_upd, d125_0] <;> rfl)
    rintro N k H hk md hN
    simp only [go_sem, w64, Int.cast_ofNat_Int, Int.reduceEq, Int.reduceAdd, Int.reduceSub, Int.reduceMul, Int.natCast_zero, Int.natCast_inj, Int.ofNat_lt, Int.ofNat_le, Int.natCast_nonneg, Int.toNat_natCast, Nat.mul_one, Nat.reduceLT, Int.reduceLT, Int.reduceLE, Int.reduceToNat, Nat.reduceAdd, Nat.reduceSub, Nat.reduceMul, Nat.reduceLeDiff, decide_true, decide_false, Bool.not_true, Bool.not_false, Bool.false_eq_true, if_true, if_false, true_and, and_true, and_self, reduceCtorEq, Bool.and_true, Bool.true_and, Bool.and_self, upd_upd, d125_0]
    have hadd := wadd1 (k := k) (by omega)
    by_cases hlt : k < r.length
    · have rk := rd_all (h := H) encC_len hlt
      obtain ⟨v, hat, hlen⟩ := md.at
      have hsn := zAll_snoc p.least own c0 (r.take k) r[k]
      rw [← List.take_succ_eq_append_getElem hlt] at hsn
      have hzl := zAll_len p.least own c0 (r.take k)
      rw [List.length_take] at hzl
      have hne := zAll_ne p.least own c0 (r.take k)
      have stay : ¬ (isBehind r[k].r own p.least = true ∧ (zAll p.least own c0 (r.take k)).length < 7) → MD (upd h b (.cells [.int .i64 0, .int .i64 0, .nils] 3)) m c0.n own ((zAll p.least own c0 (r.take (k + 1))).map (fun c : Cd => c.n)) H := fun hh => by
        rw [hsn]; unfold zStep; rw [if_neg hh]; exact md
      simp only [go_sem, w64, Int.cast_ofNat_Int, Int.reduceEq, Int.reduceAdd, Int.reduceSub, Int.reduceMul, Int.natCast_zero, Int.natCast_inj, Int.ofNat_lt, Int.ofNat_le, Int.natCast_nonneg, Int.toNat_natCast, Nat.mul_one, Nat.reduceLT, Int.reduceLT, Int.reduceLE, Int.reduceToNat, Nat.reduceAdd, Nat.reduceSub, Nat.reduceMul, Nat.reduceLeDiff, decide_true, decide_false, Bool.not_true, Bool.not_false, Bool.false_eq_true, if_true, if_false, true_and, and_true, and_self, reduceCtorEq, Bool.and_true, Bool.true_and, Bool.and_self, upd_upd, hlt, hadd, rk, encC_len, encC_sca]
      intro q hq
      simp only [go_sem, w64, Int.cast_ofNat_Int, Int.reduceEq, Int.reduceAdd, Int.reduceSub, Int.reduceMul, Int.natCast_zero, Int.natCast_inj, Int.ofNat_lt, Int.ofNat_le, Int.natCast_nonneg, Int.toNat_natCast, Nat.mul_one, Nat.reduceLT, Int.reduceLT, Int.reduceLE, Int.reduceToNat, Nat.reduceAdd, Nat.reduceSub, Nat.reduceMul, Nat.reduceLeDiff, decide_true, decide_false, Bool.not_true, Bool.not_false, Bool.false_eq_true, if_true, if_false, true_and, and_true, and_self, reduceCtorEq, Bool.and_true, Bool.true_and, Bool.and_self, upd_upd, del_none hq, encC, hat]
      refine (behind_spec r[k].r own p.least _).use ?_
      cases e1 : isBehind r[k].r own p.least
      · simp only [go_sem, w64, Int.cast_ofNat_Int, Int.reduceEq, Int.reduceAdd, Int.reduceSub, Int.reduceMul, Int.natCast_zero, Int.natCast_inj, Int.ofNat_lt, Int.ofNat_le, Int.natCast_nonneg, Int.toNat_natCast, Nat.mul_one, Nat.reduceLT, Int.reduceLT, Int.reduceLE, Int.reduceToNat, Nat.reduceAdd, Nat.reduceSub, Nat.reduceMul, Nat.reduceLeDiff, decide_true, decide_false, Bool.not_true, Bool.not_false, Bool.false_eq_true, if_true, if_false, true_and, and_true, and_self, reduceCtorEq, Bool.and_true, Bool.true_and, Bool.and_self, upd_upd, hadd]
        refine hN _ _ hlt ?_ (stay fun hh => by rw [e1] at hh; cases hh.1)
        simp only [go_sem, w64, Int.cast_ofNat_Int, Int.reduceEq, Int.reduceAdd, Int.reduceSub, Int.reduceMul, Int.natCast_zero, Int.natCast_inj, Int.ofNat_lt, Int.ofNat_le, Int.natCast_nonneg, Int.toNat_natCast, Nat.mul_one, Nat.reduceLT, Int.reduceLT, Int.reduceLE, Int.reduceToNat, Nat.reduceAdd, Nat.reduceSub, Nat.reduceMul, Nat.reduceLeDiff, decide_true, decide_false, Bool.not_true, Bool.not_false, Bool.false_eq_true, if_true, if_false, true_and, and_true, and_self, reduceCtorEq, Bool.and_true, Bool.true_and, Bool.and_self, upd_upd, d125_0, encC]
      · simp only [go_sem, w64, Int.cast_ofNat_Int, Int.reduceEq, Int.reduceAdd, Int.reduceSub, Int.reduceMul, Int.natCast_zero, Int.natCast_inj, Int.ofNat_lt, Int.ofNat_le, Int.natCast_nonneg, Int.toNat_natCast, Nat.mul_one, Nat.reduceLT, Int.reduceLT, Int.reduceLE, Int.reduceToNat, Nat.reduceAdd, Nat.reduceSub, Nat.reduceMul, Nat.reduceLeDiff, decide_true, decide_false, Bool.not_true, Bool.not_false, Bool.false_eq_true, if_true, if_false, true_and, and_true, and_self, reduceCtorEq, Bool.and_true, Bool.true_and, Bool.and_self, upd_upd, hat, hlen, List.length_map]
        by_cases e2 : (zAll p.least own c0 (r.take k)).length < 7
        · have e2' : decide (((zAll p.least own c0 (r.take k)).length : Int) < 7) = true := decide_eq_true (by omega)
          simp only [go_sem, w64, Int.cast_ofNat_Int, Int.reduceEq, Int.reduceAdd, Int.reduceSub, Int.reduceMul, Int.natCast_zero, Int.natCast_inj, Int.ofNat_lt, Int.ofNat_le, Int.natCast_nonneg, Int.toNat_natCast, Nat.mul_one, Nat.reduceLT, Int.reduceLT, Int.reduceLE, Int.reduceToNat, Nat.reduceAdd, Nat.reduceSub, Nat.reduceMul, Nat.reduceLeDiff, decide_true, decide_false, Bool.not_true, Bool.not_false, Bool.false_eq_true, if_true, if_false, true_and, and_true, and_self, reduceCtorEq, Bool.and_true, Bool.true_and, Bool.and_self, upd_upd, e2']
          refine (mparent_spec md (by rw [List.length_map]; omega) r[k]).use ?_
          rintro _ H3 ⟨rfl, md2⟩
          rw [if_neg (fun x => hne (List.map_eq_nil_iff.1 x))] at md2
          simp only [go_sem, w64, Int.cast_ofNat_Int, Int.reduceEq, Int.reduceAdd, Int.reduceSub, Int.reduceMul, Int.natCast_zero, Int.natCast_inj, Int.ofNat_lt, Int.ofNat_le, Int.natCast_nonneg, Int.toNat_natCast, Nat.mul_one, Nat.reduceLT, Int.reduceLT, Int.reduceLE, Int.reduceToNat, Nat.reduceAdd, Nat.reduceSub, Nat.reduceMul, Nat.reduceLeDiff, decide_true, decide_false, Bool.not_true, Bool.not_false, Bool.false_eq_true, if_true, if_false, true_and, and_true, and_self, reduceCtorEq, Bool.and_true, Bool.true_and, Bool.and_self, upd_upd, hadd]
          refine hN _ _ hlt ?_ (by rw [hsn]; unfold zStep; rw [if_pos ⟨e1, e2⟩, List.map_append]; exact md2)
          simp only [go_sem, w64, Int.cast_ofNat_Int, Int.reduceEq, Int.reduceAdd, Int.reduceSub, Int.reduceMul, Int.natCast_zero, Int.natCast_inj, Int.ofNat_lt, Int.ofNat_le, Int.natCast_nonneg, Int.toNat_natCast, Nat.mul_one, Nat.reduceLT, Int.reduceLT, Int.reduceLE, Int.reduceToNat, Nat.reduceAdd, Nat.reduceSub, Nat.reduceMul, Nat.reduceLeDiff, decide_true, decide_false, Bool.not_true, Bool.not_false, Bool.false_eq_true, if_true, if_false, true_and, and_true, and_self, reduceCtorEq, Bool.and_true, Bool.true_and, Bool.and_self, upd_upd, d125_0, encC]
        · have e2' : decide (((zAll p.least own c0 (r.take k)).length : Int) < 7) = false := decide_eq_false (by omega)
          simp only [go_sem, w64, Int.cast_ofNat_Int, Int.reduceEq, Int.reduceAdd, Int.reduceSub, Int.reduceMul, Int.natCast_zero, Int.natCast_inj, Int.ofNat_lt, Int.ofNat_le, Int.natCast_nonneg, Int.toNat_natCast, Nat.mul_one, Nat.reduceLT, Int.reduceLT, Int.reduceLE, Int.reduceToNat, Nat.reduceAdd, Nat.reduceSub, Nat.reduceMul, Nat.reduceLeDiff, decide_true, decide_false, Bool.not_true, Bool.not_false, Bool.false_eq_true, if_true, if_false, true_and, and_true, and_self, reduceCtorEq, Bool.and_true, Bool.true_and, Bool.and_self, upd_upd, e2', hadd]
          refine hN _ _ hlt ?_ (stay fun hh => e2 hh.2)
          simp only [go_sem, w64, Int.cast_ofNat_Int, Int.reduceEq, Int.reduceAdd, Int.reduceSub, Int.reduceMul, Int.natCast_zero, Int.natCast_inj, Int.ofNat_lt, Int.ofNat_le, Int.natCast_nonneg, Int.toNat_natCast, Nat.mul_one, Nat.reduceLT, Int.reduceLT, Int.reduceLE, Int.reduceToNat, Nat.reduceAdd, Nat.reduceSub, Nat.reduceMul, Nat.reduceLeDiff, decide_true, decide_false, Bool.not_true, Bool.not_false, Bool.false_eq_true, if_true, if_false, true_and, and_true, and_self, reduceCtorEq, Bool.and_true, Bool.true_and, Bool.and_self, upd_upd, d125_0, encC]
    · have hkl : k = r.length := by omega
      subst hkl
      rw [List.take_length] at md
      have hne' : b ≠ m := by rintro rfl; rw [upd_same] at hm; cases hm
      have hHb : H b = some (.cells [.int .i64 0, .int .i64 0, .nils] 3) := md.keep upd_same
      obtain ⟨hp2, v, K, gk, hmK, rfl⟩ := md
      have gp := gk.poke (o := .cells [.int .i64 c0.n, .int .i64 own, v] 3) (x := b) upd_same
      rw [upd_upd] at gp
      have hbx := gk.box
      simp only [go_sem, w64, Int.cast_ofNat_Int, Int.reduceEq, Int.reduceAdd, Int.reduceSub, Int.reduceMul, Int.natCast_zero, Int.natCast_inj, Int.ofNat_lt, Int.ofNat_le, Int.natCast_nonneg, Int.toNat_natCast, Nat.mul_one, Nat.reduceLT, Int.reduceLT, Int.reduceLE, Int.reduceToNat, Nat.reduceAdd, Nat.reduceSub, Nat.reduceMul, Nat.reduceLeDiff, decide_true, decide_false, Bool.not_true, Bool.not_false, Bool.false_eq_true, if_true, if_false, true_and, and_true, and_self, reduceCtorEq, Bool.and_true, Bool.true_and, Bool.and_self, upd_upd, hlt]
      refine frz_id ?_
      simp only [go_sem, w64, Int.cast_ofNat_Int, Int.reduceEq, Int.reduceAdd, Int.reduceSub, Int.reduceMul, Int.natCast_zero, Int.natCast_inj, Int.ofNat_lt, Int.ofNat_le, Int.natCast_nonneg, Int.toNat_natCast, Nat.mul_one, Nat.reduceLT, Int.reduceLT, Int.reduceLE, Int.reduceToNat, Nat.reduceAdd, Nat.reduceSub, Nat.reduceMul, Nat.reduceLeDiff, decide_true, decide_false, Bool.not_true, Bool.not_false, Bool.false_eq_true, if_true, if_false, true_and, and_true, and_self, reduceCtorEq, Bool.and_true, Bool.true_and, Bool.and_self, upd_upd, upd_same, hHb, hbx.2]
      have hz1 : Fz (upd (upd K m (.cells [.int .i64 c0.n, .int .i64 own, v] 3)) b (.cells [.int .i64 c0.n, .int .i64 own, v] 3)) h v (.ro (cat i1 ((zAll p.least own c0 r).map (fun c : Cd => c.n))) ((zAll p.least own c0 r).map (fun c : Cd => c.n)).length false) := by
        rw [upd_comm hne'.symm]
        refine Fz_mono (upd_new ?_) (upd_new hb) gp.fz
        rw [upd_ne hne'.symm]; exact hmK
      refine hQ _ _ _ _ [Ch.av ⟨c0.n, own, (zAll p.least own c0 r).map (fun c : Cd => c.n)⟩, .int .i64 0] (by first | exact .inr rfl | exact .inl rfl) (by first | rfl | (simp only [go_sem, w64, Int.cast_ofNat_Int, Int.reduceEq, Int.reduceAdd, Int.reduceSub, Int.reduceMul, Int.natCast_zero, Int.natCast_inj, Int.ofNat_lt, Int.ofNat_le, Int.natCast_nonneg, Int.toNat_natCast, Nat.mul_one, Nat.reduceLT, Int.reduceLT, Int.reduceLE, Int.reduceToNat, Nat.reduceAdd, Nat.reduceSub, Nat.reduceMul, Nat.reduceLeDiff, decide_true, decide_false, Bool.not_true, Bool.not_false, Bool.false_eq_true, if_true, if_false, true_and, and_true, and_self, reduceCtorEq, Bool.and_true, Bool.true_and, Bool.and_self, upd_upd, r125]; rfl) | simp only [go_sem, w64, Int.cast_ofNat_Int, Int.reduceEq, Int.reduceAdd, Int.reduceSub, Int.reduceMul, Int.natCast_zero, Int.natCast_inj, Int.ofNat_lt, Int.ofNat_le, Int.natCast_nonneg, Int.toNat_natCast, Nat.mul_one, Nat.reduceLT, Int.reduceLT, Int.reduceLE, Int.reduceToNat, Nat.reduceAdd, Nat.reduceSub, Nat.reduceMul, Nat.reduceLeDiff, decide_true, decide_false, Bool.not_true, Bool.not_false, Bool.false_eq_true, if_true, if_false, true_and, and_true, and_self, reduceCtorEq, Bool.and_true, Bool.true_and, Bool.and_self, upd_upd, r125]) ?_ (.cons (.agg (.cons (.refl _) (.cons (.refl _) (.cons hz1 .nil)))) (.cons (.refl _) .nil)) ?_
      · refine FzH.sub fun x o hx => ?_
        have x1 : x ≠ b := by rintro rfl; rw [hb] at hx; cases hx
        have x2 : x ≠ m := by rintro rfl; rw [upd_ne x1] at hp2; rw [hp2] at hx; cases hx
        rw [upd_ne x1, upd_ne x2]
        exact gk.keep (by rw [upd_ne x1]; exact hx)
      · rw [hz, g]; rfl

end Go.Proofs.Ytaeppifdbcoipaa
