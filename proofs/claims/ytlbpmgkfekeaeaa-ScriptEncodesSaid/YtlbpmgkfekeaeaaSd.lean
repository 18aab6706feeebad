/-
  Package script: decoding; the document's.
-/
import Derived.Test.YtlbpmgkfekeaeaaCu
import Derived.Test.YtlbpmgkfekeaeaaSc
namespace Go.Proofs.Ytlbpmgkfekeaeaa
open Go E
set_option linter.unusedVariables false
set_option linter.unusedSimpArgs false
set_option maxRecDepth 100000

def two (x : List Int) (i : Nat) : Int := joinN ((x.drop i).take 2) - 32768
def stepOf (k : Int) (x : List Int) : St := ⟨k, two x 0, two x 2, joinN ((x.drop 4).take 4), two x 8, x.drop 10⟩

theorem shift_spec {h : AHeap} {p : Nat} {c : Cur} (hc : h p = some (.cells c.av 3)) (ok : c.ok) (hb : ∀ x ∈ c.xs, byte x) :
    CallsA Try.prog 100 [.agg [.ptr p 0]] h fun r h' => r = .int .i64 (joinN (c.got 2) - 32768) ∧ h' = upd h p (.cells (c.need 2).av 3) := by
  (refine CallsA.enterR (ac := c100) (rs := r100) Try.func100 rfl (by decide) c100_ok r100_ok ?_; intro Q hQ; simp only [go_sem, w64, Int.cast_ofNat_Int, Int.reduceEq, Int.reduceAdd, Int.reduceSub, Int.reduceMul, Int.natCast_zero, Int.natCast_inj, Int.ofNat_lt, Int.ofNat_le, Int.natCast_nonneg, Int.toNat_natCast, Nat.mul_one, Nat.reduceLT, Int.reduceLT, Int.reduceLE, Int.reduceToNat, Nat.reduceAdd, Nat.reduceSub, Nat.reduceMul, Nat.reduceLeDiff, decide_true, decide_false, Bool.not_true, Bool.not_false, Bool.false_eq_true, if_true, if_false, true_and, and_true, and_self, reduceCtorEq, Bool.and_true, Bool.true_and, Bool.and_self, upd_upd, c100, Try.ntmps100])
  refine (ctake_spec hc ok hb (by omega)).use ?_
  rintro r h' ⟨rfl, rfl⟩
  have hg : ∀ x ∈ c.got 2, byte x := fun x hx => hb x (c.got_sub 2 x hx)
  have hl := c.got_len 2
  have hj := joinN_bd 4 (c.got 2) (by omega) hg rfl
  rw [List.take_of_length_le (by omega)] at hj
  simp only [go_sem, w64, Int.cast_ofNat_Int, Int.reduceEq, Int.reduceAdd, Int.reduceSub, Int.reduceMul, Int.natCast_zero, Int.natCast_inj, Int.ofNat_lt, Int.ofNat_le, Int.natCast_nonneg, Int.toNat_natCast, Nat.mul_one, Nat.reduceLT, Int.reduceLT, Int.reduceLE, Int.reduceToNat, Nat.reduceAdd, Nat.reduceSub, Nat.reduceMul, Nat.reduceLeDiff, decide_true, decide_false, Bool.not_true, Bool.not_false, Bool.false_eq_true, if_true, if_false, true_and, and_true, and_self, reduceCtorEq, Bool.and_true, Bool.true_and, Bool.and_self, upd_upd, w64 (n := joinN (c.got 2) - 32768) (by omega) (by omega)]
  exact hQ _ _ _ _ _ [_] (by first | exact .inr rfl | exact .inl rfl) rfl (.refl _) (.refl _ _ _) ⟨rfl, rfl⟩

theorem need_at {xs : List Int} {ex : Bool} {a n : Nat} (h : a + n ≤ xs.length) : (Cur.mk xs ex a 0).need (n : Int) = ⟨xs, ex, a + n, 0⟩ ∧ (Cur.mk xs ex a 0).got (n : Int) = (xs.drop a).take n := by
  have h1 : ¬ ((n : Int) < 0) := by omega
  have h2 : ¬ ((xs.length : Int) - (a : Int) < (n : Int)) := by omega
  simp [Cur.need, Cur.got, h1, h2]

set_option maxHeartbeats 1000000 in
theorem step_spec {h : AHeap} {p : Nat} {xs : List Int} {ex : Bool} (k : Int) (hc : h p = some (.cells (Cur.av ⟨xs, ex, 0, 0⟩) 3)) (h10 : 10 ≤ xs.length) (hl : xs.length ≤ 1000000) (hb : ∀ x ∈ xs, byte x) :
    CallsA Try.prog 78 [.agg [.ptr p 0], .int .i64 k] h fun r h' => r = .agg (St.av (stepOf k xs)) ∧ ∃ c : Cur, h' = upd h p (.cells c.av 3) := by
  have ok : ∀ a, a ≤ 10 → (Cur.mk xs ex a 0).ok := fun a ha => ⟨by dsimp only; omega, hl⟩
  obtain ⟨a1, a2⟩ : (Cur.mk xs ex 0 0).need 2 = ⟨xs, ex, 2, 0⟩ ∧ (Cur.mk xs ex 0 0).got 2 = (xs.drop 0).take 2 := need_at (n := 2) (by omega)
  obtain ⟨a3, a4⟩ : (Cur.mk xs ex 2 0).need 2 = ⟨xs, ex, 4, 0⟩ ∧ (Cur.mk xs ex 2 0).got 2 = (xs.drop 2).take 2 := need_at (n := 2) (by omega)
  obtain ⟨a5, a6⟩ : (Cur.mk xs ex 4 0).need 4 = ⟨xs, ex, 8, 0⟩ ∧ (Cur.mk xs ex 4 0).got 4 = (xs.drop 4).take 4 := need_at (n := 4) (by omega)
  obtain ⟨a7, a8⟩ : (Cur.mk xs ex 8 0).need 2 = ⟨xs, ex, 10, 0⟩ ∧ (Cur.mk xs ex 8 0).got 2 = (xs.drop 8).take 2 := need_at (n := 2) (by omega)
  obtain ⟨a9, a10⟩ := need_at (ex := ex) (a := 10) (n := xs.length - 10) (show 10 + (xs.length - 10) ≤ xs.length by omega)
  have hl10 : (xs.length : Int) - 10 = ((xs.length - 10 : Nat) : Int) := by omega
  (refine CallsA.enterR (ac := c78) (rs := r78) Try.func78 rfl (by decide) c78_ok r78_ok ?_; intro Q hQ; simp only [go_sem, w64, Int.cast_ofNat_Int, Int.reduceEq, Int.reduceAdd, Int.reduceSub, Int.reduceMul, Int.natCast_zero, Int.natCast_inj, Int.ofNat_lt, Int.ofNat_le, Int.natCast_nonneg, Int.toNat_natCast, Nat.mul_one, Nat.reduceLT, Int.reduceLT, Int.reduceLE, Int.reduceToNat, Nat.reduceAdd, Nat.reduceSub, Nat.reduceMul, Nat.reduceLeDiff, decide_true, decide_false, Bool.not_true, Bool.not_false, Bool.false_eq_true, if_true, if_false, true_and, and_true, and_self, reduceCtorEq, Bool.and_true, Bool.true_and, Bool.and_self, upd_upd, c78, Try.ntmps78])
  intro q hq
  have hpq := ne_of_fresh hq hc
  refine (shift_spec (h := upd h q _) (c := ⟨xs, ex, 0, 0⟩) (by rw [upd_ne hpq]; exact hc) (ok 0 (by omega)) hb).use ?_
  rintro r h1 ⟨rfl, rfl⟩
  simp only [go_sem, w64, Int.cast_ofNat_Int, Int.reduceEq, Int.reduceAdd, Int.reduceSub, Int.reduceMul, Int.natCast_zero, Int.natCast_inj, Int.ofNat_lt, Int.ofNat_le, Int.natCast_nonneg, Int.toNat_natCast, Nat.mul_one, Nat.reduceLT, Int.reduceLT, Int.reduceLE, Int.reduceToNat, Nat.reduceAdd, Nat.reduceSub, Nat.reduceMul, Nat.reduceLeDiff, decide_true, decide_false, Bool.not_true, Bool.not_false, Bool.false_eq_true, if_true, if_false, true_and, and_true, and_self, reduceCtorEq, Bool.and_true, Bool.true_and, Bool.and_self, upd_upd, a1, a2]
  refine (shift_spec (c := ⟨xs, ex, 2, 0⟩) upd_same (ok 2 (by omega)) hb).use ?_
  rintro r h1 ⟨rfl, rfl⟩
  simp only [go_sem, w64, Int.cast_ofNat_Int, Int.reduceEq, Int.reduceAdd, Int.reduceSub, Int.reduceMul, Int.natCast_zero, Int.natCast_inj, Int.ofNat_lt, Int.ofNat_le, Int.natCast_nonneg, Int.toNat_natCast, Nat.mul_one, Nat.reduceLT, Int.reduceLT, Int.reduceLE, Int.reduceToNat, Nat.reduceAdd, Nat.reduceSub, Nat.reduceMul, Nat.reduceLeDiff, decide_true, decide_false, Bool.not_true, Bool.not_false, Bool.false_eq_true, if_true, if_false, true_and, and_true, and_self, reduceCtorEq, Bool.and_true, Bool.true_and, Bool.and_self, upd_upd, a3, a4]
  refine (ctake_spec (c := ⟨xs, ex, 4, 0⟩) upd_same (ok 4 (by omega)) hb (by omega)).use ?_
  rintro r h1 ⟨rfl, rfl⟩
  simp only [go_sem, w64, Int.cast_ofNat_Int, Int.reduceEq, Int.reduceAdd, Int.reduceSub, Int.reduceMul, Int.natCast_zero, Int.natCast_inj, Int.ofNat_lt, Int.ofNat_le, Int.natCast_nonneg, Int.toNat_natCast, Nat.mul_one, Nat.reduceLT, Int.reduceLT, Int.reduceLE, Int.reduceToNat, Nat.reduceAdd, Nat.reduceSub, Nat.reduceMul, Nat.reduceLeDiff, decide_true, decide_false, Bool.not_true, Bool.not_false, Bool.false_eq_true, if_true, if_false, true_and, and_true, and_self, reduceCtorEq, Bool.and_true, Bool.true_and, Bool.and_self, upd_upd, a5, a6]
  refine (shift_spec (c := ⟨xs, ex, 8, 0⟩) upd_same (ok 8 (by omega)) hb).use ?_
  rintro r h1 ⟨rfl, rfl⟩
  simp only [go_sem, w64, Int.cast_ofNat_Int, Int.reduceEq, Int.reduceAdd, Int.reduceSub, Int.reduceMul, Int.natCast_zero, Int.natCast_inj, Int.ofNat_lt, Int.ofNat_le, Int.natCast_nonneg, Int.toNat_natCast, Nat.mul_one, Nat.reduceLT, Int.reduceLT, Int.reduceLE, Int.reduceToNat, Nat.reduceAdd, Nat.reduceSub, Nat.reduceMul, Nat.reduceLeDiff, decide_true, decide_false, Bool.not_true, Bool.not_false, Bool.false_eq_true, if_true, if_false, true_and, and_true, and_self, reduceCtorEq, Bool.and_true, Bool.true_and, Bool.and_self, upd_upd, a7, a8]
  intro q2 hq2
  simp only [upd_none] at hq2
  obtain ⟨n1, n2, n3, n4, n5⟩ := hq2
  have e2 : ∀ o, (upd (upd (upd h q (.cells [.int .i64 0, .int .i64 0, .int .i64 0, .int .i64 0, .int .i64 0, .nils] 6)) p (.cells (Cur.av ⟨xs, ex, 10, 0⟩) 3)) q2 o) p = some (.cells (Cur.av ⟨xs, ex, 10, 0⟩) 3) := fun o => by rw [upd_ne n2, upd_same]
  refine (cleft_spec (c := ⟨xs, ex, 10, 0⟩) (e2 _) (ok 10 (by omega))).use ?_
  simp only [go_sem, w64, Int.cast_ofNat_Int, Int.reduceEq, Int.reduceAdd, Int.reduceSub, Int.reduceMul, Int.natCast_zero, Int.natCast_inj, Int.ofNat_lt, Int.ofNat_le, Int.natCast_nonneg, Int.toNat_natCast, Nat.mul_one, Nat.reduceLT, Int.reduceLT, Int.reduceLE, Int.reduceToNat, Nat.reduceAdd, Nat.reduceSub, Nat.reduceMul, Nat.reduceLeDiff, decide_true, decide_false, Bool.not_true, Bool.not_false, Bool.false_eq_true, if_true, if_false, true_and, and_true, and_self, reduceCtorEq, Bool.and_true, Bool.true_and, Bool.and_self, upd_upd, hl10]
  refine (cbytes_spec (c := ⟨xs, ex, 10, 0⟩) (e2 _) (ok 10 (by omega)) _).use ?_
  rintro r h1 ⟨rfl, rfl⟩
  have hqp : q ≠ p := fun e => hpq e.symm
  have e10 : (xs.drop 10).take (xs.length - 10) = xs.drop 10 := List.take_of_length_le (by simp)
  simp only [go_sem, w64, Int.cast_ofNat_Int, Int.reduceEq, Int.reduceAdd, Int.reduceSub, Int.reduceMul, Int.natCast_zero, Int.natCast_inj, Int.ofNat_lt, Int.ofNat_le, Int.natCast_nonneg, Int.toNat_natCast, Nat.mul_one, Nat.reduceLT, Int.reduceLT, Int.reduceLE, Int.reduceToNat, Nat.reduceAdd, Nat.reduceSub, Nat.reduceMul, Nat.reduceLeDiff, decide_true, decide_false, Bool.not_true, Bool.not_false, Bool.false_eq_true, if_true, if_false, true_and, and_true, and_self, reduceCtorEq, Bool.and_true, Bool.true_and, Bool.and_self, upd_upd, a9, a10, e10, upd_ne n1, upd_ne hqp, upd_ne n3, upd_ne n4]
  refine hQ _ _ _ _ (upd h p (.cells (Cur.av ⟨xs, ex, 10 + (xs.length - 10), 0⟩) 3)) [.agg (St.av (stepOf k xs))] (by first | exact .inr rfl | exact .inl rfl) rfl (SubX.fz2 (by simp only [del_ne, upd_ne, upd_same, ne_eq, not_false_eq_true, *]) (by (repeat' (first | exact SubX.refl | refine SubX.updp ?_ | refine SubX.upd ?_ (by first | assumption | (simp only [*]; done)) | refine SubX.del ?_ (by first | assumption | (simp only [*]; done)))))) ?_ ⟨rfl, _, rfl⟩
  exact .refl _ _ _

/-- The bytes' first entry ends within them. -/
def whole (b : List Int) : Bool := decide (2 ≤ b.length) && decide ((b.getD 1 0).toNat + 2 ≤ b.length)
def entN (b : List Int) : Nat := (b.getD 1 0).toNat
def entRes (b : List Int) : AV :=
  if whole b then
    (if 12 < b.getD 0 0 then .tup [.agg (St.av ⟨0, 0, 0, 0, 0, []⟩), .ro (cat b1 (b.drop (2 + entN b))) (b.drop (2 + entN b)).length false, .int .i64 6]
    else if b.getD 1 0 < 10 then .tup [.agg (St.av ⟨0, 0, 0, 0, 0, []⟩), .ro (cat b1 (b.drop (2 + entN b))) (b.drop (2 + entN b)).length false, .int .i64 3]
    else .tup [.agg (St.av (stepOf (b.getD 0 0) ((b.drop 2).take (entN b)))), .ro (cat b1 (b.drop (2 + entN b))) (b.drop (2 + entN b)).length false, .int .i64 0])
  else .tup [.agg (St.av ⟨0, 0, 0, 0, 0, []⟩), .ro [] 0 false, .int .i64 4]

set_option maxHeartbeats 1000000 in
theorem sentry_spec (b : List Int) (ex : Bool) (h : AHeap) (hn : b.length ≤ 1000000) (hb : ∀ x ∈ b, byte x) : PureA Try.prog 50 [.ro (cat b1 b) b.length ex] h (entRes b) := by
  (refine PureA.enter (ac := c50) (rs := r50) Try.func50 rfl (by decide) c50_ok r50_ok ?_; intro Q hQ; simp only [go_sem, w64, Int.cast_ofNat_Int, Int.reduceEq, Int.reduceAdd, Int.reduceSub, Int.reduceMul, Int.natCast_zero, Int.natCast_inj, Int.ofNat_lt, Int.ofNat_le, Int.natCast_nonneg, Int.toNat_natCast, Nat.mul_one, Nat.reduceLT, Int.reduceLT, Int.reduceLE, Int.reduceToNat, Nat.reduceAdd, Nat.reduceSub, Nat.reduceMul, Nat.reduceLeDiff, decide_true, decide_false, Bool.not_true, Bool.not_false, Bool.false_eq_true, if_true, if_false, true_and, and_true, and_self, reduceCtorEq, Bool.and_true, Bool.true_and, Bool.and_self, upd_upd, c50, Try.ntmps50])
  intro q hq
  by_cases g0 : b.length < 2
  · simp only [go_sem, w64, Int.cast_ofNat_Int, Int.reduceEq, Int.reduceAdd, Int.reduceSub, Int.reduceMul, Int.natCast_zero, Int.natCast_inj, Int.ofNat_lt, Int.ofNat_le, Int.natCast_nonneg, Int.toNat_natCast, Nat.mul_one, Nat.reduceLT, Int.reduceLT, Int.reduceLE, Int.reduceToNat, Nat.reduceAdd, Nat.reduceSub, Nat.reduceMul, Nat.reduceLeDiff, decide_true, decide_false, Bool.not_true, Bool.not_false, Bool.false_eq_true, if_true, if_false, true_and, and_true, and_self, reduceCtorEq, Bool.and_true, Bool.true_and, Bool.and_self, upd_upd, show ((b.length : Int) < 2) by omega]
    refine hQ _ _ _ _ [.agg (St.av ⟨0, 0, 0, 0, 0, []⟩), .ro [] 0 false, .int .i64 4] (by first | exact .inr rfl | exact .inl rfl) (by first | rfl | (simp only [go_sem, w64, Int.cast_ofNat_Int, Int.reduceEq, Int.reduceAdd, Int.reduceSub, Int.reduceMul, Int.natCast_zero, Int.natCast_inj, Int.ofNat_lt, Int.ofNat_le, Int.natCast_nonneg, Int.toNat_natCast, Nat.mul_one, Nat.reduceLT, Int.reduceLT, Int.reduceLE, Int.reduceToNat, Nat.reduceAdd, Nat.reduceSub, Nat.reduceMul, Nat.reduceLeDiff, decide_true, decide_false, Bool.not_true, Bool.not_false, Bool.false_eq_true, if_true, if_false, true_and, and_true, and_self, reduceCtorEq, Bool.and_true, Bool.true_and, Bool.and_self, upd_upd, r50]; rfl) | simp only [go_sem, w64, Int.cast_ofNat_Int, Int.reduceEq, Int.reduceAdd, Int.reduceSub, Int.reduceMul, Int.natCast_zero, Int.natCast_inj, Int.ofNat_lt, Int.ofNat_le, Int.natCast_nonneg, Int.toNat_natCast, Nat.mul_one, Nat.reduceLT, Int.reduceLT, Int.reduceLE, Int.reduceToNat, Nat.reduceAdd, Nat.reduceSub, Nat.reduceMul, Nat.reduceLeDiff, decide_true, decide_false, Bool.not_true, Bool.not_false, Bool.false_eq_true, if_true, if_false, true_and, and_true, and_self, reduceCtorEq, Bool.and_true, Bool.true_and, Bool.and_self, upd_upd, r50]) (FzH.sub (by (repeat' (first | exact Sub.refl _ | assumption | (refine Sub.upd ?_ (by first | assumption | (simp only [*]; done) | exact Sub.isNone (by assumption) (by assumption) | exact Sub.isNone (by assumption) (by simp only [*]))))))) (by (repeat' (first | exact FzL.nil | exact Fz.refl _ | exact FzL.refl _ _ _ | exact Fz.nils | exact Grow.fz (by assumption) | refine FzL.cons ?_ ?_ | refine Fz.agg ?_ | refine Fz.tup ?_ | refine Fz.ro ?_ (by simp)))) ?_
    have : whole b = false := by simp [whole]; omega
    rw [entRes, this]; rfl
  · have l0 : ∀ h : AHeap, aload h (.rp (cat b1 b)) = some (.int .u8 (b.getD 0 0)) := fun h => by
      have := rdB (h := h) (l := b) (k := 0) (by omega)
      rw [List.drop_zero] at this; rw [this]; simp [show 0 < b.length by omega]
    have l1 : ∀ h : AHeap, aload h (.rp ((cat b1 b).drop 1)) = some (.int .u8 (b.getD 1 0)) := fun h => by
      have := rdB (h := h) (l := b) (k := 1) (by omega)
      rw [this]; simp [show 1 < b.length by omega]
    have y0 : byte (b.getD 0 0) := by
      rw [List.getD_eq_getElem?_getD, List.getElem?_eq_getElem (by omega)]; exact hb _ (List.getElem_mem _)
    have y1 : byte (b.getD 1 0) := by
      rw [List.getD_eq_getElem?_getD, List.getElem?_eq_getElem (by omega)]; exact hb _ (List.getElem_mem _)
    have hent : (entN b : Int) = b.getD 1 0 := by unfold entN; unfold byte at y1; omega
    have hwh : whole b = decide (entN b + 2 ≤ b.length) := by unfold whole entN; simp; omega
    rw [← hent] at l1 y1
    generalize hE : entN b = n at *
    generalize hK : b.getD 0 0 = k at *
    unfold byte at y0 y1
    have w0 : IntKind.i64.wrap k = k := w64 (by omega) (by omega)
    have w1 : IntKind.i64.wrap (n : Int) = n := w64 (by omega) (by omega)
    have w2 : IntKind.i64.wrap ((b.length : Int) - 2) = (b.length : Int) - 2 := w64 (by omega) (by omega)
    have w3 : IntKind.i64.wrap (2 + (n : Int)) = ((2 + n : Nat) : Int) := by rw [w64 (by omega) (by omega)]; rfl
    have c1 : ¬ ((b.length : Int) < 2) := by omega
    have c2 : (0 : Int) < (b.length : Int) := by omega
    have c3 : (1 : Int) < (b.length : Int) := by omega
    simp only [go_sem, w64, Int.cast_ofNat_Int, Int.reduceEq, Int.reduceAdd, Int.reduceSub, Int.reduceMul, Int.natCast_zero, Int.natCast_inj, Int.ofNat_lt, Int.ofNat_le, Int.natCast_nonneg, Int.toNat_natCast, Nat.mul_one, Nat.reduceLT, Int.reduceLT, Int.reduceLE, Int.reduceToNat, Nat.reduceAdd, Nat.reduceSub, Nat.reduceMul, Nat.reduceLeDiff, decide_true, decide_false, Bool.not_true, Bool.not_false, Bool.false_eq_true, if_true, if_false, true_and, and_true, and_self, reduceCtorEq, Bool.and_true, Bool.true_and, Bool.and_self, upd_upd, c1, c2, c3, w2, l0, l1, w1]
    by_cases g1 : n + 2 ≤ b.length
    · have s1 := sl_lohi (l := b) (ex := ex) (k1 := .i64) (k2 := .i64) b1_len (show 2 ≤ 2 + n by omega) (show 2 + n ≤ b.length by omega)
      have s2 := sl_lo (l := b) (ex := ex) (k1 := .i64) b1_len (show 2 + n ≤ b.length by omega)
      rw [show 2 + n - 2 = n by omega] at s1
      simp only [go_sem, w64, Int.cast_ofNat_Int, Int.reduceEq, Int.reduceAdd, Int.reduceSub, Int.reduceMul, Int.natCast_zero, Int.natCast_inj, Int.ofNat_lt, Int.ofNat_le, Int.natCast_nonneg, Int.toNat_natCast, Nat.mul_one, Nat.reduceLT, Int.reduceLT, Int.reduceLE, Int.reduceToNat, Nat.reduceAdd, Nat.reduceSub, Nat.reduceMul, Nat.reduceLeDiff, decide_true, decide_false, Bool.not_true, Bool.not_false, Bool.false_eq_true, if_true, if_false, true_and, and_true, and_self, reduceCtorEq, Bool.and_true, Bool.true_and, Bool.and_self, upd_upd, show ¬ ((b.length : Int) - 2 < (n : Int)) by omega, c2, c3, l0, l1, w0, w1, w3, Option.map_some, Option.map_none, show sliceA 1 (.ro (cat b1 b) b.length ex) (some (.int .i64 2)) (some (.int .i64 ((2 + n : Nat) : Int))) none = _ from s1, s2]
      refine (bclone_spec (b.drop (2 + n)) ex _ (by simp; omega)).use ?_
      have hw : whole b = true := by rw [hwh]; exact decide_eq_true g1
      simp only [go_sem, w64, Int.cast_ofNat_Int, Int.reduceEq, Int.reduceAdd, Int.reduceSub, Int.reduceMul, Int.natCast_zero, Int.natCast_inj, Int.ofNat_lt, Int.ofNat_le, Int.natCast_nonneg, Int.toNat_natCast, Nat.mul_one, Nat.reduceLT, Int.reduceLT, Int.reduceLE, Int.reduceToNat, Nat.reduceAdd, Nat.reduceSub, Nat.reduceMul, Nat.reduceLeDiff, decide_true, decide_false, Bool.not_true, Bool.not_false, Bool.false_eq_true, if_true, if_false, true_and, and_true, and_self, reduceCtorEq, Bool.and_true, Bool.true_and, Bool.and_self, upd_upd]
      by_cases g2 : 12 < k
      · simp only [go_sem, w64, Int.cast_ofNat_Int, Int.reduceEq, Int.reduceAdd, Int.reduceSub, Int.reduceMul, Int.natCast_zero, Int.natCast_inj, Int.ofNat_lt, Int.ofNat_le, Int.natCast_nonneg, Int.toNat_natCast, Nat.mul_one, Nat.reduceLT, Int.reduceLT, Int.reduceLE, Int.reduceToNat, Nat.reduceAdd, Nat.reduceSub, Nat.reduceMul, Nat.reduceLeDiff, decide_true, decide_false, Bool.not_true, Bool.not_false, Bool.false_eq_true, if_true, if_false, true_and, and_true, and_self, reduceCtorEq, Bool.and_true, Bool.true_and, Bool.and_self, upd_upd, g2]
        refine hQ _ _ _ _ [.agg (St.av ⟨0, 0, 0, 0, 0, []⟩), .ro (cat b1 (b.drop (2 + n))) (b.drop (2 + n)).length false, .int .i64 6] (by first | exact .inr rfl | exact .inl rfl) (by first | rfl | (simp only [go_sem, w64, Int.cast_ofNat_Int, Int.reduceEq, Int.reduceAdd, Int.reduceSub, Int.reduceMul, Int.natCast_zero, Int.natCast_inj, Int.ofNat_lt, Int.ofNat_le, Int.natCast_nonneg, Int.toNat_natCast, Nat.mul_one, Nat.reduceLT, Int.reduceLT, Int.reduceLE, Int.reduceToNat, Nat.reduceAdd, Nat.reduceSub, Nat.reduceMul, Nat.reduceLeDiff, decide_true, decide_false, Bool.not_true, Bool.not_false, Bool.false_eq_true, if_true, if_false, true_and, and_true, and_self, reduceCtorEq, Bool.and_true, Bool.true_and, Bool.and_self, upd_upd, r50]; rfl) | simp only [go_sem, w64, Int.cast_ofNat_Int, Int.reduceEq, Int.reduceAdd, Int.reduceSub, Int.reduceMul, Int.natCast_zero, Int.natCast_inj, Int.ofNat_lt, Int.ofNat_le, Int.natCast_nonneg, Int.toNat_natCast, Nat.mul_one, Nat.reduceLT, Int.reduceLT, Int.reduceLE, Int.reduceToNat, Nat.reduceAdd, Nat.reduceSub, Nat.reduceMul, Nat.reduceLeDiff, decide_true, decide_false, Bool.not_true, Bool.not_false, Bool.false_eq_true, if_true, if_false, true_and, and_true, and_self, reduceCtorEq, Bool.and_true, Bool.true_and, Bool.and_self, upd_upd, r50]) (FzH.sub (by (repeat' (first | exact Sub.refl _ | assumption | (refine Sub.upd ?_ (by first | assumption | (simp only [*]; done) | exact Sub.isNone (by assumption) (by assumption) | exact Sub.isNone (by assumption) (by simp only [*]))))))) (by (repeat' (first | exact FzL.nil | exact Fz.refl _ | exact FzL.refl _ _ _ | exact Fz.nils | exact Grow.fz (by assumption) | refine FzL.cons ?_ ?_ | refine Fz.agg ?_ | refine Fz.tup ?_ | refine Fz.ro ?_ (by simp)))) ?_
        rw [entRes, hw, hE, if_pos rfl, hK, if_pos g2]; rfl
      · simp only [go_sem, w64, Int.cast_ofNat_Int, Int.reduceEq, Int.reduceAdd, Int.reduceSub, Int.reduceMul, Int.natCast_zero, Int.natCast_inj, Int.ofNat_lt, Int.ofNat_le, Int.natCast_nonneg, Int.toNat_natCast, Nat.mul_one, Nat.reduceLT, Int.reduceLT, Int.reduceLE, Int.reduceToNat, Nat.reduceAdd, Nat.reduceSub, Nat.reduceMul, Nat.reduceLeDiff, decide_true, decide_false, Bool.not_true, Bool.not_false, Bool.false_eq_true, if_true, if_false, true_and, and_true, and_self, reduceCtorEq, Bool.and_true, Bool.true_and, Bool.and_self, upd_upd, g2]
        by_cases g3 : (n : Int) < 10
        · simp only [go_sem, w64, Int.cast_ofNat_Int, Int.reduceEq, Int.reduceAdd, Int.reduceSub, Int.reduceMul, Int.natCast_zero, Int.natCast_inj, Int.ofNat_lt, Int.ofNat_le, Int.natCast_nonneg, Int.toNat_natCast, Nat.mul_one, Nat.reduceLT, Int.reduceLT, Int.reduceLE, Int.reduceToNat, Nat.reduceAdd, Nat.reduceSub, Nat.reduceMul, Nat.reduceLeDiff, decide_true, decide_false, Bool.not_true, Bool.not_false, Bool.false_eq_true, if_true, if_false, true_and, and_true, and_self, reduceCtorEq, Bool.and_true, Bool.true_and, Bool.and_self, upd_upd, g3]
          refine hQ _ _ _ _ [.agg (St.av ⟨0, 0, 0, 0, 0, []⟩), .ro (cat b1 (b.drop (2 + n))) (b.drop (2 + n)).length false, .int .i64 3] (by first | exact .inr rfl | exact .inl rfl) (by first | rfl | (simp only [go_sem, w64, Int.cast_ofNat_Int, Int.reduceEq, Int.reduceAdd, Int.reduceSub, Int.reduceMul, Int.natCast_zero, Int.natCast_inj, Int.ofNat_lt, Int.ofNat_le, Int.natCast_nonneg, Int.toNat_natCast, Nat.mul_one, Nat.reduceLT, Int.reduceLT, Int.reduceLE, Int.reduceToNat, Nat.reduceAdd, Nat.reduceSub, Nat.reduceMul, Nat.reduceLeDiff, decide_true, decide_false, Bool.not_true, Bool.not_false, Bool.false_eq_true, if_true, if_false, true_and, and_true, and_self, reduceCtorEq, Bool.and_true, Bool.true_and, Bool.and_self, upd_upd, r50]; rfl) | simp only [go_sem, w64, Int.cast_ofNat_Int, Int.reduceEq, Int.reduceAdd, Int.reduceSub, Int.reduceMul, Int.natCast_zero, Int.natCast_inj, Int.ofNat_lt, Int.ofNat_le, Int.natCast_nonneg, Int.toNat_natCast, Nat.mul_one, Nat.reduceLT, Int.reduceLT, Int.reduceLE, Int.reduceToNat, Nat.reduceAdd, Nat.reduceSub, Nat.reduceMul, Nat.reduceLeDiff, decide_true, decide_false, Bool.not_true, Bool.not_false, Bool.false_eq_true, if_true, if_false, true_and, and_true, and_self, reduceCtorEq, Bool.and_true, Bool.true_and, Bool.and_self, upd_upd, r50]) (FzH.sub (by (repeat' (first | exact Sub.refl _ | assumption | (refine Sub.upd ?_ (by first | assumption | (simp only [*]; done) | exact Sub.isNone (by assumption) (by assumption) | exact Sub.isNone (by assumption) (by simp only [*]))))))) (by (repeat' (first | exact FzL.nil | exact Fz.refl _ | exact FzL.refl _ _ _ | exact Fz.nils | exact Grow.fz (by assumption) | refine FzL.cons ?_ ?_ | refine Fz.agg ?_ | refine Fz.tup ?_ | refine Fz.ro ?_ (by simp)))) ?_
          rw [entRes, hw, hE, if_pos rfl, hK, if_neg g2, if_pos (by rw [← hent]; exact g3)]; rfl
        · simp only [go_sem, w64, Int.cast_ofNat_Int, Int.reduceEq, Int.reduceAdd, Int.reduceSub, Int.reduceMul, Int.natCast_zero, Int.natCast_inj, Int.ofNat_lt, Int.ofNat_le, Int.natCast_nonneg, Int.toNat_natCast, Nat.mul_one, Nat.reduceLT, Int.reduceLT, Int.reduceLE, Int.reduceToNat, Nat.reduceAdd, Nat.reduceSub, Nat.reduceMul, Nat.reduceLeDiff, decide_true, decide_false, Bool.not_true, Bool.not_false, Bool.false_eq_true, if_true, if_false, true_and, and_true, and_self, reduceCtorEq, Bool.and_true, Bool.true_and, Bool.and_self, upd_upd, g3]
          refine (over_spec _ _ _).use ?_
          rintro r h1 ⟨p, rfl, hp, rfl⟩
          simp only [go_sem, w64, Int.cast_ofNat_Int, Int.reduceEq, Int.reduceAdd, Int.reduceSub, Int.reduceMul, Int.natCast_zero, Int.natCast_inj, Int.ofNat_lt, Int.ofNat_le, Int.natCast_nonneg, Int.toNat_natCast, Nat.mul_one, Nat.reduceLT, Int.reduceLT, Int.reduceLE, Int.reduceToNat, Nat.reduceAdd, Nat.reduceSub, Nat.reduceMul, Nat.reduceLeDiff, decide_true, decide_false, Bool.not_true, Bool.not_false, Bool.false_eq_true, if_true, if_false, true_and, and_true, and_self, reduceCtorEq, Bool.and_true, Bool.true_and, Bool.and_self, upd_upd]
          refine (step_spec k upd_same (by simp; omega) (by simp; omega) fun x hx => hb x (List.mem_of_mem_drop (List.mem_of_mem_take hx))).use ?_
          rintro r h1 ⟨rfl, c, rfl⟩
          simp only [upd_none] at hp
          obtain ⟨n1, n2, n3⟩ := hp
          simp only [go_sem, w64, Int.cast_ofNat_Int, Int.reduceEq, Int.reduceAdd, Int.reduceSub, Int.reduceMul, Int.natCast_zero, Int.natCast_inj, Int.ofNat_lt, Int.ofNat_le, Int.natCast_nonneg, Int.toNat_natCast, Nat.mul_one, Nat.reduceLT, Int.reduceLT, Int.reduceLE, Int.reduceToNat, Nat.reduceAdd, Nat.reduceSub, Nat.reduceMul, Nat.reduceLeDiff, decide_true, decide_false, Bool.not_true, Bool.not_false, Bool.false_eq_true, if_true, if_false, true_and, and_true, and_self, reduceCtorEq, Bool.and_true, Bool.true_and, Bool.and_self, upd_upd, upd_ne n2, upd_ne n1, St.len, St.sca]
          refine hQ _ _ _ _ [.agg (St.av (stepOf k ((b.drop 2).take n))), .ro (cat b1 (b.drop (2 + n))) (b.drop (2 + n)).length false, .int .i64 0] (by first | exact .inr rfl | exact .inl rfl) (by first | rfl | (simp only [go_sem, w64, Int.cast_ofNat_Int, Int.reduceEq, Int.reduceAdd, Int.reduceSub, Int.reduceMul, Int.natCast_zero, Int.natCast_inj, Int.ofNat_lt, Int.ofNat_le, Int.natCast_nonneg, Int.toNat_natCast, Nat.mul_one, Nat.reduceLT, Int.reduceLT, Int.reduceLE, Int.reduceToNat, Nat.reduceAdd, Nat.reduceSub, Nat.reduceMul, Nat.reduceLeDiff, decide_true, decide_false, Bool.not_true, Bool.not_false, Bool.false_eq_true, if_true, if_false, true_and, and_true, and_self, reduceCtorEq, Bool.and_true, Bool.true_and, Bool.and_self, upd_upd, r50, St.take6]; rfl) | simp only [go_sem, w64, Int.cast_ofNat_Int, Int.reduceEq, Int.reduceAdd, Int.reduceSub, Int.reduceMul, Int.natCast_zero, Int.natCast_inj, Int.ofNat_lt, Int.ofNat_le, Int.natCast_nonneg, Int.toNat_natCast, Nat.mul_one, Nat.reduceLT, Int.reduceLT, Int.reduceLE, Int.reduceToNat, Nat.reduceAdd, Nat.reduceSub, Nat.reduceMul, Nat.reduceLeDiff, decide_true, decide_false, Bool.not_true, Bool.not_false, Bool.false_eq_true, if_true, if_false, true_and, and_true, and_self, reduceCtorEq, Bool.and_true, Bool.true_and, Bool.and_self, upd_upd, r50, St.take6]) (FzH.sub (by (repeat' (first | exact Sub.refl _ | assumption | (refine Sub.upd ?_ (by first | assumption | (simp only [*]; done) | exact Sub.isNone (by assumption) (by assumption) | exact Sub.isNone (by assumption) (by simp only [*]))))))) (by (repeat' (first | exact FzL.nil | exact Fz.refl _ | exact FzL.refl _ _ _ | exact Fz.nils | exact Grow.fz (by assumption) | refine FzL.cons ?_ ?_ | refine Fz.agg ?_ | refine Fz.tup ?_ | refine Fz.ro ?_ (by simp)))) ?_
          rw [entRes, hw, hE, if_pos rfl, hK, if_neg g2, if_neg (by rw [← hent]; exact g3)]; rfl
    · simp only [go_sem, w64, Int.cast_ofNat_Int, Int.reduceEq, Int.reduceAdd, Int.reduceSub, Int.reduceMul, Int.natCast_zero, Int.natCast_inj, Int.ofNat_lt, Int.ofNat_le, Int.natCast_nonneg, Int.toNat_natCast, Nat.mul_one, Nat.reduceLT, Int.reduceLT, Int.reduceLE, Int.reduceToNat, Nat.reduceAdd, Nat.reduceSub, Nat.reduceMul, Nat.reduceLeDiff, decide_true, decide_false, Bool.not_true, Bool.not_false, Bool.false_eq_true, if_true, if_false, true_and, and_true, and_self, reduceCtorEq, Bool.and_true, Bool.true_and, Bool.and_self, upd_upd, show ((b.length : Int) - 2 < (n : Int)) by omega]
      refine hQ _ _ _ _ [.agg (St.av ⟨0, 0, 0, 0, 0, []⟩), .ro [] 0 false, .int .i64 4] (by first | exact .inr rfl | exact .inl rfl) (by first | rfl | (simp only [go_sem, w64, Int.cast_ofNat_Int, Int.reduceEq, Int.reduceAdd, Int.reduceSub, Int.reduceMul, Int.natCast_zero, Int.natCast_inj, Int.ofNat_lt, Int.ofNat_le, Int.natCast_nonneg, Int.toNat_natCast, Nat.mul_one, Nat.reduceLT, Int.reduceLT, Int.reduceLE, Int.reduceToNat, Nat.reduceAdd, Nat.reduceSub, Nat.reduceMul, Nat.reduceLeDiff, decide_true, decide_false, Bool.not_true, Bool.not_false, Bool.false_eq_true, if_true, if_false, true_and, and_true, and_self, reduceCtorEq, Bool.and_true, Bool.true_and, Bool.and_self, upd_upd, r50]; rfl) | simp only [go_sem, w64, Int.cast_ofNat_Int, Int.reduceEq, Int.reduceAdd, Int.reduceSub, Int.reduceMul, Int.natCast_zero, Int.natCast_inj, Int.ofNat_lt, Int.ofNat_le, Int.natCast_nonneg, Int.toNat_natCast, Nat.mul_one, Nat.reduceLT, Int.reduceLT, Int.reduceLE, Int.reduceToNat, Nat.reduceAdd, Nat.reduceSub, Nat.reduceMul, Nat.reduceLeDiff, decide_true, decide_false, Bool.not_true, Bool.not_false, Bool.false_eq_true, if_true, if_false, true_and, and_true, and_self, reduceCtorEq, Bool.and_true, Bool.true_and, Bool.and_self, upd_upd, r50]) (FzH.sub (by (repeat' (first | exact Sub.refl _ | assumption | (refine Sub.upd ?_ (by first | assumption | (simp only [*]; done) | exact Sub.isNone (by assumption) (by assumption) | exact Sub.isNone (by assumption) (by simp only [*]))))))) (by (repeat' (first | exact FzL.nil | exact Fz.refl _ | exact FzL.refl _ _ _ | exact Fz.nils | exact Grow.fz (by assumption) | refine FzL.cons ?_ ?_ | refine Fz.agg ?_ | refine Fz.tup ?_ | refine Fz.ro ?_ (by simp)))) ?_
      have : whole b = false := by rw [hwh]; exact decide_eq_false g1
      rw [entRes, this]; rfl

/-- All steps of some bytes; how many were passed over. -/
def dec (b : List Int) : List St × Int :=
  if b = [] then ([], 0)
  else if whole b = true then
    let (l, o) := dec (b.drop (2 + entN b))
    if 12 < b.getD 0 0 ∨ b.getD 1 0 < 10 then (l, o + 1) else (stepOf (b.getD 0 0) ((b.drop 2).take (entN b)) :: l, o)
  else ([], 1)
termination_by b.length
decreasing_by
  rename_i h1 h2
  have : b.length ≠ 0 := by simpa using h1
  simp; omega

theorem dec_nil : dec [] = ([], 0) := by rw [dec]; simp
theorem dec_part {b : List Int} (h : b ≠ []) (hw : whole b = false) : dec b = ([], 1) := by rw [dec]; simp [h, hw]
theorem dec_skip {b : List Int} (hw : whole b = true) (hk : 12 < b.getD 0 0 ∨ b.getD 1 0 < 10) : dec b = ((dec (b.drop (2 + entN b))).1, (dec (b.drop (2 + entN b))).2 + 1) := by
  have : b ≠ [] := by rintro rfl; simp [whole] at hw
  rw [dec, if_neg this, if_pos hw]; dsimp only; rw [if_pos hk]
theorem dec_step {b : List Int} (hw : whole b = true) (hk : ¬ 12 < b.getD 0 0) (hn : ¬ b.getD 1 0 < 10) : dec b = (stepOf (b.getD 0 0) ((b.drop 2).take (entN b)) :: (dec (b.drop (2 + entN b))).1, (dec (b.drop (2 + entN b))).2) := by
  have : b ≠ [] := by rintro rfl; simp [whole] at hw
  rw [dec, if_neg this, if_pos hw]; dsimp only; rw [if_neg (by simp only [not_or]; exact ⟨hk, hn⟩)]
theorem dec_bd : ∀ (n : Nat) (b : List Int), b.length ≤ n → ((dec b).1.length : Int) ≤ n ∧ 0 ≤ (dec b).2 ∧ (dec b).2 ≤ n
  | 0, b, h => by
    obtain rfl : b = [] := by simpa using h
    rw [dec_nil]; simp
  | n + 1, b, h => by
    by_cases h0 : b = []
    · subst h0; rw [dec_nil]; simp; omega
    · cases hw : whole b
      · rw [dec_part h0 hw]; simp; omega
      · have hl : (b.drop (2 + entN b)).length ≤ n := by simp; omega
        obtain ⟨i1, i2, i3⟩ := dec_bd n _ hl
        by_cases hk : 12 < b.getD 0 0 ∨ b.getD 1 0 < 10
        · rw [dec_skip hw hk]; dsimp only; omega
        · simp only [not_or] at hk
          rw [dec_step hw hk.1 hk.2]; simp only [List.length_cons]; omega

set_option maxHeartbeats 1000000 in
theorem decode_spec (b : List Int) (ex : Bool) (h : AHeap) (hn : b.length ≤ 1000000) (hb : ∀ x ∈ b, byte x) : PureA Try.prog 47 [.ro (cat b1 b) b.length ex] h (.tup [.ro (cat St.av (dec b).1) (dec b).1.length false, .int .i64 (dec b).2]) := by
  obtain ⟨bd1, bd2, bd3⟩ := dec_bd _ b (Nat.le_refl _)
  (refine PureA.enter (ac := c47) (rs := r47) Try.func47 rfl (by decide) c47_ok r47_ok ?_; intro Q hQ; simp only [go_sem, w64, Int.cast_ofNat_Int, Int.reduceEq, Int.reduceAdd, Int.reduceSub, Int.reduceMul, Int.natCast_zero, Int.natCast_inj, Int.ofNat_lt, Int.ofNat_le, Int.natCast_nonneg, Int.toNat_natCast, Nat.mul_one, Nat.reduceLT, Int.reduceLT, Int.reduceLE, Int.reduceToNat, Nat.reduceAdd, Nat.reduceSub, Nat.reduceMul, Nat.reduceLeDiff, decide_true, decide_false, Bool.not_true, Bool.not_false, Bool.false_eq_true, if_true, if_false, true_and, and_true, and_self, reduceCtorEq, Bool.and_true, Bool.true_and, Bool.and_self, upd_upd, c47, Try.ntmps47])
  refine loop_st d47_0 (fun x : List St × AV × List Int × Bool × Int => x.2.2.1.length) (fun x s => ((s.set 0 (.ro (cat b1 x.2.2.1) x.2.2.1.length x.2.2.2.1)).set 4 x.2.1).set 5 (.int .i64 x.2.2.2.2))
    (fun x h' => (∀ y ∈ x.2.2.1, byte y) ∧ x.2.2.1.length ≤ b.length ∧ 0 ≤ x.2.2.2.2 ∧ dec b = (x.1 ++ (dec x.2.2.1).1, x.2.2.2.2 + (dec x.2.2.1).2) ∧ Grow h 6 x.2.1 (cat St.av x.1) x.1.length h') ([], .nils, b, ex, 0) ?_ ⟨hb, Nat.le_refl _, Int.le_refl 0, by simp, Grow.nil⟩ ?_
  · simp only [go_sem, w64, Int.cast_ofNat_Int, Int.reduceEq, Int.reduceAdd, Int.reduceSub, Int.reduceMul, Int.natCast_zero, Int.natCast_inj, Int.ofNat_lt, Int.ofNat_le, Int.natCast_nonneg, Int.toNat_natCast, Nat.mul_one, Nat.reduceLT, Int.reduceLT, Int.reduceLE, Int.reduceToNat, Nat.reduceAdd, Nat.reduceSub, Nat.reduceMul, Nat.reduceLeDiff, decide_true, decide_false, Bool.not_true, Bool.not_false, Bool.false_eq_true, if_true, if_false, true_and, and_true, and_self, reduceCtorEq, Bool.and_true, Bool.true_and, Bool.and_self, upd_upd, d47_0]
  rintro N ⟨acc, v, r, er, o⟩ h1 ⟨hr, hlen, ho, hd, g⟩ hN
  dsimp only at hr hlen ho hd g hN
  simp only [go_sem, w64, Int.cast_ofNat_Int, Int.reduceEq, Int.reduceAdd, Int.reduceSub, Int.reduceMul, Int.natCast_zero, Int.natCast_inj, Int.ofNat_lt, Int.ofNat_le, Int.natCast_nonneg, Int.toNat_natCast, Nat.mul_one, Nat.reduceLT, Int.reduceLT, Int.reduceLE, Int.reduceToNat, Nat.reduceAdd, Nat.reduceSub, Nat.reduceMul, Nat.reduceLeDiff, decide_true, decide_false, Bool.not_true, Bool.not_false, Bool.false_eq_true, if_true, if_false, true_and, and_true, and_self, reduceCtorEq, Bool.and_true, Bool.true_and, Bool.and_self, upd_upd, d47_0]
  have hd1 := congrArg Prod.fst hd
  have hd2 := congrArg Prod.snd hd
  dsimp only at hd1 hd2
  obtain ⟨rd1, rd2, rd3⟩ := dec_bd _ r (Nat.le_refl _)
  have hacc : (dec b).1.length = acc.length + (dec r).1.length := by rw [hd1]; simp
  by_cases h0 : r = []
  · subst h0
    (simp only [go_sem, w64, Int.cast_ofNat_Int, Int.reduceEq, Int.reduceAdd, Int.reduceSub, Int.reduceMul, Int.natCast_zero, Int.natCast_inj, Int.ofNat_lt, Int.ofNat_le, Int.natCast_nonneg, Int.toNat_natCast, Nat.mul_one, Nat.reduceLT, Int.reduceLT, Int.reduceLE, Int.reduceToNat, Nat.reduceAdd, Nat.reduceSub, Nat.reduceMul, Nat.reduceLeDiff, decide_true, decide_false, Bool.not_true, Bool.not_false, Bool.false_eq_true, if_true, if_false, true_and, and_true, and_self, reduceCtorEq, Bool.and_true, Bool.true_and, Bool.and_self, upd_upd]; refine frz_id ?_; simp only [go_sem, w64, Int.cast_ofNat_Int, Int.reduceEq, Int.reduceAdd, Int.reduceSub, Int.reduceMul, Int.natCast_zero, Int.natCast_inj, Int.ofNat_lt, Int.ofNat_le, Int.natCast_nonneg, Int.toNat_natCast, Nat.mul_one, Nat.reduceLT, Int.reduceLT, Int.reduceLE, Int.reduceToNat, Nat.reduceAdd, Nat.reduceSub, Nat.reduceMul, Nat.reduceLeDiff, decide_true, decide_false, Bool.not_true, Bool.not_false, Bool.false_eq_true, if_true, if_false, true_and, and_true, and_self, reduceCtorEq, Bool.and_true, Bool.true_and, Bool.and_self, upd_upd])
    rw [dec_nil] at hd1 hd2
    simp only [List.append_nil, Int.add_zero] at hd1 hd2
    rw [hd1, hd2] at hQ
    refine hQ _ _ _ _ [_, _] (by first | exact .inr rfl | exact .inl rfl) rfl g.fzH (.cons g.fz (.cons (.refl _) .nil)) rfl
  · have hpos : 0 < r.length := List.length_pos_iff.2 h0
    simp only [go_sem, w64, Int.cast_ofNat_Int, Int.reduceEq, Int.reduceAdd, Int.reduceSub, Int.reduceMul, Int.natCast_zero, Int.natCast_inj, Int.ofNat_lt, Int.ofNat_le, Int.natCast_nonneg, Int.toNat_natCast, Nat.mul_one, Nat.reduceLT, Int.reduceLT, Int.reduceLE, Int.reduceToNat, Nat.reduceAdd, Nat.reduceSub, Nat.reduceMul, Nat.reduceLeDiff, decide_true, decide_false, Bool.not_true, Bool.not_false, Bool.false_eq_true, if_true, if_false, true_and, and_true, and_self, reduceCtorEq, Bool.and_true, Bool.true_and, Bool.and_self, upd_upd, show (0 : Int) < (r.length : Int) by omega]
    refine (sentry_spec r er _ (by omega) hr).use ?_
    have hsub : ∀ k, ∀ y ∈ r.drop k, byte y := fun k y hy => hr y (List.mem_of_mem_drop hy)
    cases hw : whole r
    · rw [entRes, hw]
      simp only [go_sem, w64, Int.cast_ofNat_Int, Int.reduceEq, Int.reduceAdd, Int.reduceSub, Int.reduceMul, Int.natCast_zero, Int.natCast_inj, Int.ofNat_lt, Int.ofNat_le, Int.natCast_nonneg, Int.toNat_natCast, Nat.mul_one, Nat.reduceLT, Int.reduceLT, Int.reduceLE, Int.reduceToNat, Nat.reduceAdd, Nat.reduceSub, Nat.reduceMul, Nat.reduceLeDiff, decide_true, decide_false, Bool.not_true, Bool.not_false, Bool.false_eq_true, if_true, if_false, true_and, and_true, and_self, reduceCtorEq, Bool.and_true, Bool.true_and, Bool.and_self, upd_upd]
      intro p hp
      have e1 := dec_part h0 hw
      rw [e1] at hd1 hd2
      dsimp only at hd1 hd2
      rw [List.append_nil] at hd1
      (simp only [go_sem, w64, Int.cast_ofNat_Int, Int.reduceEq, Int.reduceAdd, Int.reduceSub, Int.reduceMul, Int.natCast_zero, Int.natCast_inj, Int.ofNat_lt, Int.ofNat_le, Int.natCast_nonneg, Int.toNat_natCast, Nat.mul_one, Nat.reduceLT, Int.reduceLT, Int.reduceLE, Int.reduceToNat, Nat.reduceAdd, Nat.reduceSub, Nat.reduceMul, Nat.reduceLeDiff, decide_true, decide_false, Bool.not_true, Bool.not_false, Bool.false_eq_true, if_true, if_false, true_and, and_true, and_self, reduceCtorEq, Bool.and_true, Bool.true_and, Bool.and_self, upd_upd, St.len, St.sca, del_same, del_none hp, w64 (n := o + 1) (by omega) (by omega)]; refine frz_id ?_; simp only [go_sem, w64, Int.cast_ofNat_Int, Int.reduceEq, Int.reduceAdd, Int.reduceSub, Int.reduceMul, Int.natCast_zero, Int.natCast_inj, Int.ofNat_lt, Int.ofNat_le, Int.natCast_nonneg, Int.toNat_natCast, Nat.mul_one, Nat.reduceLT, Int.reduceLT, Int.reduceLE, Int.reduceToNat, Nat.reduceAdd, Nat.reduceSub, Nat.reduceMul, Nat.reduceLeDiff, decide_true, decide_false, Bool.not_true, Bool.not_false, Bool.false_eq_true, if_true, if_false, true_and, and_true, and_self, reduceCtorEq, Bool.and_true, Bool.true_and, Bool.and_self, upd_upd])
      rw [hd1, hd2] at hQ
      refine hQ _ _ _ _ [_, _] (by first | exact .inr rfl | exact .inl rfl) rfl g.fzH (.cons g.fz (.cons (.refl _) .nil)) rfl
    · obtain ⟨q1, q2, q3⟩ := dec_bd _ (r.drop (2 + entN r)) (Nat.le_refl _)
      have hle : (r.drop (2 + entN r)).length < r.length := by simp; omega
      by_cases hk : 12 < r.getD 0 0
      · have e1 := dec_skip hw (.inl hk)
        rw [e1] at hd1 hd2
        dsimp only at hd1 hd2
        rw [entRes, hw, if_pos rfl, if_pos hk]
        simp only [go_sem, w64, Int.cast_ofNat_Int, Int.reduceEq, Int.reduceAdd, Int.reduceSub, Int.reduceMul, Int.natCast_zero, Int.natCast_inj, Int.ofNat_lt, Int.ofNat_le, Int.natCast_nonneg, Int.toNat_natCast, Nat.mul_one, Nat.reduceLT, Int.reduceLT, Int.reduceLE, Int.reduceToNat, Nat.reduceAdd, Nat.reduceSub, Nat.reduceMul, Nat.reduceLeDiff, decide_true, decide_false, Bool.not_true, Bool.not_false, Bool.false_eq_true, if_true, if_false, true_and, and_true, and_self, reduceCtorEq, Bool.and_true, Bool.true_and, Bool.and_self, upd_upd]
        intro p hp
        simp only [go_sem, w64, Int.cast_ofNat_Int, Int.reduceEq, Int.reduceAdd, Int.reduceSub, Int.reduceMul, Int.natCast_zero, Int.natCast_inj, Int.ofNat_lt, Int.ofNat_le, Int.natCast_nonneg, Int.toNat_natCast, Nat.mul_one, Nat.reduceLT, Int.reduceLT, Int.reduceLE, Int.reduceToNat, Nat.reduceAdd, Nat.reduceSub, Nat.reduceMul, Nat.reduceLeDiff, decide_true, decide_false, Bool.not_true, Bool.not_false, Bool.false_eq_true, if_true, if_false, true_and, and_true, and_self, reduceCtorEq, Bool.and_true, Bool.true_and, Bool.and_self, upd_upd, St.len, St.sca, del_same, del_none hp, w64 (n := o + 1) (by omega) (by omega)]
        refine hN (acc, v, r.drop (2 + entN r), false, o + 1) _ _ hle ?_ ⟨hsub _, by dsimp only; omega, by dsimp only; omega, by dsimp only; rw [hd1.symm, Int.add_assoc, Int.add_comm 1, ← hd2], g⟩
        simp only [go_sem, w64, Int.cast_ofNat_Int, Int.reduceEq, Int.reduceAdd, Int.reduceSub, Int.reduceMul, Int.natCast_zero, Int.natCast_inj, Int.ofNat_lt, Int.ofNat_le, Int.natCast_nonneg, Int.toNat_natCast, Nat.mul_one, Nat.reduceLT, Int.reduceLT, Int.reduceLE, Int.reduceToNat, Nat.reduceAdd, Nat.reduceSub, Nat.reduceMul, Nat.reduceLeDiff, decide_true, decide_false, Bool.not_true, Bool.not_false, Bool.false_eq_true, if_true, if_false, true_and, and_true, and_self, reduceCtorEq, Bool.and_true, Bool.true_and, Bool.and_self, upd_upd, d47_0]
      · by_cases hk2 : r.getD 1 0 < 10
        · have e1 := dec_skip hw (.inr hk2)
          rw [e1] at hd1 hd2
          dsimp only at hd1 hd2
          rw [entRes, hw, if_pos rfl, if_neg hk, if_pos hk2]
          simp only [go_sem, w64, Int.cast_ofNat_Int, Int.reduceEq, Int.reduceAdd, Int.reduceSub, Int.reduceMul, Int.natCast_zero, Int.natCast_inj, Int.ofNat_lt, Int.ofNat_le, Int.natCast_nonneg, Int.toNat_natCast, Nat.mul_one, Nat.reduceLT, Int.reduceLT, Int.reduceLE, Int.reduceToNat, Nat.reduceAdd, Nat.reduceSub, Nat.reduceMul, Nat.reduceLeDiff, decide_true, decide_false, Bool.not_true, Bool.not_false, Bool.false_eq_true, if_true, if_false, true_and, and_true, and_self, reduceCtorEq, Bool.and_true, Bool.true_and, Bool.and_self, upd_upd]
          intro p hp
          simp only [go_sem, w64, Int.cast_ofNat_Int, Int.reduceEq, Int.reduceAdd, Int.reduceSub, Int.reduceMul, Int.natCast_zero, Int.natCast_inj, Int.ofNat_lt, Int.ofNat_le, Int.natCast_nonneg, Int.toNat_natCast, Nat.mul_one, Nat.reduceLT, Int.reduceLT, Int.reduceLE, Int.reduceToNat, Nat.reduceAdd, Nat.reduceSub, Nat.reduceMul, Nat.reduceLeDiff, decide_true, decide_false, Bool.not_true, Bool.not_false, Bool.false_eq_true, if_true, if_false, true_and, and_true, and_self, reduceCtorEq, Bool.and_true, Bool.true_and, Bool.and_self, upd_upd, St.len, St.sca, del_same, del_none hp, w64 (n := o + 1) (by omega) (by omega)]
          refine hN (acc, v, r.drop (2 + entN r), false, o + 1) _ _ hle ?_ ⟨hsub _, by dsimp only; omega, by dsimp only; omega, by dsimp only; rw [hd1.symm, Int.add_assoc, Int.add_comm 1, ← hd2], g⟩
          simp only [go_sem, w64, Int.cast_ofNat_Int, Int.reduceEq, Int.reduceAdd, Int.reduceSub, Int.reduceMul, Int.natCast_zero, Int.natCast_inj, Int.ofNat_lt, Int.ofNat_le, Int.natCast_nonneg, Int.toNat_natCast, Nat.mul_one, Nat.reduceLT, Int.reduceLT, Int.reduceLE, Int.reduceToNat, Nat.reduceAdd, Nat.reduceSub, Nat.reduceMul, Nat.reduceLeDiff, decide_true, decide_false, Bool.not_true, Bool.not_false, Bool.false_eq_true, if_true, if_false, true_and, and_true, and_self, reduceCtorEq, Bool.and_true, Bool.true_and, Bool.and_self, upd_upd, d47_0]
        · have e1 := dec_step hw hk hk2
          rw [e1] at hd1 hd2 hacc
          dsimp only at hd1 hd2 hacc
          rw [entRes, hw, if_pos rfl, if_neg hk, if_neg hk2]
          simp only [go_sem, w64, Int.cast_ofNat_Int, Int.reduceEq, Int.reduceAdd, Int.reduceSub, Int.reduceMul, Int.natCast_zero, Int.natCast_inj, Int.ofNat_lt, Int.ofNat_le, Int.natCast_nonneg, Int.toNat_natCast, Nat.mul_one, Nat.reduceLT, Int.reduceLT, Int.reduceLE, Int.reduceToNat, Nat.reduceAdd, Nat.reduceSub, Nat.reduceMul, Nat.reduceLeDiff, decide_true, decide_false, Bool.not_true, Bool.not_false, Bool.false_eq_true, if_true, if_false, true_and, and_true, and_self, reduceCtorEq, Bool.and_true, Bool.true_and, Bool.and_self, upd_upd]
          intro p hp
          simp only [go_sem, w64, Int.cast_ofNat_Int, Int.reduceEq, Int.reduceAdd, Int.reduceSub, Int.reduceMul, Int.natCast_zero, Int.natCast_inj, Int.ofNat_lt, Int.ofNat_le, Int.natCast_nonneg, Int.toNat_natCast, Nat.mul_one, Nat.reduceLT, Int.reduceLT, Int.reduceLE, Int.reduceToNat, Nat.reduceAdd, Nat.reduceSub, Nat.reduceMul, Nat.reduceLeDiff, decide_true, decide_false, Bool.not_true, Bool.not_false, Bool.false_eq_true, if_true, if_false, true_and, and_true, and_self, reduceCtorEq, Bool.and_true, Bool.true_and, Bool.and_self, upd_upd, St.len, St.sca, del_same, del_none hp, St.take6]
          refine g.add1 rfl rfl (by simp only [List.length_cons] at hacc; omega) fun v' h' g' => ?_
          simp only [go_sem, w64, Int.cast_ofNat_Int, Int.reduceEq, Int.reduceAdd, Int.reduceSub, Int.reduceMul, Int.natCast_zero, Int.natCast_inj, Int.ofNat_lt, Int.ofNat_le, Int.natCast_nonneg, Int.toNat_natCast, Nat.mul_one, Nat.reduceLT, Int.reduceLT, Int.reduceLE, Int.reduceToNat, Nat.reduceAdd, Nat.reduceSub, Nat.reduceMul, Nat.reduceLeDiff, decide_true, decide_false, Bool.not_true, Bool.not_false, Bool.false_eq_true, if_true, if_false, true_and, and_true, and_self, reduceCtorEq, Bool.and_true, Bool.true_and, Bool.and_self, upd_upd]
          refine hN (acc ++ [stepOf (r.getD 0 0) ((r.drop 2).take (entN r))], v', r.drop (2 + entN r), false, o) _ _ hle ?_ ⟨hsub _, by dsimp only; omega, ho, by dsimp only; rw [List.append_assoc]; exact Prod.ext hd1 hd2, ?_⟩
          · simp only [go_sem, w64, Int.cast_ofNat_Int, Int.reduceEq, Int.reduceAdd, Int.reduceSub, Int.reduceMul, Int.natCast_zero, Int.natCast_inj, Int.ofNat_lt, Int.ofNat_le, Int.natCast_nonneg, Int.toNat_natCast, Nat.mul_one, Nat.reduceLT, Int.reduceLT, Int.reduceLE, Int.reduceToNat, Nat.reduceAdd, Nat.reduceSub, Nat.reduceMul, Nat.reduceLeDiff, decide_true, decide_false, Bool.not_true, Bool.not_false, Bool.false_eq_true, if_true, if_false, true_and, and_true, and_self, reduceCtorEq, Bool.and_true, Bool.true_and, Bool.and_self, upd_upd, d47_0]
          · simpa [cat_append, cat] using g'

/-! ### The document's -/

set_option maxHeartbeats 1000000 in
theorem rfits_spec (s : St) (h : AHeap) : PureA Try.prog 44 [.agg s.av] h (.bool s.fits) := by
  obtain ⟨k, a, b, c, d, xs⟩ := s
  have hf : (St.mk k a b c d xs).fits = decide ((∀ n ∈ [a, b, d], -32768 ≤ n ∧ n ≤ 32767) ∧ (0 ≤ k ∧ k ≤ 12) ∧ (0 ≤ c ∧ c ≤ 4294967295) ∧ (xs.length : Int) ≤ 245) := by
    rw [Bool.eq_iff_iff]
    simp [St.fits, fitsN, spanN]
    omega
  rw [hf]
  (refine PureA.enter (ac := c44) (rs := r44) Try.func44 rfl (by decide) c44_ok r44_ok ?_; intro Q hQ; simp only [go_sem, w64, Int.cast_ofNat_Int, Int.reduceEq, Int.reduceAdd, Int.reduceSub, Int.reduceMul, Int.natCast_zero, Int.natCast_inj, Int.ofNat_lt, Int.ofNat_le, Int.natCast_nonneg, Int.toNat_natCast, Nat.mul_one, Nat.reduceLT, Int.reduceLT, Int.reduceLE, Int.reduceToNat, Nat.reduceAdd, Nat.reduceSub, Nat.reduceMul, Nat.reduceLeDiff, decide_true, decide_false, Bool.not_true, Bool.not_false, Bool.false_eq_true, if_true, if_false, true_and, and_true, and_self, reduceCtorEq, Bool.and_true, Bool.true_and, Bool.and_self, upd_upd, c44, Try.ntmps44, St.av])
  intro p hp
  simp only [go_sem, w64, Int.cast_ofNat_Int, Int.reduceEq, Int.reduceAdd, Int.reduceSub, Int.reduceMul, Int.natCast_zero, Int.natCast_inj, Int.ofNat_lt, Int.ofNat_le, Int.natCast_nonneg, Int.toNat_natCast, Nat.mul_one, Nat.reduceLT, Int.reduceLT, Int.reduceLE, Int.reduceToNat, Nat.reduceAdd, Nat.reduceSub, Nat.reduceMul, Nat.reduceLeDiff, decide_true, decide_false, Bool.not_true, Bool.not_false, Bool.false_eq_true, if_true, if_false, true_and, and_true, and_self, reduceCtorEq, Bool.and_true, Bool.true_and, Bool.and_self, upd_upd, del_same, del_none hp]
  refine loop_n 4 ?_
  simp only [go_sem, w64, Int.cast_ofNat_Int, Int.reduceEq, Int.reduceAdd, Int.reduceSub, Int.reduceMul, Int.natCast_zero, Int.natCast_inj, Int.ofNat_lt, Int.ofNat_le, Int.natCast_nonneg, Int.toNat_natCast, Nat.mul_one, Nat.reduceLT, Int.reduceLT, Int.reduceLE, Int.reduceToNat, Nat.reduceAdd, Nat.reduceSub, Nat.reduceMul, Nat.reduceLeDiff, decide_true, decide_false, Bool.not_true, Bool.not_false, Bool.false_eq_true, if_true, if_false, true_and, and_true, and_self, reduceCtorEq, Bool.and_true, Bool.true_and, Bool.and_self, upd_upd, loopN_succ]
  repeat' (first | (intro _ hf_; (try simp only [upd_none] at hf_); (try simp only [go_sem, w64, Int.cast_ofNat_Int, Int.reduceEq, Int.reduceAdd, Int.reduceSub, Int.reduceMul, Int.natCast_zero, Int.natCast_inj, Int.ofNat_lt, Int.ofNat_le, Int.natCast_nonneg, Int.toNat_natCast, Nat.mul_one, Nat.reduceLT, Int.reduceLT, Int.reduceLE, Int.reduceToNat, Nat.reduceAdd, Nat.reduceSub, Nat.reduceMul, Nat.reduceLeDiff, decide_true, decide_false, Bool.not_true, Bool.not_false, Bool.false_eq_true, if_true, if_false, true_and, and_true, and_self, reduceCtorEq, Bool.and_true, Bool.true_and, Bool.and_self, upd_upd, loopN_succ, upd_ne, ne_eq, not_false_eq_true, *])) | (refine guard_split (fun hb_ => ?_) (fun hb_ => ?_) <;> (try simp only [decide_eq_true_eq, decide_eq_false_iff_not, Bool.not_eq_true', Bool.not_eq_false'] at hb_) <;> (try simp only [go_sem, w64, Int.cast_ofNat_Int, Int.reduceEq, Int.reduceAdd, Int.reduceSub, Int.reduceMul, Int.natCast_zero, Int.natCast_inj, Int.ofNat_lt, Int.ofNat_le, Int.natCast_nonneg, Int.toNat_natCast, Nat.mul_one, Nat.reduceLT, Int.reduceLT, Int.reduceLE, Int.reduceToNat, Nat.reduceAdd, Nat.reduceSub, Nat.reduceMul, Nat.reduceLeDiff, decide_true, decide_false, Bool.not_true, Bool.not_false, Bool.false_eq_true, if_true, if_false, true_and, and_true, and_self, reduceCtorEq, Bool.and_true, Bool.true_and, Bool.and_self, upd_upd, loopN_succ, upd_ne, ne_eq, not_false_eq_true, *])) | (refine cond_split (fun hb_ => ?_) (fun hb_ => ?_) <;> (try simp only [decide_eq_true_eq, decide_eq_false_iff_not, Bool.not_eq_true', Bool.not_eq_false'] at hb_) <;> (try simp only [go_sem, w64, Int.cast_ofNat_Int, Int.reduceEq, Int.reduceAdd, Int.reduceSub, Int.reduceMul, Int.natCast_zero, Int.natCast_inj, Int.ofNat_lt, Int.ofNat_le, Int.natCast_nonneg, Int.toNat_natCast, Nat.mul_one, Nat.reduceLT, Int.reduceLT, Int.reduceLE, Int.reduceToNat, Nat.reduceAdd, Nat.reduceSub, Nat.reduceMul, Nat.reduceLeDiff, decide_true, decide_false, Bool.not_true, Bool.not_false, Bool.false_eq_true, if_true, if_false, true_and, and_true, and_self, reduceCtorEq, Bool.and_true, Bool.true_and, Bool.and_self, upd_upd, loopN_succ, upd_ne, ne_eq, not_false_eq_true, *])) | (refine readG_split (fun hb_ => ?_) (fun hb_ => ?_) <;> (try simp only [decide_eq_true_eq, decide_eq_false_iff_not, Bool.not_eq_true', Bool.not_eq_false'] at hb_) <;> (try simp only [go_sem, w64, Int.cast_ofNat_Int, Int.reduceEq, Int.reduceAdd, Int.reduceSub, Int.reduceMul, Int.natCast_zero, Int.natCast_inj, Int.ofNat_lt, Int.ofNat_le, Int.natCast_nonneg, Int.toNat_natCast, Nat.mul_one, Nat.reduceLT, Int.reduceLT, Int.reduceLE, Int.reduceToNat, Nat.reduceAdd, Nat.reduceSub, Nat.reduceMul, Nat.reduceLeDiff, decide_true, decide_false, Bool.not_true, Bool.not_false, Bool.false_eq_true, if_true, if_false, true_and, and_true, and_self, reduceCtorEq, Bool.and_true, Bool.true_and, Bool.and_self, upd_upd, loopN_succ, upd_ne, ne_eq, not_false_eq_true, *])) | (refine frz_id ?_ <;> (try simp only [go_sem, w64, Int.cast_ofNat_Int, Int.reduceEq, Int.reduceAdd, Int.reduceSub, Int.reduceMul, Int.natCast_zero, Int.natCast_inj, Int.ofNat_lt, Int.ofNat_le, Int.natCast_nonneg, Int.toNat_natCast, Nat.mul_one, Nat.reduceLT, Int.reduceLT, Int.reduceLE, Int.reduceToNat, Nat.reduceAdd, Nat.reduceSub, Nat.reduceMul, Nat.reduceLeDiff, decide_true, decide_false, Bool.not_true, Bool.not_false, Bool.false_eq_true, if_true, if_false, true_and, and_true, and_self, reduceCtorEq, Bool.and_true, Bool.true_and, Bool.and_self, upd_upd, loopN_succ, upd_ne, ne_eq, not_false_eq_true, *])))
  all_goals ((refine hQ _ _ _ _ _ (by first | exact .inr rfl | exact .inl rfl) rfl (by first | exact FzH.refl _ | exact FzH.sub (by (repeat' (first | exact Sub.refl _ | assumption | (refine Sub.upd ?_ (by first | assumption | (simp only [*]; done) | exact Sub.isNone (by assumption) (by assumption) | exact Sub.isNone (by assumption) (by simp only [*]))))))) (FzL.refl _ _ _) ?_; try (simp only [go_sem, w64, Int.cast_ofNat_Int, Int.reduceEq, Int.reduceAdd, Int.reduceSub, Int.reduceMul, Int.natCast_zero, Int.natCast_inj, Int.ofNat_lt, Int.ofNat_le, Int.natCast_nonneg, Int.toNat_natCast, Nat.mul_one, Nat.reduceLT, Int.reduceLT, Int.reduceLE, Int.reduceToNat, Nat.reduceAdd, Nat.reduceSub, Nat.reduceMul, Nat.reduceLeDiff, decide_true, decide_false, Bool.not_true, Bool.not_false, Bool.false_eq_true, if_true, if_false, true_and, and_true, and_self, reduceCtorEq, Bool.and_true, Bool.true_and, Bool.and_self, upd_upd])) <;> (first | rfl | ((try simp only [tupA_one]); congr 1; first | rfl | (refine decide_eq_decide.2 ?_; simp; omega) | (symm; refine decide_eq_true ?_; simp; omega) | (symm; refine decide_eq_false ?_; simp; omega) | (refine decide_eq_true ?_; simp; omega) | (refine decide_eq_false ?_; simp; omega))))

theorem same28_spec (s t : St) (h : AHeap) (hs : s.xs.length ≤ 4611686018427387904) : PureA Try.prog 26 [.agg s.av, .agg t.av] h (.bool (decide (s = t))) := by
  obtain ⟨k, a, b, c, d, xs⟩ := s
  obtain ⟨k', a', b', c', d', xs'⟩ := t
  (refine PureA.enter (ac := c26) (rs := r26) Try.func26 rfl (by decide) c26_ok r26_ok ?_; intro Q hQ; simp only [go_sem, w64, Int.cast_ofNat_Int, Int.reduceEq, Int.reduceAdd, Int.reduceSub, Int.reduceMul, Int.natCast_zero, Int.natCast_inj, Int.ofNat_lt, Int.ofNat_le, Int.natCast_nonneg, Int.toNat_natCast, Nat.mul_one, Nat.reduceLT, Int.reduceLT, Int.reduceLE, Int.reduceToNat, Nat.reduceAdd, Nat.reduceSub, Nat.reduceMul, Nat.reduceLeDiff, decide_true, decide_false, Bool.not_true, Bool.not_false, Bool.false_eq_true, if_true, if_false, true_and, and_true, and_self, reduceCtorEq, Bool.and_true, Bool.true_and, Bool.and_self, upd_upd, c26, Try.ntmps26, St.av])
  repeat' (first | (intro _ hf_; (try simp only [upd_none] at hf_); (try simp only [go_sem, w64, Int.cast_ofNat_Int, Int.reduceEq, Int.reduceAdd, Int.reduceSub, Int.reduceMul, Int.natCast_zero, Int.natCast_inj, Int.ofNat_lt, Int.ofNat_le, Int.natCast_nonneg, Int.toNat_natCast, Nat.mul_one, Nat.reduceLT, Int.reduceLT, Int.reduceLE, Int.reduceToNat, Nat.reduceAdd, Nat.reduceSub, Nat.reduceMul, Nat.reduceLeDiff, decide_true, decide_false, Bool.not_true, Bool.not_false, Bool.false_eq_true, if_true, if_false, true_and, and_true, and_self, reduceCtorEq, Bool.and_true, Bool.true_and, Bool.and_self, upd_upd, upd_ne, ne_eq, not_false_eq_true, *])) | (refine (same2_spec xs xs' _ _ _ hs).use ?_ <;> (try simp only [go_sem, w64, Int.cast_ofNat_Int, Int.reduceEq, Int.reduceAdd, Int.reduceSub, Int.reduceMul, Int.natCast_zero, Int.natCast_inj, Int.ofNat_lt, Int.ofNat_le, Int.natCast_nonneg, Int.toNat_natCast, Nat.mul_one, Nat.reduceLT, Int.reduceLT, Int.reduceLE, Int.reduceToNat, Nat.reduceAdd, Nat.reduceSub, Nat.reduceMul, Nat.reduceLeDiff, decide_true, decide_false, Bool.not_true, Bool.not_false, Bool.false_eq_true, if_true, if_false, true_and, and_true, and_self, reduceCtorEq, Bool.and_true, Bool.true_and, Bool.and_self, upd_upd, upd_ne, ne_eq, not_false_eq_true, *])) | (refine guard_split (fun hb_ => ?_) (fun hb_ => ?_) <;> (try simp only [decide_eq_true_eq, decide_eq_false_iff_not, Bool.not_eq_true', Bool.not_eq_false'] at hb_) <;> (try simp only [go_sem, w64, Int.cast_ofNat_Int, Int.reduceEq, Int.reduceAdd, Int.reduceSub, Int.reduceMul, Int.natCast_zero, Int.natCast_inj, Int.ofNat_lt, Int.ofNat_le, Int.natCast_nonneg, Int.toNat_natCast, Nat.mul_one, Nat.reduceLT, Int.reduceLT, Int.reduceLE, Int.reduceToNat, Nat.reduceAdd, Nat.reduceSub, Nat.reduceMul, Nat.reduceLeDiff, decide_true, decide_false, Bool.not_true, Bool.not_false, Bool.false_eq_true, if_true, if_false, true_and, and_true, and_self, reduceCtorEq, Bool.and_true, Bool.true_and, Bool.and_self, upd_upd, upd_ne, ne_eq, not_false_eq_true, *])) | (refine cond_split (fun hb_ => ?_) (fun hb_ => ?_) <;> (try simp only [decide_eq_true_eq, decide_eq_false_iff_not, Bool.not_eq_true', Bool.not_eq_false'] at hb_) <;> (try simp only [go_sem, w64, Int.cast_ofNat_Int, Int.reduceEq, Int.reduceAdd, Int.reduceSub, Int.reduceMul, Int.natCast_zero, Int.natCast_inj, Int.ofNat_lt, Int.ofNat_le, Int.natCast_nonneg, Int.toNat_natCast, Nat.mul_one, Nat.reduceLT, Int.reduceLT, Int.reduceLE, Int.reduceToNat, Nat.reduceAdd, Nat.reduceSub, Nat.reduceMul, Nat.reduceLeDiff, decide_true, decide_false, Bool.not_true, Bool.not_false, Bool.false_eq_true, if_true, if_false, true_and, and_true, and_self, reduceCtorEq, Bool.and_true, Bool.true_and, Bool.and_self, upd_upd, upd_ne, ne_eq, not_false_eq_true, *])) | (refine readG_split (fun hb_ => ?_) (fun hb_ => ?_) <;> (try simp only [decide_eq_true_eq, decide_eq_false_iff_not, Bool.not_eq_true', Bool.not_eq_false'] at hb_) <;> (try simp only [go_sem, w64, Int.cast_ofNat_Int, Int.reduceEq, Int.reduceAdd, Int.reduceSub, Int.reduceMul, Int.natCast_zero, Int.natCast_inj, Int.ofNat_lt, Int.ofNat_le, Int.natCast_nonneg, Int.toNat_natCast, Nat.mul_one, Nat.reduceLT, Int.reduceLT, Int.reduceLE, Int.reduceToNat, Nat.reduceAdd, Nat.reduceSub, Nat.reduceMul, Nat.reduceLeDiff, decide_true, decide_false, Bool.not_true, Bool.not_false, Bool.false_eq_true, if_true, if_false, true_and, and_true, and_self, reduceCtorEq, Bool.and_true, Bool.true_and, Bool.and_self, upd_upd, upd_ne, ne_eq, not_false_eq_true, *])) | (refine frz_id ?_ <;> (try simp only [go_sem, w64, Int.cast_ofNat_Int, Int.reduceEq, Int.reduceAdd, Int.reduceSub, Int.reduceMul, Int.natCast_zero, Int.natCast_inj, Int.ofNat_lt, Int.ofNat_le, Int.natCast_nonneg, Int.toNat_natCast, Nat.mul_one, Nat.reduceLT, Int.reduceLT, Int.reduceLE, Int.reduceToNat, Nat.reduceAdd, Nat.reduceSub, Nat.reduceMul, Nat.reduceLeDiff, decide_true, decide_false, Bool.not_true, Bool.not_false, Bool.false_eq_true, if_true, if_false, true_and, and_true, and_self, reduceCtorEq, Bool.and_true, Bool.true_and, Bool.and_self, upd_upd, upd_ne, ne_eq, not_false_eq_true, *])))
  all_goals ((refine hQ _ _ _ _ _ (by first | exact .inr rfl | exact .inl rfl) rfl (by first | exact FzH.refl _ | exact FzH.sub (by (repeat' (first | exact Sub.refl _ | assumption | (refine Sub.upd ?_ (by first | assumption | (simp only [*]; done) | exact Sub.isNone (by assumption) (by assumption) | exact Sub.isNone (by assumption) (by simp only [*]))))))) (FzL.refl _ _ _) ?_; try (simp only [go_sem, w64, Int.cast_ofNat_Int, Int.reduceEq, Int.reduceAdd, Int.reduceSub, Int.reduceMul, Int.natCast_zero, Int.natCast_inj, Int.ofNat_lt, Int.ofNat_le, Int.natCast_nonneg, Int.toNat_natCast, Nat.mul_one, Nat.reduceLT, Int.reduceLT, Int.reduceLE, Int.reduceToNat, Nat.reduceAdd, Nat.reduceSub, Nat.reduceMul, Nat.reduceLeDiff, decide_true, decide_false, Bool.not_true, Bool.not_false, Bool.false_eq_true, if_true, if_false, true_and, and_true, and_self, reduceCtorEq, Bool.and_true, Bool.true_and, Bool.and_self, upd_upd])) <;> (congr 1; simp [*]))

theorem of28_spec (s : St) (h : AHeap) : PureA Try.prog 27 [.agg s.av] h (.agg s.av) := by
  obtain ⟨k, a, b, c, d, xs⟩ := s
  (refine PureA.enter (ac := c27) (rs := r27) Try.func27 rfl (by decide) c27_ok r27_ok ?_; intro Q hQ; simp only [go_sem, w64, Int.cast_ofNat_Int, Int.reduceEq, Int.reduceAdd, Int.reduceSub, Int.reduceMul, Int.natCast_zero, Int.natCast_inj, Int.ofNat_lt, Int.ofNat_le, Int.natCast_nonneg, Int.toNat_natCast, Nat.mul_one, Nat.reduceLT, Int.reduceLT, Int.reduceLE, Int.reduceToNat, Nat.reduceAdd, Nat.reduceSub, Nat.reduceMul, Nat.reduceLeDiff, decide_true, decide_false, Bool.not_true, Bool.not_false, Bool.false_eq_true, if_true, if_false, true_and, and_true, and_self, reduceCtorEq, Bool.and_true, Bool.true_and, Bool.and_self, upd_upd, c27, Try.ntmps27, St.av])
  intro p hp
  simp only [go_sem, w64, Int.cast_ofNat_Int, Int.reduceEq, Int.reduceAdd, Int.reduceSub, Int.reduceMul, Int.natCast_zero, Int.natCast_inj, Int.ofNat_lt, Int.ofNat_le, Int.natCast_nonneg, Int.toNat_natCast, Nat.mul_one, Nat.reduceLT, Int.reduceLT, Int.reduceLE, Int.reduceToNat, Nat.reduceAdd, Nat.reduceSub, Nat.reduceMul, Nat.reduceLeDiff, decide_true, decide_false, Bool.not_true, Bool.not_false, Bool.false_eq_true, if_true, if_false, true_and, and_true, and_self, reduceCtorEq, Bool.and_true, Bool.true_and, Bool.and_self, upd_upd, del_same, del_none hp]
  (refine hQ _ _ _ _ _ (by first | exact .inr rfl | exact .inl rfl) rfl (by first | exact FzH.refl _ | exact FzH.sub (by (repeat' (first | exact Sub.refl _ | assumption | (refine Sub.upd ?_ (by first | assumption | (simp only [*]; done) | exact Sub.isNone (by assumption) (by assumption) | exact Sub.isNone (by assumption) (by simp only [*]))))))) (FzL.refl _ _ _) ?_; try (simp only [go_sem, w64, Int.cast_ofNat_Int, Int.reduceEq, Int.reduceAdd, Int.reduceSub, Int.reduceMul, Int.natCast_zero, Int.natCast_inj, Int.ofNat_lt, Int.ofNat_le, Int.natCast_nonneg, Int.toNat_natCast, Nat.mul_one, Nat.reduceLT, Int.reduceLT, Int.reduceLE, Int.reduceToNat, Nat.reduceAdd, Nat.reduceSub, Nat.reduceMul, Nat.reduceLeDiff, decide_true, decide_false, Bool.not_true, Bool.not_false, Bool.false_eq_true, if_true, if_false, true_and, and_true, and_self, reduceCtorEq, Bool.and_true, Bool.true_and, Bool.and_self, upd_upd, St.av]))

def St.to (s : St) : St := { s with xs := s.xs.take 300 }
theorem to28_spec (s : St) (h : AHeap) : PureA Try.prog 42 [.agg s.av] h (.agg s.to.av) := by
  obtain ⟨k, a, b, c, d, xs⟩ := s
  have e0 : (if (300 : Int) < (xs.length : Int) then (300 : Int) else (xs.length : Int)) = ((min 300 xs.length : Nat) : Int) := by
    split <;> omega
  have e1 := sl_hi (l := xs) (ex := false) (k1 := .i64) b1_len (Nat.min_le_right 300 xs.length)
  (refine PureA.enter (ac := c42) (rs := r42) Try.func42 rfl (by decide) c42_ok r42_ok ?_; intro Q hQ; simp only [go_sem, w64, Int.cast_ofNat_Int, Int.reduceEq, Int.reduceAdd, Int.reduceSub, Int.reduceMul, Int.natCast_zero, Int.natCast_inj, Int.ofNat_lt, Int.ofNat_le, Int.natCast_nonneg, Int.toNat_natCast, Nat.mul_one, Nat.reduceLT, Int.reduceLT, Int.reduceLE, Int.reduceToNat, Nat.reduceAdd, Nat.reduceSub, Nat.reduceMul, Nat.reduceLeDiff, decide_true, decide_false, Bool.not_true, Bool.not_false, Bool.false_eq_true, if_true, if_false, true_and, and_true, and_self, reduceCtorEq, Bool.and_true, Bool.true_and, Bool.and_self, upd_upd, c42, Try.ntmps42, St.av, e0, Option.map_none, Option.map_some, e1])
  intro p hp
  simp only [go_sem, w64, Int.cast_ofNat_Int, Int.reduceEq, Int.reduceAdd, Int.reduceSub, Int.reduceMul, Int.natCast_zero, Int.natCast_inj, Int.ofNat_lt, Int.ofNat_le, Int.natCast_nonneg, Int.toNat_natCast, Nat.mul_one, Nat.reduceLT, Int.reduceLT, Int.reduceLE, Int.reduceToNat, Nat.reduceAdd, Nat.reduceSub, Nat.reduceMul, Nat.reduceLeDiff, decide_true, decide_false, Bool.not_true, Bool.not_false, Bool.false_eq_true, if_true, if_false, true_and, and_true, and_self, reduceCtorEq, Bool.and_true, Bool.true_and, Bool.and_self, upd_upd, del_same, del_none hp]
  have e2 : xs.take (min 300 xs.length) = xs.take 300 := by rw [← List.take_take, List.take_length]
  (refine hQ _ _ _ _ _ (by first | exact .inr rfl | exact .inl rfl) rfl (by first | exact FzH.refl _ | exact FzH.sub (by (repeat' (first | exact Sub.refl _ | assumption | (refine Sub.upd ?_ (by first | assumption | (simp only [*]; done) | exact Sub.isNone (by assumption) (by assumption) | exact Sub.isNone (by assumption) (by simp only [*]))))))) (FzL.refl _ _ _) ?_; try (simp only [go_sem, w64, Int.cast_ofNat_Int, Int.reduceEq, Int.reduceAdd, Int.reduceSub, Int.reduceMul, Int.natCast_zero, Int.natCast_inj, Int.ofNat_lt, Int.ofNat_le, Int.natCast_nonneg, Int.toNat_natCast, Nat.mul_one, Nat.reduceLT, Int.reduceLT, Int.reduceLE, Int.reduceToNat, Nat.reduceAdd, Nat.reduceSub, Nat.reduceMul, Nat.reduceLeDiff, decide_true, decide_false, Bool.not_true, Bool.not_false, Bool.false_eq_true, if_true, if_false, true_and, and_true, and_self, reduceCtorEq, Bool.and_true, Bool.true_and, Bool.and_self, upd_upd, e2, St.to, St.av]))

theorem qd (n m : Int) (h : 0 ≤ n ∧ n ≤ 9223372036854775807 ∧ 1 ≤ m) : IntKind.i64.wrap (n.tdiv m) = n / m := IntWalk.i64_quo n m h
theorem md (n m : Int) (h : 0 ≤ n) : n.tmod m = n % m := Int.tmod_eq_emod_of_nonneg h

set_option maxHeartbeats 1000000 in
theorem rentry_own (s : St) (h : AHeap) (hf : s.fits = true) : CallsA Try.prog 45 [.agg s.av] h fun r h' => Grow h 1 r (cat b1 s.line) s.line.length h' := by
  obtain ⟨p1, p2, p3, p4, p5, p6⟩ := St.parts hf
  obtain ⟨k, a, b, c, d, xs⟩ := s
  dsimp only at p1 p2 p3 p4 p5 p6
  have n1 : IntKind.i64.wrap (10 + (xs.length : Int)) = 10 + xs.length := w64 (by omega) (by omega)
  have n2 : IntKind.i64.wrap (a + 32768) = a + 32768 := w64 (by omega) (by omega)
  have n3 : IntKind.i64.wrap (b + 32768) = b + 32768 := w64 (by omega) (by omega)
  have n4 : IntKind.i64.wrap (d + 32768) = d + 32768 := w64 (by omega) (by omega)
  have m1 := qd (a + 32768) 256 (by omega)
  have m2 := qd (b + 32768) 256 (by omega)
  have m3 := qd (d + 32768) 256 (by omega)
  have m4 := qd c 16777216 (by omega)
  have m5 := qd c 65536 (by omega)
  have m6 := qd c 256 (by omega)
  have o1 := md (a + 32768) 256 (by omega)
  have o2 := md (b + 32768) 256 (by omega)
  have o3 := md (d + 32768) 256 (by omega)
  have o4 := md (c / 65536) 256 (by omega)
  have o5 := md (c / 256) 256 (by omega)
  have o6 := md c 256 (by omega)
  have z1 : ((256 : Int) == 0) = false := rfl
  have z2 : ((65536 : Int) == 0) = false := rfl
  have z3 : ((16777216 : Int) == 0) = false := rfl
  (refine CallsA.enterR (ac := c45) (rs := r45) Try.func45 rfl (by decide) c45_ok r45_ok ?_; intro Q hQ; simp only [go_sem, w64, Int.cast_ofNat_Int, Int.reduceEq, Int.reduceAdd, Int.reduceSub, Int.reduceMul, Int.natCast_zero, Int.natCast_inj, Int.ofNat_lt, Int.ofNat_le, Int.natCast_nonneg, Int.toNat_natCast, Nat.mul_one, Nat.reduceLT, Int.reduceLT, Int.reduceLE, Int.reduceToNat, Nat.reduceAdd, Nat.reduceSub, Nat.reduceMul, Nat.reduceLeDiff, decide_true, decide_false, Bool.not_true, Bool.not_false, Bool.false_eq_true, if_true, if_false, true_and, and_true, and_self, reduceCtorEq, Bool.and_true, Bool.true_and, Bool.and_self, upd_upd, c45, Try.ntmps45, St.av, n1, n2, n3, n4, binA_quo _ _ _ z1, binA_quo _ _ _ z2, binA_quo _ _ _ z3, binA_rem _ _ _ z1, m1, m2, m3, m4, m5, m6, o1, o2, o3, o4, o5, o6, w8])
  refine (Grow.lit (by simp) (by simp [E.scalar])).addN rfl rfl (by omega) fun v2 h2 g2 => ?_
  simp only [go_sem, w64, Int.cast_ofNat_Int, Int.reduceEq, Int.reduceAdd, Int.reduceSub, Int.reduceMul, Int.natCast_zero, Int.natCast_inj, Int.ofNat_lt, Int.ofNat_le, Int.natCast_nonneg, Int.toNat_natCast, Nat.mul_one, Nat.reduceLT, Int.reduceLT, Int.reduceLE, Int.reduceToNat, Nat.reduceAdd, Nat.reduceSub, Nat.reduceMul, Nat.reduceLeDiff, decide_true, decide_false, Bool.not_true, Bool.not_false, Bool.false_eq_true, if_true, if_false, true_and, and_true, and_self, reduceCtorEq, Bool.and_true, Bool.true_and, Bool.and_self, upd_upd]
  refine g2.addN (by rw [cat_len b1_len]) (cat_sca b1_sca _) (by omega) fun v3 h3 g3 => ?_
  simp only [go_sem, w64, Int.cast_ofNat_Int, Int.reduceEq, Int.reduceAdd, Int.reduceSub, Int.reduceMul, Int.natCast_zero, Int.natCast_inj, Int.ofNat_lt, Int.ofNat_le, Int.natCast_nonneg, Int.toNat_natCast, Nat.mul_one, Nat.reduceLT, Int.reduceLT, Int.reduceLE, Int.reduceToNat, Nat.reduceAdd, Nat.reduceSub, Nat.reduceMul, Nat.reduceLeDiff, decide_true, decide_false, Bool.not_true, Bool.not_false, Bool.false_eq_true, if_true, if_false, true_and, and_true, and_self, reduceCtorEq, Bool.and_true, Bool.true_and, Bool.and_self, upd_upd]
  refine hQ _ _ _ _ _ [_] (by first | exact .inr rfl | exact .inl rfl) rfl (.refl _) (.refl _ _ _) ?_
  have e : (St.mk k a b c d xs).line = [k % 256, (10 + (xs.length : Int)) % 256, (a + 32768) / 256 % 256, (a + 32768) % 256 % 256, (b + 32768) / 256 % 256, (b + 32768) % 256 % 256] ++ [c / 16777216 % 256, c / 65536 % 256 % 256, c / 256 % 256 % 256, c % 256 % 256, (d + 32768) / 256 % 256, (d + 32768) % 256 % 256] ++ xs := by
    simp [St.line, digsL, digs, Int.emod_emod_of_dvd]
  rw [e]
  simp only [cat_append, List.length_append, tupA_one]
  exact g3

theorem rentry_spec (s : St) (h : AHeap) (hf : s.fits = true) : PureA Try.prog 45 [.agg s.av] h (.ro (cat b1 s.line) s.line.length false) := Grow.pure (rentry_own s h hf)

theorem joinN_two (x y : Int) : joinN [x, y] = 256 * x + y := by simp [joinN]; omega

theorem rtwo_spec (x : List Int) (i : Nat) (ex : Bool) (h : AHeap) (hi : i + 2 ≤ x.length) (hb : ∀ y ∈ x, byte y) : PureA Try.prog 75 [.ro (cat b1 (x.drop i)) (x.drop i).length ex] h (.int .i64 (two x i)) := by
  have h0 : 0 < (x.drop i).length := by simp; omega
  have h1 : 1 < (x.drop i).length := by simp; omega
  have l0 := rdB (h := h) h0
  have l1 := rdB (h := h) h1
  rw [List.drop_zero] at l0
  have y0 := hb _ (List.mem_of_mem_drop (List.getElem_mem h0))
  have y1 := hb _ (List.mem_of_mem_drop (List.getElem_mem h1))
  have e : two x i = 256 * (x.drop i)[0] + (x.drop i)[1] - 32768 := by
    unfold two
    generalize x.drop i = l at h0 h1 ⊢
    match l, h0, h1 with
    | a :: b :: r, _, _ => show joinN [a, b] - 32768 = 256 * a + b - 32768; rw [joinN_two]
    | [_], _, h1 => simp at h1
    | [], h0, _ => simp at h0
  rw [e]
  generalize (x.drop i)[0] = a at *
  generalize (x.drop i)[1] = b at *
  unfold byte at y0 y1
  (refine PureA.enter (ac := c75) (rs := r75) Try.func75 rfl (by decide) c75_ok r75_ok ?_; intro Q hQ; simp only [go_sem, w64, Int.cast_ofNat_Int, Int.reduceEq, Int.reduceAdd, Int.reduceSub, Int.reduceMul, Int.natCast_zero, Int.natCast_inj, Int.ofNat_lt, Int.ofNat_le, Int.natCast_nonneg, Int.toNat_natCast, Nat.mul_one, Nat.reduceLT, Int.reduceLT, Int.reduceLE, Int.reduceToNat, Nat.reduceAdd, Nat.reduceSub, Nat.reduceMul, Nat.reduceLeDiff, decide_true, decide_false, Bool.not_true, Bool.not_false, Bool.false_eq_true, if_true, if_false, true_and, and_true, and_self, reduceCtorEq, Bool.and_true, Bool.true_and, Bool.and_self, upd_upd, c75, Try.ntmps75, l0, l1, show (0 : Int) < ((x.drop i).length : Int) by omega, show (1 : Int) < ((x.drop i).length : Int) by omega, w64 (n := a) (by omega) (by omega), w64 (n := b) (by omega) (by omega), w64 (n := 256 * a) (by omega) (by omega), w64 (n := 256 * a + b) (by omega) (by omega), w64 (n := 256 * a + b - 32768) (by omega) (by omega)])
  (refine hQ _ _ _ _ _ (by first | exact .inr rfl | exact .inl rfl) rfl (by first | exact FzH.refl _ | exact FzH.sub (by (repeat' (first | exact Sub.refl _ | assumption | (refine Sub.upd ?_ (by first | assumption | (simp only [*]; done) | exact Sub.isNone (by assumption) (by assumption) | exact Sub.isNone (by assumption) (by simp only [*]))))))) (FzL.refl _ _ _) ?_; try (simp only [go_sem, w64, Int.cast_ofNat_Int, Int.reduceEq, Int.reduceAdd, Int.reduceSub, Int.reduceMul, Int.natCast_zero, Int.natCast_inj, Int.ofNat_lt, Int.ofNat_le, Int.natCast_nonneg, Int.toNat_natCast, Nat.mul_one, Nat.reduceLT, Int.reduceLT, Int.reduceLE, Int.reduceToNat, Nat.reduceAdd, Nat.reduceSub, Nat.reduceMul, Nat.reduceLeDiff, decide_true, decide_false, Bool.not_true, Bool.not_false, Bool.false_eq_true, if_true, if_false, true_and, and_true, and_self, reduceCtorEq, Bool.and_true, Bool.true_and, Bool.and_self, upd_upd]))

theorem sl_lo' {l : List Int} {ex : Bool} {a : Nat} (ha : a ≤ l.length) : sliceA 1 (.ro (cat b1 l) l.length ex) (some (.int .i64 (a : Int))) none none = some (.ro (cat b1 (l.drop a)) (l.drop a).length ex) := sl_lo b1_len ha

theorem byte_at {X : List Int} (hb : ∀ x ∈ X, byte x) {k : Nat} (hk : k < X.length) : ∃ x, (∀ h : AHeap, aload h (.rp ((cat b1 X).drop k)) = some (.int .u8 x)) ∧ byte x := ⟨X[k], fun h => rdB hk, hb _ (List.getElem_mem hk)⟩
theorem four_at {X : List Int} {k : Nat} (hk : k + 4 ≤ X.length) : (X.drop k).take 4 = [X[k], X[k + 1], X[k + 2], X[k + 3]] := by
  rw [List.drop_eq_getElem_cons (by omega), List.drop_eq_getElem_cons (by omega), List.drop_eq_getElem_cons (by omega), List.drop_eq_getElem_cons (by omega)]
  rfl

set_option maxHeartbeats 4000000 in
theorem rdecode_spec (b : List Int) (ex : Bool) (h : AHeap) (hn : b.length ≤ 1000000) (hb : ∀ x ∈ b, byte x) : PureA Try.prog 49 [.ro (cat b1 b) b.length ex] h (.tup [.ro (cat St.av (dec b).1) (dec b).1.length false, .int .i64 (dec b).2]) := by
  obtain ⟨bd1, bd2, bd3⟩ := dec_bd _ b (Nat.le_refl _)
  (refine PureA.enter (ac := c49) (rs := r49) Try.func49 rfl (by decide) c49_ok r49_ok ?_; intro Q hQ; simp only [go_sem, w64, Int.cast_ofNat_Int, Int.reduceEq, Int.reduceAdd, Int.reduceSub, Int.reduceMul, Int.natCast_zero, Int.natCast_inj, Int.ofNat_lt, Int.ofNat_le, Int.natCast_nonneg, Int.toNat_natCast, Nat.mul_one, Nat.reduceLT, Int.reduceLT, Int.reduceLE, Int.reduceToNat, Nat.reduceAdd, Nat.reduceSub, Nat.reduceMul, Nat.reduceLeDiff, decide_true, decide_false, Bool.not_true, Bool.not_false, Bool.false_eq_true, if_true, if_false, true_and, and_true, and_self, reduceCtorEq, Bool.and_true, Bool.true_and, Bool.and_self, upd_upd, c49, Try.ntmps49])
  refine loop_sh d49_0 (fun x : List St × AV × Nat × Int => b.length - x.2.2.1) (fun x s => ((s.set 4 x.2.1).set 5 (.int .i64 x.2.2.2)).set 6 (.int .i64 x.2.2.1))
    (fun x h' => x.2.2.1 ≤ b.length ∧ 0 ≤ x.2.2.2 ∧ dec b = (x.1 ++ (dec (b.drop x.2.2.1)).1, x.2.2.2 + (dec (b.drop x.2.2.1)).2) ∧ Grow h 6 x.2.1 (cat St.av x.1) x.1.length h') ([], .nils, 0, 0) ?_ ⟨Nat.zero_le _, Int.le_refl 0, by simp, Grow.nil⟩ ?_
  · (simp only [go_sem, w64, Int.cast_ofNat_Int, Int.reduceEq, Int.reduceAdd, Int.reduceSub, Int.reduceMul, Int.natCast_zero, Int.natCast_inj, Int.ofNat_lt, Int.ofNat_le, Int.natCast_nonneg, Int.toNat_natCast, Nat.mul_one, Nat.reduceLT, Int.reduceLT, Int.reduceLE, Int.reduceToNat, Nat.reduceAdd, Nat.reduceSub, Nat.reduceMul, Nat.reduceLeDiff, decide_true, decide_false, Bool.not_true, Bool.not_false, Bool.false_eq_true, if_true, if_false, true_and, and_true, and_self, reduceCtorEq, Bool.and_true, Bool.true_and, Bool.and_self, upd_upd, d49_0] <;> rfl)
  rintro N ⟨acc, v, a, o⟩ h1 ⟨ha, ho, hd, g⟩ hN
  dsimp only at ha ho hd g hN
  simp only [go_sem, w64, Int.cast_ofNat_Int, Int.reduceEq, Int.reduceAdd, Int.reduceSub, Int.reduceMul, Int.natCast_zero, Int.natCast_inj, Int.ofNat_lt, Int.ofNat_le, Int.natCast_nonneg, Int.toNat_natCast, Nat.mul_one, Nat.reduceLT, Int.reduceLT, Int.reduceLE, Int.reduceToNat, Nat.reduceAdd, Nat.reduceSub, Nat.reduceMul, Nat.reduceLeDiff, decide_true, decide_false, Bool.not_true, Bool.not_false, Bool.false_eq_true, if_true, if_false, true_and, and_true, and_self, reduceCtorEq, Bool.and_true, Bool.true_and, Bool.and_self, upd_upd, d49_0]
  have hd1 := congrArg Prod.fst hd
  have hd2 := congrArg Prod.snd hd
  dsimp only at hd1 hd2
  generalize hR : b.drop a = r at hd1 hd2
  have hr : ∀ y ∈ r, byte y := fun y hy => hb y (by rw [← hR] at hy; exact List.mem_of_mem_drop hy)
  have hrl : r.length = b.length - a := by rw [← hR]; simp
  obtain ⟨rd1, rd2, rd3⟩ := dec_bd _ r (Nat.le_refl _)
  have hacc : (dec b).1.length = acc.length + (dec r).1.length := by rw [hd1]; simp
  have dr : ∀ k, b.drop (a + k) = r.drop k := fun k => by rw [← hR, List.drop_drop]
  have at_ : ∀ k (hk : k < r.length), ∀ h : AHeap, aload h (.rp ((cat b1 b).drop (a + k))) = some (.int .u8 (r.getD k 0)) := fun k hk h => by
    have hk2 : a + k < b.length := by omega
    have := rdB (h := h) hk2
    rw [this]
    congr 2
    have e2 : r[k]? = b[a + k]? := by rw [← hR, List.getElem?_drop]
    rw [List.getD_eq_getElem?_getD, e2, List.getElem?_eq_getElem hk2]; rfl
  by_cases h0 : a < b.length
  · have hne : r ≠ [] := by intro e; rw [e] at hrl; simp at hrl; omega
    have w1 : IntKind.i64.wrap ((b.length : Int) - (a : Int)) = (b.length : Int) - a := w64 (by omega) (by omega)
    have w2 : IntKind.i64.wrap ((b.length : Int) - (a : Int) - 2) = (b.length : Int) - a - 2 := w64 (by omega) (by omega)
    have w3 : IntKind.i64.wrap ((a : Int) + 1) = ((a + 1 : Nat) : Int) := by rw [w64 (by omega) (by omega)]; rfl
    have w5 : IntKind.i64.wrap (o + 1) = o + 1 := w64 (by omega) (by omega)
    simp only [go_sem, w64, Int.cast_ofNat_Int, Int.reduceEq, Int.reduceAdd, Int.reduceSub, Int.reduceMul, Int.natCast_zero, Int.natCast_inj, Int.ofNat_lt, Int.ofNat_le, Int.natCast_nonneg, Int.toNat_natCast, Nat.mul_one, Nat.reduceLT, Int.reduceLT, Int.reduceLE, Int.reduceToNat, Nat.reduceAdd, Nat.reduceSub, Nat.reduceMul, Nat.reduceLeDiff, decide_true, decide_false, Bool.not_true, Bool.not_false, Bool.false_eq_true, if_true, if_false, true_and, and_true, and_self, reduceCtorEq, Bool.and_true, Bool.true_and, Bool.and_self, upd_upd, h0, w1]
    by_cases h2 : r.length < 2
    · have hw : whole r = false := by simp [whole]; omega
      rw [dec_part hne hw] at hd1 hd2
      dsimp only at hd1 hd2
      rw [List.append_nil] at hd1
      rw [hd1, hd2] at hQ
      simp only [go_sem, w64, Int.cast_ofNat_Int, Int.reduceEq, Int.reduceAdd, Int.reduceSub, Int.reduceMul, Int.natCast_zero, Int.natCast_inj, Int.ofNat_lt, Int.ofNat_le, Int.natCast_nonneg, Int.toNat_natCast, Nat.mul_one, Nat.reduceLT, Int.reduceLT, Int.reduceLE, Int.reduceToNat, Nat.reduceAdd, Nat.reduceSub, Nat.reduceMul, Nat.reduceLeDiff, decide_true, decide_false, Bool.not_true, Bool.not_false, Bool.false_eq_true, if_true, if_false, true_and, and_true, and_self, reduceCtorEq, Bool.and_true, Bool.true_and, Bool.and_self, upd_upd, show ((b.length : Int) - a < 2) by omega, w5]
      refine hQ _ _ _ _ [_, _] (by first | exact .inr rfl | exact .inl rfl) rfl g.fzH (.cons g.fz (.cons (.refl _) .nil)) rfl
    · have l1 := at_ 1 (by omega)
      have l0 := at_ 0 (by omega)
      rw [Nat.add_zero] at l0
      have y1 : byte (r.getD 1 0) := by
        rw [List.getD_eq_getElem?_getD, List.getElem?_eq_getElem (by omega)]; exact hr _ (List.getElem_mem _)
      have y0 : byte (r.getD 0 0) := by
        rw [List.getD_eq_getElem?_getD, List.getElem?_eq_getElem (by omega)]; exact hr _ (List.getElem_mem _)
      have hent : (entN r : Int) = r.getD 1 0 := by unfold entN; unfold byte at y1; omega
      have hwh : whole r = decide (entN r + 2 ≤ r.length) := by unfold whole entN; simp; omega
      rw [← hent] at l1 y1
      unfold byte at y0 y1
      have w4 : IntKind.i64.wrap (entN r : Int) = entN r := w64 (by omega) (by omega)
      simp only [go_sem, w64, Int.cast_ofNat_Int, Int.reduceEq, Int.reduceAdd, Int.reduceSub, Int.reduceMul, Int.natCast_zero, Int.natCast_inj, Int.ofNat_lt, Int.ofNat_le, Int.natCast_nonneg, Int.toNat_natCast, Nat.mul_one, Nat.reduceLT, Int.reduceLT, Int.reduceLE, Int.reduceToNat, Nat.reduceAdd, Nat.reduceSub, Nat.reduceMul, Nat.reduceLeDiff, decide_true, decide_false, Bool.not_true, Bool.not_false, Bool.false_eq_true, if_true, if_false, true_and, and_true, and_self, reduceCtorEq, Bool.and_true, Bool.true_and, Bool.and_self, upd_upd, show ¬ ((b.length : Int) - a < 2) by omega, w1, w2, w3, show a + 1 < b.length by omega, l1, w4]
      by_cases hw2 : entN r + 2 ≤ r.length
      · have hw : whole r = true := by rw [hwh]; exact decide_eq_true hw2
        have w6 : IntKind.i64.wrap ((a : Int) + 2) = ((a + 2 : Nat) : Int) := by rw [w64 (by omega) (by omega)]; rfl
        have w7 : IntKind.i64.wrap (((a + 2 : Nat) : Int) + (entN r : Int)) = ((a + 2 + entN r : Nat) : Int) := by rw [w64 (by omega) (by omega)]; rfl
        have s1 := sl_lohi (l := b) (ex := ex) (k1 := .i64) (k2 := .i64) b1_len (show a + 2 ≤ a + 2 + entN r by omega) (show a + 2 + entN r ≤ b.length by omega)
        rw [show a + 2 + entN r - (a + 2) = entN r by omega, dr] at s1
        obtain ⟨q1, q2, q3⟩ := dec_bd _ (r.drop (2 + entN r)) (Nat.le_refl _)
        have hle : b.length - (a + 2 + entN r) < b.length - a := by omega
        have hdr : b.drop (a + 2 + entN r) = r.drop (2 + entN r) := by rw [Nat.add_assoc]; exact dr _
        simp only [go_sem, w64, Int.cast_ofNat_Int, Int.reduceEq, Int.reduceAdd, Int.reduceSub, Int.reduceMul, Int.natCast_zero, Int.natCast_inj, Int.ofNat_lt, Int.ofNat_le, Int.natCast_nonneg, Int.toNat_natCast, Nat.mul_one, Nat.reduceLT, Int.reduceLT, Int.reduceLE, Int.reduceToNat, Nat.reduceAdd, Nat.reduceSub, Nat.reduceMul, Nat.reduceLeDiff, decide_true, decide_false, Bool.not_true, Bool.not_false, Bool.false_eq_true, if_true, if_false, true_and, and_true, and_self, reduceCtorEq, Bool.and_true, Bool.true_and, Bool.and_self, upd_upd, show ¬ ((b.length : Int) - a - 2 < (entN r : Int)) by omega, h0, l0, w3, show a + 1 < b.length by omega, l1, w4, w6, w7, Option.map_some, Option.map_none, s1]
        by_cases hk : 12 < r.getD 0 0
        · have e1 := dec_skip hw (.inl hk)
          rw [e1] at hd1 hd2
          dsimp only at hd1 hd2
          simp only [go_sem, w64, Int.cast_ofNat_Int, Int.reduceEq, Int.reduceAdd, Int.reduceSub, Int.reduceMul, Int.natCast_zero, Int.natCast_inj, Int.ofNat_lt, Int.ofNat_le, Int.natCast_nonneg, Int.toNat_natCast, Nat.mul_one, Nat.reduceLT, Int.reduceLT, Int.reduceLE, Int.reduceToNat, Nat.reduceAdd, Nat.reduceSub, Nat.reduceMul, Nat.reduceLeDiff, decide_true, decide_false, Bool.not_true, Bool.not_false, Bool.false_eq_true, if_true, if_false, true_and, and_true, and_self, reduceCtorEq, Bool.and_true, Bool.true_and, Bool.and_self, upd_upd, hk, w5, w6, w7]
          refine hN (acc, v, a + 2 + entN r, o + 1) _ _ _ hle ?_ (.refl _) ⟨by dsimp only; omega, by dsimp only; omega, by dsimp only; rw [hdr, hd1.symm, Int.add_assoc, Int.add_comm 1, ← hd2], g⟩
          simp only [go_sem, w64, Int.cast_ofNat_Int, Int.reduceEq, Int.reduceAdd, Int.reduceSub, Int.reduceMul, Int.natCast_zero, Int.natCast_inj, Int.ofNat_lt, Int.ofNat_le, Int.natCast_nonneg, Int.toNat_natCast, Nat.mul_one, Nat.reduceLT, Int.reduceLT, Int.reduceLE, Int.reduceToNat, Nat.reduceAdd, Nat.reduceSub, Nat.reduceMul, Nat.reduceLeDiff, decide_true, decide_false, Bool.not_true, Bool.not_false, Bool.false_eq_true, if_true, if_false, true_and, and_true, and_self, reduceCtorEq, Bool.and_true, Bool.true_and, Bool.and_self, upd_upd, d49_0]
        · simp only [go_sem, w64, Int.cast_ofNat_Int, Int.reduceEq, Int.reduceAdd, Int.reduceSub, Int.reduceMul, Int.natCast_zero, Int.natCast_inj, Int.ofNat_lt, Int.ofNat_le, Int.natCast_nonneg, Int.toNat_natCast, Nat.mul_one, Nat.reduceLT, Int.reduceLT, Int.reduceLE, Int.reduceToNat, Nat.reduceAdd, Nat.reduceSub, Nat.reduceMul, Nat.reduceLeDiff, decide_true, decide_false, Bool.not_true, Bool.not_false, Bool.false_eq_true, if_true, if_false, true_and, and_true, and_self, reduceCtorEq, Bool.and_true, Bool.true_and, Bool.and_self, upd_upd, hk]
          by_cases hk2 : (entN r : Int) < 10
          · have e1 := dec_skip hw (.inr (by rw [← hent]; exact hk2))
            rw [e1] at hd1 hd2
            dsimp only at hd1 hd2
            simp only [go_sem, w64, Int.cast_ofNat_Int, Int.reduceEq, Int.reduceAdd, Int.reduceSub, Int.reduceMul, Int.natCast_zero, Int.natCast_inj, Int.ofNat_lt, Int.ofNat_le, Int.natCast_nonneg, Int.toNat_natCast, Nat.mul_one, Nat.reduceLT, Int.reduceLT, Int.reduceLE, Int.reduceToNat, Nat.reduceAdd, Nat.reduceSub, Nat.reduceMul, Nat.reduceLeDiff, decide_true, decide_false, Bool.not_true, Bool.not_false, Bool.false_eq_true, if_true, if_false, true_and, and_true, and_self, reduceCtorEq, Bool.and_true, Bool.true_and, Bool.and_self, upd_upd, hk2, w5, w6, w7]
            refine hN (acc, v, a + 2 + entN r, o + 1) _ _ _ hle ?_ (.refl _) ⟨by dsimp only; omega, by dsimp only; omega, by dsimp only; rw [hdr, hd1.symm, Int.add_assoc, Int.add_comm 1, ← hd2], g⟩
            simp only [go_sem, w64, Int.cast_ofNat_Int, Int.reduceEq, Int.reduceAdd, Int.reduceSub, Int.reduceMul, Int.natCast_zero, Int.natCast_inj, Int.ofNat_lt, Int.ofNat_le, Int.natCast_nonneg, Int.toNat_natCast, Nat.mul_one, Nat.reduceLT, Int.reduceLT, Int.reduceLE, Int.reduceToNat, Nat.reduceAdd, Nat.reduceSub, Nat.reduceMul, Nat.reduceLeDiff, decide_true, decide_false, Bool.not_true, Bool.not_false, Bool.false_eq_true, if_true, if_false, true_and, and_true, and_self, reduceCtorEq, Bool.and_true, Bool.true_and, Bool.and_self, upd_upd, d49_0]
          · have e1 := dec_step hw hk (by rw [← hent]; exact hk2)
            rw [e1] at hd1 hd2 hacc
            dsimp only at hd1 hd2 hacc
            simp only [go_sem, w64, Int.cast_ofNat_Int, Int.reduceEq, Int.reduceAdd, Int.reduceSub, Int.reduceMul, Int.natCast_zero, Int.natCast_inj, Int.ofNat_lt, Int.ofNat_le, Int.natCast_nonneg, Int.toNat_natCast, Nat.mul_one, Nat.reduceLT, Int.reduceLT, Int.reduceLE, Int.reduceToNat, Nat.reduceAdd, Nat.reduceSub, Nat.reduceMul, Nat.reduceLeDiff, decide_true, decide_false, Bool.not_true, Bool.not_false, Bool.false_eq_true, if_true, if_false, true_and, and_true, and_self, reduceCtorEq, Bool.and_true, Bool.true_and, Bool.and_self, upd_upd, hk2]
            have hxl : ((r.drop 2).take (entN r)).length = entN r := by simp; omega
            have hxb : ∀ y ∈ (r.drop 2).take (entN r), byte y := fun y hy => hr y (List.mem_of_mem_drop (List.mem_of_mem_take hy))
            generalize hX : (r.drop 2).take (entN r) = X at hxl hxb hd1 hd2 hacc ⊢
            have hx10 : 10 ≤ X.length := by omega
            obtain ⟨x4, l4, z4⟩ := byte_at hxb (show 4 < X.length by omega)
            obtain ⟨x5, l5, z5⟩ := byte_at hxb (show 5 < X.length by omega)
            obtain ⟨x6, l6, z6⟩ := byte_at hxb (show 6 < X.length by omega)
            obtain ⟨x7, l7, z7⟩ := byte_at hxb (show 7 < X.length by omega)
            have hj : joinN ((X.drop 4).take 4) = 256 * (256 * (256 * x4 + x5) + x6) + x7 := by
              rw [four_at (show 4 + 4 ≤ X.length by omega)]
              have d4 := l4 emp; have d5 := l5 emp; have d6 := l6 emp; have d7 := l7 emp
              rw [rdB (show 4 < X.length by omega)] at d4
              rw [rdB (show 5 < X.length by omega)] at d5
              rw [rdB (show 6 < X.length by omega)] at d6
              rw [rdB (show 7 < X.length by omega)] at d7
              cases d4; cases d5; cases d6; cases d7
              simp [joinN]; omega
            unfold byte at z4 z5 z6 z7
            refine loop_n 5 ?_
            (simp only [go_sem, w64, Int.cast_ofNat_Int, Int.reduceEq, Int.reduceAdd, Int.reduceSub, Int.reduceMul, Int.natCast_zero, Int.natCast_inj, Int.ofNat_lt, Int.ofNat_le, Int.natCast_nonneg, Int.toNat_natCast, Nat.mul_one, Nat.reduceLT, Int.reduceLT, Int.reduceLE, Int.reduceToNat, Nat.reduceAdd, Nat.reduceSub, Nat.reduceMul, Nat.reduceLeDiff, decide_true, decide_false, Bool.not_true, Bool.not_false, Bool.false_eq_true, if_true, if_false, true_and, and_true, and_self, reduceCtorEq, Bool.and_true, Bool.true_and, Bool.and_self, upd_upd, loopN_succ, show (4 : Int) < (X.length : Int) by omega, show (5 : Int) < (X.length : Int) by omega, show (6 : Int) < (X.length : Int) by omega, show (7 : Int) < (X.length : Int) by omega, l4, l5, l6, l7, Int.zero_add,
              w64 (n := x4) (by omega) (by omega), w64 (n := x5) (by omega) (by omega), w64 (n := x6) (by omega) (by omega), w64 (n := x7) (by omega) (by omega), w64 (n := 256 * x4) (by omega) (by omega), w64 (n := 256 * x4 + x5) (by omega) (by omega), w64 (n := 256 * (256 * x4 + x5)) (by omega) (by omega), w64 (n := 256 * (256 * x4 + x5) + x6) (by omega) (by omega), w64 (n := 256 * (256 * (256 * x4 + x5) + x6)) (by omega) (by omega), w64 (n := 256 * (256 * (256 * x4 + x5) + x6) + x7) (by omega) (by omega), ← hj]; refine frz_id ?_; simp only [go_sem, w64, Int.cast_ofNat_Int, Int.reduceEq, Int.reduceAdd, Int.reduceSub, Int.reduceMul, Int.natCast_zero, Int.natCast_inj, Int.ofNat_lt, Int.ofNat_le, Int.natCast_nonneg, Int.toNat_natCast, Nat.mul_one, Nat.reduceLT, Int.reduceLT, Int.reduceLE, Int.reduceToNat, Nat.reduceAdd, Nat.reduceSub, Nat.reduceMul, Nat.reduceLeDiff, decide_true, decide_false, Bool.not_true, Bool.not_false, Bool.false_eq_true, if_true, if_false, true_and, and_true, and_self, reduceCtorEq, Bool.and_true, Bool.true_and, Bool.and_self, upd_upd])
            have s2 : ∀ e2, sliceA 1 (.ro (cat b1 X) X.length e2) (some (.int .i64 2)) none none = some (.ro (cat b1 (X.drop 2)) (X.drop 2).length e2) := fun e2 => sl_lo' (a := 2) (by omega)
            have s8 : ∀ e2, sliceA 1 (.ro (cat b1 X) X.length e2) (some (.int .i64 8)) none none = some (.ro (cat b1 (X.drop 8)) (X.drop 8).length e2) := fun e2 => sl_lo' (a := 8) (by omega)
            have s10 : ∀ e2, sliceA 1 (.ro (cat b1 X) X.length e2) (some (.int .i64 10)) none none = some (.ro (cat b1 (X.drop 10)) (X.drop 10).length e2) := fun e2 => sl_lo' (a := 10) (by omega)
            have l0' := l0 h1
            rw [aload_rp] at l0'
            simp only [go_sem, w64, Int.cast_ofNat_Int, Int.reduceEq, Int.reduceAdd, Int.reduceSub, Int.reduceMul, Int.natCast_zero, Int.natCast_inj, Int.ofNat_lt, Int.ofNat_le, Int.natCast_nonneg, Int.toNat_natCast, Nat.mul_one, Nat.reduceLT, Int.reduceLT, Int.reduceLE, Int.reduceToNat, Nat.reduceAdd, Nat.reduceSub, Nat.reduceMul, Nat.reduceLeDiff, decide_true, decide_false, Bool.not_true, Bool.not_false, Bool.false_eq_true, if_true, if_false, true_and, and_true, and_self, reduceCtorEq, Bool.and_true, Bool.true_and, Bool.and_self, upd_upd, h0, l0', s2, s8, s10]
            refine (rtwo_spec X 0 _ _ (by omega) hxb).use ?_
            simp only [go_sem, w64, Int.cast_ofNat_Int, Int.reduceEq, Int.reduceAdd, Int.reduceSub, Int.reduceMul, Int.natCast_zero, Int.natCast_inj, Int.ofNat_lt, Int.ofNat_le, Int.natCast_nonneg, Int.toNat_natCast, Nat.mul_one, Nat.reduceLT, Int.reduceLT, Int.reduceLE, Int.reduceToNat, Nat.reduceAdd, Nat.reduceSub, Nat.reduceMul, Nat.reduceLeDiff, decide_true, decide_false, Bool.not_true, Bool.not_false, Bool.false_eq_true, if_true, if_false, true_and, and_true, and_self, reduceCtorEq, Bool.and_true, Bool.true_and, Bool.and_self, upd_upd, l0, l0']
            refine (rtwo_spec X 2 _ _ (by omega) hxb).use ?_
            simp only [go_sem, w64, Int.cast_ofNat_Int, Int.reduceEq, Int.reduceAdd, Int.reduceSub, Int.reduceMul, Int.natCast_zero, Int.natCast_inj, Int.ofNat_lt, Int.ofNat_le, Int.natCast_nonneg, Int.toNat_natCast, Nat.mul_one, Nat.reduceLT, Int.reduceLT, Int.reduceLE, Int.reduceToNat, Nat.reduceAdd, Nat.reduceSub, Nat.reduceMul, Nat.reduceLeDiff, decide_true, decide_false, Bool.not_true, Bool.not_false, Bool.false_eq_true, if_true, if_false, true_and, and_true, and_self, reduceCtorEq, Bool.and_true, Bool.true_and, Bool.and_self, upd_upd, l0, l0']
            refine (rtwo_spec X 8 _ _ (by omega) hxb).use ?_
            simp only [go_sem, w64, Int.cast_ofNat_Int, Int.reduceEq, Int.reduceAdd, Int.reduceSub, Int.reduceMul, Int.natCast_zero, Int.natCast_inj, Int.ofNat_lt, Int.ofNat_le, Int.natCast_nonneg, Int.toNat_natCast, Nat.mul_one, Nat.reduceLT, Int.reduceLT, Int.reduceLE, Int.reduceToNat, Nat.reduceAdd, Nat.reduceSub, Nat.reduceMul, Nat.reduceLeDiff, decide_true, decide_false, Bool.not_true, Bool.not_false, Bool.false_eq_true, if_true, if_false, true_and, and_true, and_self, reduceCtorEq, Bool.and_true, Bool.true_and, Bool.and_self, upd_upd, l0, l0']
            refine (Grow.lit (by simp) (by simp)).addN (by rw [cat_len b1_len]) (cat_sca b1_sca _) (by simp; omega) fun vi h2' gi => ?_
            have gi' : Grow h1 1 vi (cat b1 (X.drop 10)) (X.drop 10).length h2' := by simpa using gi
            have wK : IntKind.i64.wrap (r.getD 0 0) = r.getD 0 0 := w64 (by omega) (by omega)
            have wJ : IntKind.i64.wrap (joinN ((X.drop 4).take 4)) = joinN ((X.drop 4).take 4) := w64 (by omega) (by omega)
            simp only [go_sem, w64, Int.cast_ofNat_Int, Int.reduceEq, Int.reduceAdd, Int.reduceSub, Int.reduceMul, Int.natCast_zero, Int.natCast_inj, Int.ofNat_lt, Int.ofNat_le, Int.natCast_nonneg, Int.toNat_natCast, Nat.mul_one, Nat.reduceLT, Int.reduceLT, Int.reduceLE, Int.reduceToNat, Nat.reduceAdd, Nat.reduceSub, Nat.reduceMul, Nat.reduceLeDiff, decide_true, decide_false, Bool.not_true, Bool.not_false, Bool.false_eq_true, if_true, if_false, true_and, and_true, and_self, reduceCtorEq, Bool.and_true, Bool.true_and, Bool.and_self, upd_upd, l0, l0', gi.box, wK, wJ]
            refine g.addIn (pre := [.int .i64 (r.getD 0 0), .int .i64 (two X 0), .int .i64 (two X 2), .int .i64 (joinN ((X.drop 4).take 4)), .int .i64 (two X 8)]) (post := []) gi' rfl rfl rfl (by simp only [List.length_cons] at hacc; omega) fun v' h' ⟨h4, z4', g4⟩ => ?_
            simp only [go_sem, w64, Int.cast_ofNat_Int, Int.reduceEq, Int.reduceAdd, Int.reduceSub, Int.reduceMul, Int.natCast_zero, Int.natCast_inj, Int.ofNat_lt, Int.ofNat_le, Int.natCast_nonneg, Int.toNat_natCast, Nat.mul_one, Nat.reduceLT, Int.reduceLT, Int.reduceLE, Int.reduceToNat, Nat.reduceAdd, Nat.reduceSub, Nat.reduceMul, Nat.reduceLeDiff, decide_true, decide_false, Bool.not_true, Bool.not_false, Bool.false_eq_true, if_true, if_false, true_and, and_true, and_self, reduceCtorEq, Bool.and_true, Bool.true_and, Bool.and_self, upd_upd, w6, w7]
            refine hN (acc ++ [stepOf (r.getD 0 0) X], v', a + 2 + entN r, o) _ _ h4 hle ?_ z4' ⟨by dsimp only; omega, ho, by dsimp only; rw [hdr, List.append_assoc]; exact Prod.ext hd1 hd2, ?_⟩
            · simp only [go_sem, w64, Int.cast_ofNat_Int, Int.reduceEq, Int.reduceAdd, Int.reduceSub, Int.reduceMul, Int.natCast_zero, Int.natCast_inj, Int.ofNat_lt, Int.ofNat_le, Int.natCast_nonneg, Int.toNat_natCast, Nat.mul_one, Nat.reduceLT, Int.reduceLT, Int.reduceLE, Int.reduceToNat, Nat.reduceAdd, Nat.reduceSub, Nat.reduceMul, Nat.reduceLeDiff, decide_true, decide_false, Bool.not_true, Bool.not_false, Bool.false_eq_true, if_true, if_false, true_and, and_true, and_self, reduceCtorEq, Bool.and_true, Bool.true_and, Bool.and_self, upd_upd, d49_0]
            · simpa [cat_append, cat, stepOf, St.av] using g4
      · have hw : whole r = false := by rw [hwh]; exact decide_eq_false hw2
        rw [dec_part hne hw] at hd1 hd2
        dsimp only at hd1 hd2
        rw [List.append_nil] at hd1
        rw [hd1, hd2] at hQ
        simp only [go_sem, w64, Int.cast_ofNat_Int, Int.reduceEq, Int.reduceAdd, Int.reduceSub, Int.reduceMul, Int.natCast_zero, Int.natCast_inj, Int.ofNat_lt, Int.ofNat_le, Int.natCast_nonneg, Int.toNat_natCast, Nat.mul_one, Nat.reduceLT, Int.reduceLT, Int.reduceLE, Int.reduceToNat, Nat.reduceAdd, Nat.reduceSub, Nat.reduceMul, Nat.reduceLeDiff, decide_true, decide_false, Bool.not_true, Bool.not_false, Bool.false_eq_true, if_true, if_false, true_and, and_true, and_self, reduceCtorEq, Bool.and_true, Bool.true_and, Bool.and_self, upd_upd, show ((b.length : Int) - a - 2 < (entN r : Int)) by omega, w5]
        refine hQ _ _ _ _ [_, _] (by first | exact .inr rfl | exact .inl rfl) rfl g.fzH (.cons g.fz (.cons (.refl _) .nil)) rfl
  · have : r = [] := by rw [← hR]; exact List.drop_of_length_le (by omega)
    rw [this, dec_nil] at hd1 hd2
    simp only [List.append_nil, Int.add_zero] at hd1 hd2
    rw [hd1, hd2] at hQ
    (simp only [go_sem, w64, Int.cast_ofNat_Int, Int.reduceEq, Int.reduceAdd, Int.reduceSub, Int.reduceMul, Int.natCast_zero, Int.natCast_inj, Int.ofNat_lt, Int.ofNat_le, Int.natCast_nonneg, Int.toNat_natCast, Nat.mul_one, Nat.reduceLT, Int.reduceLT, Int.reduceLE, Int.reduceToNat, Nat.reduceAdd, Nat.reduceSub, Nat.reduceMul, Nat.reduceLeDiff, decide_true, decide_false, Bool.not_true, Bool.not_false, Bool.false_eq_true, if_true, if_false, true_and, and_true, and_self, reduceCtorEq, Bool.and_true, Bool.true_and, Bool.and_self, upd_upd, h0]; refine frz_id ?_; simp only [go_sem, w64, Int.cast_ofNat_Int, Int.reduceEq, Int.reduceAdd, Int.reduceSub, Int.reduceMul, Int.natCast_zero, Int.natCast_inj, Int.ofNat_lt, Int.ofNat_le, Int.natCast_nonneg, Int.toNat_natCast, Nat.mul_one, Nat.reduceLT, Int.reduceLT, Int.reduceLE, Int.reduceToNat, Nat.reduceAdd, Nat.reduceSub, Nat.reduceMul, Nat.reduceLeDiff, decide_true, decide_false, Bool.not_true, Bool.not_false, Bool.false_eq_true, if_true, if_false, true_and, and_true, and_self, reduceCtorEq, Bool.and_true, Bool.true_and, Bool.and_self, upd_upd])
    refine hQ _ _ _ _ [_, _] (by first | exact .inr rfl | exact .inl rfl) rfl g.fzH (.cons g.fz (.cons (.refl _) .nil)) rfl

end Go.Proofs.Ytlbpmgkfekeaeaa
