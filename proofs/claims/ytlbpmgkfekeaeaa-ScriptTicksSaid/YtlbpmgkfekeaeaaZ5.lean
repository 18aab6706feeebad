/-
  Package script: steps, entries; ScriptTicks.
-/
import Derived.Test.YtlbpmgkfekeaeaaZ4
namespace Go.Proofs.Ytlbpmgkfekeaeaa
open Go E
set_option linter.unusedVariables false
set_option linter.unusedSimpArgs false
set_option maxRecDepth 100000

/-- A step but for its bytes. -/
structure St where
  k : Int
  a : Int
  b : Int
  c : Int
  d : Int
  deriving DecidableEq

def St.av (s : St) (vb : AV) : List AV := [.int .i64 s.k, .int .i64 s.a, .int .i64 s.b, .int .i64 s.c, .int .i64 s.d, vb]

def fitsSt (s : St) (n : Nat) : Bool := decide (0 ≤ s.k ∧ s.k ≤ 12) && !([s.a, s.b, s.d].any fun n => decide (n < -32768 ∨ 32768 ≤ n)) && fitsN 4 [s.c] && decide ((n : Int) ≤ 245)

theorem sl_nbox {h : AHeap} {esz : Nat} {v : AV} {l : List (List AV)} (c : Sl h esz v l) : cellsOf v = some [v] ∧ scalar v = true := by
  rcases c.how with ⟨rfl, _⟩ | ⟨id, off, cap, rfl, _⟩ | ⟨ex, rfl⟩ <;> exact ⟨rfl, rfl⟩

theorem sfits_spec (s : St) (vb : AV) (xs : List Int) (h : AHeap) (hv : Sl h 1 vb (xs.map b1)) : PureA Try.prog 43 [.agg (s.av vb)] h (.bool (fitsSt s xs.length)) := by
  obtain ⟨k, a, b, c, d⟩ := s
  (refine PureA.enter (ac := c43) (rs := r43) Try.func43 rfl (by decide) c43_ok r43_ok ?_; intro Q hQ; simp only [go_sem, Nat.reduceAdd, Nat.reduceSub, Nat.reduceMul, Nat.reduceLeDiff, decide_true, decide_false, Bool.not_true, Bool.not_false, Bool.false_eq_true, if_true, if_false, true_and, and_true, and_self, reduceCtorEq, Bool.and_true, Bool.true_and, Bool.and_self, upd_upd, c43, Try.ntmps43, St.av])
  repeat' (first | (intro _ hf_; (try simp only [upd_none] at hf_); (try simp only [go_sem, Nat.reduceAdd, Nat.reduceSub, Nat.reduceMul, Nat.reduceLeDiff, decide_true, decide_false, Bool.not_true, Bool.not_false, Bool.false_eq_true, if_true, if_false, true_and, and_true, and_self, reduceCtorEq, Bool.and_true, Bool.true_and, Bool.and_self, upd_upd, hv.lenB, upd_ne, ne_eq, not_false_eq_true, *])) | (refine (shifted_spec _ [_, _, _] _ (Sl.litI upd_same (Nat.le_refl _)) (by simp)).use ?_ <;> (try simp only [go_sem, Nat.reduceAdd, Nat.reduceSub, Nat.reduceMul, Nat.reduceLeDiff, decide_true, decide_false, Bool.not_true, Bool.not_false, Bool.false_eq_true, if_true, if_false, true_and, and_true, and_self, reduceCtorEq, Bool.and_true, Bool.true_and, Bool.and_self, upd_upd, hv.lenB, upd_ne, ne_eq, not_false_eq_true, *])) | (refine (pfits_spec _ _ [_] _ (Sl.litI upd_same (Nat.le_refl _)) (by simp)).use ?_ <;> (try simp only [go_sem, Nat.reduceAdd, Nat.reduceSub, Nat.reduceMul, Nat.reduceLeDiff, decide_true, decide_false, Bool.not_true, Bool.not_false, Bool.false_eq_true, if_true, if_false, true_and, and_true, and_self, reduceCtorEq, Bool.and_true, Bool.true_and, Bool.and_self, upd_upd, hv.lenB, upd_ne, ne_eq, not_false_eq_true, *])) | (refine guard_split (fun hb_ => ?_) (fun hb_ => ?_) <;> (try simp only [decide_eq_true_eq, decide_eq_false_iff_not] at hb_) <;> (try simp only [go_sem, Nat.reduceAdd, Nat.reduceSub, Nat.reduceMul, Nat.reduceLeDiff, decide_true, decide_false, Bool.not_true, Bool.not_false, Bool.false_eq_true, if_true, if_false, true_and, and_true, and_self, reduceCtorEq, Bool.and_true, Bool.true_and, Bool.and_self, upd_upd, hv.lenB, upd_ne, ne_eq, not_false_eq_true, *])) | (refine cond_split (fun hb_ => ?_) (fun hb_ => ?_) <;> (try simp only [decide_eq_true_eq, decide_eq_false_iff_not] at hb_) <;> (try simp only [go_sem, Nat.reduceAdd, Nat.reduceSub, Nat.reduceMul, Nat.reduceLeDiff, decide_true, decide_false, Bool.not_true, Bool.not_false, Bool.false_eq_true, if_true, if_false, true_and, and_true, and_self, reduceCtorEq, Bool.and_true, Bool.true_and, Bool.and_self, upd_upd, hv.lenB, upd_ne, ne_eq, not_false_eq_true, *])) | (refine readG_split (fun hb_ => ?_) (fun hb_ => ?_) <;> (try simp only [decide_eq_true_eq, decide_eq_false_iff_not] at hb_) <;> (try simp only [go_sem, Nat.reduceAdd, Nat.reduceSub, Nat.reduceMul, Nat.reduceLeDiff, decide_true, decide_false, Bool.not_true, Bool.not_false, Bool.false_eq_true, if_true, if_false, true_and, and_true, and_self, reduceCtorEq, Bool.and_true, Bool.true_and, Bool.and_self, upd_upd, hv.lenB, upd_ne, ne_eq, not_false_eq_true, *])))
  all_goals (refine hQ _ _ _ _ (.inr rfl) rfl ?_ (by (repeat' (first | exact Sub.refl _ | assumption | (refine Sub.upd ?_ (by first | assumption | (simp only [*]; done) | exact Sub.isNone (by assumption) (by assumption) | exact Sub.isNone (by assumption) (by simp only [*])))))); first | rfl | (simp only [fitsSt, *, true_and, and_true, false_and, and_false, decide_true, decide_false, Bool.true_and, Bool.and_true, Bool.false_and, Bool.and_false] <;> rfl))

def entryL (s : St) (xs : List Int) : List Int :=
  digs 1 s.k ++ digs 1 (10 + xs.length) ++ (digs 2 (s.a + 32768) ++ digs 2 (s.b + 32768)) ++ digs 4 s.c ++ digs 2 (s.d + 32768) ++ xs

theorem fits_parts {s : St} {n : Nat} (h : fitsSt s n = true) : (0 ≤ s.k ∧ s.k ≤ 12) ∧ (-32768 ≤ s.a ∧ s.a < 32768) ∧ (-32768 ≤ s.b ∧ s.b < 32768) ∧ (0 ≤ s.c ∧ s.c < 4294967296) ∧ (-32768 ≤ s.d ∧ s.d < 32768) ∧ n ≤ 245 := by
  simp [fitsSt, fitsN, spanN] at h
  omega

/-- How memory stands between the line's puts: the step at j1, the line at j2. -/
structure LS (h : AHeap) (j1 j2 : Nat) (C : AObj) (h' : AHeap) (v : AV) (bs : List Int) : Prop where
  one : h' j1 = some C
  two : h' j2 = some (.cells [v] 1)
  ne : j1 ≠ j2
  new : h j2 = none
  own : Own h h' 1 v (bs.map b1)

theorem put_step {h h' : AHeap} {j1 j2 id : Nat} {C : AObj} {v : AV} {bs : List Int} (ls : LS h j1 j2 C h' v bs) (hid : h' id = none) (size : Int) (hs : size = 1 ∨ size = 2 ∨ size = 4) (ns : List Int) (hf : fitsN size ns = true) (hn : ns.length ≤ 1280) (hb : (bs.length : Int) + size * ns.length ≤ 1280) :
    CallsA Try.prog 99 [.ptr j2 0, .int .i64 size, .sl id 0 ns.length ns.length] (upd h' id (.cells (ns.map (.int .i64)) ns.length)) fun r h'' => r = .tup [] ∧ ∃ v', LS h j1 j2 C h'' v' (bs ++ ns.flatMap (digs size)) := by
  have s1 : Sub h' (upd h' id (.cells (ns.map (.int .i64)) ns.length)) := Sub.fresh (Sub.refl _) hid
  refine (lput_spec size hs j2 v _ bs ns _ (s1 _ _ ls.two) (ls.own.sl.sub s1) (Sl.litI upd_same (Nat.le_refl _)) hf hn hb).mono ?_
  rintro r h'' ⟨rfl, h1, v', ow, rfl⟩
  refine ⟨rfl, v', ⟨?_, upd_same, ls.ne, ls.new, ow.poke (ls.own.sub.trans s1) (by rw [s1 _ _ ls.two]; simp) ls.new⟩⟩
  rw [upd_ne ls.ne]
  exact ow.sub _ _ (s1 _ _ ls.one)

set_option maxHeartbeats 1000000 in
theorem entry_spec (s : St) (vb : AV) (xs : List Int) (h : AHeap) (hv : Sl h 1 vb (xs.map b1)) (hf : fitsSt s xs.length = true) : CallsA Try.prog 74 [.agg (s.av vb)] h fun r h' => Own h h' 1 r ((entryL s xs).map b1) := by
  obtain ⟨p1, p2, p3, p4, p5, p6⟩ := fits_parts hf
  obtain ⟨k, a, b, c, d⟩ := s
  dsimp only at p1 p2 p3 p4 p5
  have n1 : IntKind.i64.wrap (10 + (xs.length : Int)) = 10 + xs.length := w64 (by omega)
  have n2 : IntKind.i64.wrap (a + 32768) = a + 32768 := w64 (by omega)
  have n3 : IntKind.i64.wrap (b + 32768) = b + 32768 := w64 (by omega)
  have n4 : IntKind.i64.wrap (d + 32768) = d + 32768 := w64 (by omega)
  obtain ⟨co, sc⟩ := sl_nbox hv
  (refine CallsA.enterR (ac := c74) (rs := r74) Try.func74 rfl (by decide) c74_ok r74_ok ?_; intro Q hQ; simp only [go_sem, Nat.reduceAdd, Nat.reduceSub, Nat.reduceMul, Nat.reduceLeDiff, decide_true, decide_false, Bool.not_true, Bool.not_false, Bool.false_eq_true, if_true, if_false, true_and, and_true, and_self, reduceCtorEq, Bool.and_true, Bool.true_and, Bool.and_self, upd_upd, c74, Try.ntmps74, St.av, co, sc, hv.lenB, n1, n2, n3, n4])
  intro j1 hj1 j2 hj2
  simp only [upd_none] at hj2
  obtain ⟨q1, q2, q3⟩ := hj2
  have ls : LS h j1 j2 (.cells [.int .i64 k, .int .i64 a, .int .i64 b, .int .i64 c, .int .i64 d, vb] 6) (upd (upd h j1 (.cells [.int .i64 k, .int .i64 a, .int .i64 b, .int .i64 c, .int .i64 d, vb] 6)) j2 (.cells [.nils] 1)) .nils [] :=
    ⟨by rw [upd_ne q2]; exact upd_same, upd_same, q2, q3, Own.nil (by (repeat' (first | exact Sub.refl _ | assumption | (refine Sub.upd ?_ (by first | assumption | (simp only [*]; done) | exact Sub.isNone (by assumption) (by assumption) | exact Sub.isNone (by assumption) (by simp only [*]))))))⟩
  generalize upd (upd h j1 (.cells [.int .i64 k, .int .i64 a, .int .i64 b, .int .i64 c, .int .i64 d, vb] 6)) j2 (.cells [.nils] 1) = h0 at ls ⊢
  simp only [go_sem, Nat.reduceAdd, Nat.reduceSub, Nat.reduceMul, Nat.reduceLeDiff, decide_true, decide_false, Bool.not_true, Bool.not_false, Bool.false_eq_true, if_true, if_false, true_and, and_true, and_self, reduceCtorEq, Bool.and_true, Bool.true_and, Bool.and_self, upd_upd, ls.one, hv.lenB, n1]
  intro i0 hi0
  refine (put_step ls hi0 1 (by omega) [k, 10 + xs.length] (by simp [fitsN, spanN]; omega) (by simp) (by simp)).mono ?_
  rintro r h1 ⟨rfl, v1, ls1⟩
  simp only [go_sem, Nat.reduceAdd, Nat.reduceSub, Nat.reduceMul, Nat.reduceLeDiff, decide_true, decide_false, Bool.not_true, Bool.not_false, Bool.false_eq_true, if_true, if_false, true_and, and_true, and_self, reduceCtorEq, Bool.and_true, Bool.true_and, Bool.and_self, upd_upd, ls1.one, n2, n3]
  intro i1' hi1
  refine (put_step ls1 hi1 2 (by omega) [a + 32768, b + 32768] (by simp [fitsN, spanN]; omega) (by simp) (by simp [digs])).mono ?_
  rintro r h2 ⟨rfl, v2, ls2⟩
  simp only [go_sem, Nat.reduceAdd, Nat.reduceSub, Nat.reduceMul, Nat.reduceLeDiff, decide_true, decide_false, Bool.not_true, Bool.not_false, Bool.false_eq_true, if_true, if_false, true_and, and_true, and_self, reduceCtorEq, Bool.and_true, Bool.true_and, Bool.and_self, upd_upd, ls2.one]
  intro i2' hi2
  refine (put_step ls2 hi2 4 (by omega) [c] (by simp [fitsN, spanN]; omega) (by simp) (by simp [digs])).mono ?_
  rintro r h3 ⟨rfl, v3, ls3⟩
  simp only [go_sem, Nat.reduceAdd, Nat.reduceSub, Nat.reduceMul, Nat.reduceLeDiff, decide_true, decide_false, Bool.not_true, Bool.not_false, Bool.false_eq_true, if_true, if_false, true_and, and_true, and_self, reduceCtorEq, Bool.and_true, Bool.true_and, Bool.and_self, upd_upd, ls3.one, n4]
  intro i3' hi3
  refine (put_step ls3 hi3 2 (by omega) [d + 32768] (by simp [fitsN, spanN]; omega) (by simp) (by simp [digs])).mono ?_
  rintro r h4 ⟨rfl, v4, ls4⟩
  simp only [go_sem, Nat.reduceAdd, Nat.reduceSub, Nat.reduceMul, Nat.reduceLeDiff, decide_true, decide_false, Bool.not_true, Bool.not_false, Bool.false_eq_true, if_true, if_false, true_and, and_true, and_self, reduceCtorEq, Bool.and_true, Bool.true_and, Bool.and_self, upd_upd, ls4.one, ls4.two]
  refine ls4.own.append (hv.sub ls4.own.sub) (scB xs) (by simp [digs]; omega) fun v5 h5 ow _ => ?_
  simp only [go_sem, Nat.reduceAdd, Nat.reduceSub, Nat.reduceMul, Nat.reduceLeDiff, decide_true, decide_false, Bool.not_true, Bool.not_false, Bool.false_eq_true, if_true, if_false, true_and, and_true, and_self, reduceCtorEq, Bool.and_true, Bool.true_and, Bool.and_self, upd_upd]
  refine hQ _ _ _ _ _ (.inr rfl) rfl (Sub.refl _) ?_
  rw [tupA_one]
  rw [← List.map_append] at ow
  have e : entryL ⟨k, a, b, c, d⟩ xs = [] ++ [k, 10 + (xs.length : Int)].flatMap (digs 1) ++ [a + 32768, b + 32768].flatMap (digs 2) ++ [c].flatMap (digs 4) ++ [d + 32768].flatMap (digs 2) ++ xs := by
    simp [entryL]
  rw [e]; exact ow

end Go.Proofs.Ytlbpmgkfekeaeaa
