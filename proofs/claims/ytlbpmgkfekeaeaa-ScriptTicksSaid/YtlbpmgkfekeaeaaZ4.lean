/-
  Package script: contracts, ScriptTicks.
-/
import Derived.Test.YtlbpmgkfekeaeaaZ3
namespace Go.Proofs.Ytlbpmgkfekeaeaa
open Go E
set_option linter.unusedVariables false
set_option linter.unusedSimpArgs false
set_option maxRecDepth 100000

theorem lput_spec (size : Int) (hs : size = 1 ∨ size = 2 ∨ size = 4) (id : Nat) (v vl : AV) (bs ns : List Int) (h : AHeap) (hid : h id = some (.cells [v] 1)) (hv : Sl h 1 v (bs.map b1)) (hl : Sl h 1 vl (ns.map i1)) (hf : fitsN size ns = true) (hn : ns.length ≤ 1280) (hb : (bs.length : Int) + size * ns.length ≤ 1280) :
    CallsA Try.prog 99 [.ptr id 0, .int .i64 size, vl] h fun r h' => r = .tup [] ∧ ∃ h1 v', Own h h1 1 v' ((bs ++ ns.flatMap (digs size)).map b1) ∧ h' = upd h1 id (.cells [v'] 1) := by
  (refine CallsA.enterR (ac := c99) (rs := r99) Try.func99 rfl (by decide) c99_ok r99_ok ?_; intro Q hQ; simp only [go_sem, Nat.reduceAdd, Nat.reduceSub, Nat.reduceMul, Nat.reduceLeDiff, decide_true, decide_false, Bool.not_true, Bool.not_false, Bool.false_eq_true, if_true, if_false, true_and, and_true, and_self, reduceCtorEq, Bool.and_true, Bool.true_and, Bool.and_self, upd_upd, c99, Try.ntmps99])
  simp only [go_sem, Nat.reduceAdd, Nat.reduceSub, Nat.reduceMul, Nat.reduceLeDiff, decide_true, decide_false, Bool.not_true, Bool.not_false, Bool.false_eq_true, if_true, if_false, true_and, and_true, and_self, reduceCtorEq, Bool.and_true, Bool.true_and, Bool.and_self, upd_upd, hid]
  refine (pput_spec size hs v vl bs ns h hv hl hf hn hb).mono ?_
  rintro r h1 ⟨v', rfl, ow⟩
  have h2 : h1 id = some (.cells [v] 1) := ow.sub _ _ hid
  have sc : scalar v' = true := by
    rcases ow.how with ⟨rfl, _⟩ | ⟨i, cap, rfl, _⟩ <;> rfl
  have co : cellsOf v' = some [v'] := by
    rcases ow.how with ⟨rfl, _⟩ | ⟨i, cap, rfl, _⟩ <;> rfl
  simp only [go_sem, Nat.reduceAdd, Nat.reduceSub, Nat.reduceMul, Nat.reduceLeDiff, decide_true, decide_false, Bool.not_true, Bool.not_false, Bool.false_eq_true, if_true, if_false, true_and, and_true, and_self, reduceCtorEq, Bool.and_true, Bool.true_and, Bool.and_self, upd_upd, h2, sc, co]
  exact hQ _ _ _ _ _ (.inl rfl) rfl (Sub.refl _) ⟨rfl, h1, v', ow, rfl⟩

theorem same2_spec (v w : AV) (xs ys : List Int) (h : AHeap) (hv : Sl h 1 v (xs.map b1)) (hw : Sl h 1 w (ys.map b1)) (hn : xs.length ≤ 1000000) : PureA Try.prog 48 [v, w] h (.bool (decide (xs = ys))) := by
  (refine PureA.enter (ac := c48) (rs := r48) Try.func48 rfl (by decide) c48_ok r48_ok ?_; intro Q hQ; simp only [go_sem, Nat.reduceAdd, Nat.reduceSub, Nat.reduceMul, Nat.reduceLeDiff, decide_true, decide_false, Bool.not_true, Bool.not_false, Bool.false_eq_true, if_true, if_false, true_and, and_true, and_self, reduceCtorEq, Bool.and_true, Bool.true_and, Bool.and_self, upd_upd, c48, Try.ntmps48, hv.lenB, hw.lenB])
  by_cases hlen : xs.length = ys.length
  · have h0 : (xs.length : Int) = (ys.length : Int) := by omega
    simp only [go_sem, Nat.reduceAdd, Nat.reduceSub, Nat.reduceMul, Nat.reduceLeDiff, decide_true, decide_false, Bool.not_true, Bool.not_false, Bool.false_eq_true, if_true, if_false, true_and, and_true, and_self, reduceCtorEq, Bool.and_true, Bool.true_and, Bool.and_self, upd_upd, h0]
    refine loop_range d48_0 xs.length (fun k s => s.set 5 (.int .i64 k)) (fun k h' => (xs.take k = ys.take k) ∧ h' = h) ?_ ⟨rfl, rfl⟩ ?_
    · simp only [go_sem, Nat.reduceAdd, Nat.reduceSub, Nat.reduceMul, Nat.reduceLeDiff, decide_true, decide_false, Bool.not_true, Bool.not_false, Bool.false_eq_true, if_true, if_false, true_and, and_true, and_self, reduceCtorEq, Bool.and_true, Bool.true_and, Bool.and_self, upd_upd, d48_0]; rfl
    rintro N k h' hk ⟨hall, rfl⟩ hN
    simp only [go_sem, Nat.reduceAdd, Nat.reduceSub, Nat.reduceMul, Nat.reduceLeDiff, decide_true, decide_false, Bool.not_true, Bool.not_false, Bool.false_eq_true, if_true, if_false, true_and, and_true, and_self, reduceCtorEq, Bool.and_true, Bool.true_and, Bool.and_self, upd_upd, d48_0, hv.lenB]
    by_cases hlt : k < xs.length
    · have h1 : (k : Int) < (xs.length : Int) := by omega
      have h1' : (k : Int) < (ys.length : Int) := by omega
      have h2 : (0 : Int) ≤ k := by omega
      have hadd : IntKind.i64.wrap ((k : Int) + 1) = ((k + 1 : Nat) : Int) := by rw [w64 (by omega)]; rfl
      have hl1 := hv.loadB hlt
      have hl2 := hw.loadB (i := k) (by omega)
      simp only [go_sem, Nat.reduceAdd, Nat.reduceSub, Nat.reduceMul, Nat.reduceLeDiff, decide_true, decide_false, Bool.not_true, Bool.not_false, Bool.false_eq_true, if_true, if_false, true_and, and_true, and_self, reduceCtorEq, Bool.and_true, Bool.true_and, Bool.and_self, upd_upd, h1, h1', h2, hl1, hl2, hv.idx, hw.idx, Int.toNat_natCast, List.length_map]
      by_cases g : xs[k] = ys[k]
      · simp only [go_sem, Nat.reduceAdd, Nat.reduceSub, Nat.reduceMul, Nat.reduceLeDiff, decide_true, decide_false, Bool.not_true, Bool.not_false, Bool.false_eq_true, if_true, if_false, true_and, and_true, and_self, reduceCtorEq, Bool.and_true, Bool.true_and, Bool.and_self, upd_upd, g, hadd]
        refine hN _ _ hlt ?_ ⟨by rw [List.take_succ_eq_append_getElem hlt, List.take_succ_eq_append_getElem (by omega), hall, g], rfl⟩
        simp only [go_sem, Nat.reduceAdd, Nat.reduceSub, Nat.reduceMul, Nat.reduceLeDiff, decide_true, decide_false, Bool.not_true, Bool.not_false, Bool.false_eq_true, if_true, if_false, true_and, and_true, and_self, reduceCtorEq, Bool.and_true, Bool.true_and, Bool.and_self, upd_upd, d48_0]
      · simp only [go_sem, Nat.reduceAdd, Nat.reduceSub, Nat.reduceMul, Nat.reduceLeDiff, decide_true, decide_false, Bool.not_true, Bool.not_false, Bool.false_eq_true, if_true, if_false, true_and, and_true, and_self, reduceCtorEq, Bool.and_true, Bool.true_and, Bool.and_self, upd_upd, g]
        refine hQ _ _ _ _ (.inr rfl) rfl ?_ (by (repeat' (first | exact Sub.refl _ | assumption | (refine Sub.upd ?_ (by first | assumption | (simp only [*]; done) | exact Sub.isNone (by assumption) (by assumption) | exact Sub.isNone (by assumption) (by simp only [*]))))))
        have : xs ≠ ys := by rintro rfl; exact g rfl
        simp only [go_sem, Nat.reduceAdd, Nat.reduceSub, Nat.reduceMul, Nat.reduceLeDiff, decide_true, decide_false, Bool.not_true, Bool.not_false, Bool.false_eq_true, if_true, if_false, true_and, and_true, and_self, reduceCtorEq, Bool.and_true, Bool.true_and, Bool.and_self, upd_upd, this]
    · have h1 : ¬ (k : Int) < (xs.length : Int) := by omega
      simp only [go_sem, Nat.reduceAdd, Nat.reduceSub, Nat.reduceMul, Nat.reduceLeDiff, decide_true, decide_false, Bool.not_true, Bool.not_false, Bool.false_eq_true, if_true, if_false, true_and, and_true, and_self, reduceCtorEq, Bool.and_true, Bool.true_and, Bool.and_self, upd_upd, h1]
      refine hQ _ _ _ _ (.inr rfl) rfl ?_ (by (repeat' (first | exact Sub.refl _ | assumption | (refine Sub.upd ?_ (by first | assumption | (simp only [*]; done) | exact Sub.isNone (by assumption) (by assumption) | exact Sub.isNone (by assumption) (by simp only [*]))))))
      rw [List.take_of_length_le (by omega), List.take_of_length_le (by omega)] at hall
      simp only [go_sem, Nat.reduceAdd, Nat.reduceSub, Nat.reduceMul, Nat.reduceLeDiff, decide_true, decide_false, Bool.not_true, Bool.not_false, Bool.false_eq_true, if_true, if_false, true_and, and_true, and_self, reduceCtorEq, Bool.and_true, Bool.true_and, Bool.and_self, upd_upd, hall]
  · have h0 : ¬ (xs.length : Int) = (ys.length : Int) := by omega
    simp only [go_sem, Nat.reduceAdd, Nat.reduceSub, Nat.reduceMul, Nat.reduceLeDiff, decide_true, decide_false, Bool.not_true, Bool.not_false, Bool.false_eq_true, if_true, if_false, true_and, and_true, and_self, reduceCtorEq, Bool.and_true, Bool.true_and, Bool.and_self, upd_upd, h0]
    refine hQ _ _ _ _ (.inr rfl) rfl ?_ (by (repeat' (first | exact Sub.refl _ | assumption | (refine Sub.upd ?_ (by first | assumption | (simp only [*]; done) | exact Sub.isNone (by assumption) (by assumption) | exact Sub.isNone (by assumption) (by simp only [*]))))))
    have : xs ≠ ys := by rintro rfl; exact hlen rfl
    simp only [go_sem, Nat.reduceAdd, Nat.reduceSub, Nat.reduceMul, Nat.reduceLeDiff, decide_true, decide_false, Bool.not_true, Bool.not_false, Bool.false_eq_true, if_true, if_false, true_and, and_true, and_self, reduceCtorEq, Bool.and_true, Bool.true_and, Bool.and_self, upd_upd, this]

/-! slices.ContainsFunc of numbers. -/
def idxI (p : Int → Bool) (l : List Int) : Int := match l.findIdx? p with | some i => (i : Int) | none => -1

theorem idxI_none {p : Int → Bool} {l : List Int} (h : l.all (fun x => !p x) = true) : idxI p l = -1 := by
  unfold idxI
  rw [List.findIdx?_eq_none_iff.2]
  intro x hx
  have := List.all_eq_true.1 h x hx
  simpa using this

theorem idxI_some {p : Int → Bool} {l : List Int} {k : Nat} (hk : k < l.length) (h : (l.take k).all (fun x => !p x) = true) (hp : p l[k] = true) : idxI p l = k := by
  unfold idxI
  rw [List.findIdx?_eq_some_iff_getElem.2 ⟨hk, hp, ?_⟩]
  intro j hj
  have := List.all_eq_true.1 h l[j] (by rw [List.mem_take_iff_getElem]; exact ⟨j, by omega, rfl⟩)
  simpa using this

theorem idxI_any (p : Int → Bool) (l : List Int) : decide (0 ≤ idxI p l) = l.any p := by
  by_cases h : l.any p = true
  · rw [h]
    obtain ⟨x, hx, hp⟩ := List.any_eq_true.1 h
    unfold idxI
    cases e : l.findIdx? p with
    | none => rw [List.findIdx?_eq_none_iff] at e; have := e x hx; rw [hp] at this; cases this
    | some i => exact decide_eq_true (by simp)
  · simp only [Bool.not_eq_true] at h
    rw [h, idxI_none]
    · rfl
    · rw [List.all_eq_true]; intro x hx
      rw [List.any_eq_false] at h
      simpa using h x hx

theorem iindex_spec (v : AV) (l : List Int) (g : FuncId) (cp : List AV) (p : Int → Bool) (h : AHeap) (hv : Sl h 1 v (l.map i1)) (hp : ∀ x ∈ l, PureA Try.prog g (.int .i64 x :: cp) h (.bool (p x))) (hn : l.length ≤ 1000000) :
    PureA Try.prog 110 [v, .fn g cp] h (.int .i64 (idxI p l)) := by
  (refine PureA.enter (ac := c110) (rs := r110) Try.func110 rfl (by decide) c110_ok r110_ok ?_; intro Q hQ; simp only [go_sem, Nat.reduceAdd, Nat.reduceSub, Nat.reduceMul, Nat.reduceLeDiff, decide_true, decide_false, Bool.not_true, Bool.not_false, Bool.false_eq_true, if_true, if_false, true_and, and_true, and_self, reduceCtorEq, Bool.and_true, Bool.true_and, Bool.and_self, upd_upd, c110, Try.ntmps110, hv.lenI])
  refine loop_range d110_0 l.length (fun k s => s.set 8 (.int .i64 k)) (fun k h' => (l.take k).all (fun x => !p x) = true ∧ h' = h) ?_ ⟨rfl, rfl⟩ ?_
  · simp only [go_sem, Nat.reduceAdd, Nat.reduceSub, Nat.reduceMul, Nat.reduceLeDiff, decide_true, decide_false, Bool.not_true, Bool.not_false, Bool.false_eq_true, if_true, if_false, true_and, and_true, and_self, reduceCtorEq, Bool.and_true, Bool.true_and, Bool.and_self, upd_upd, d110_0]; rfl
  rintro N k h' hk ⟨hall, rfl⟩ hN
  simp only [go_sem, Nat.reduceAdd, Nat.reduceSub, Nat.reduceMul, Nat.reduceLeDiff, decide_true, decide_false, Bool.not_true, Bool.not_false, Bool.false_eq_true, if_true, if_false, true_and, and_true, and_self, reduceCtorEq, Bool.and_true, Bool.true_and, Bool.and_self, upd_upd, d110_0]
  by_cases hlt : k < l.length
  · have h1 : (k : Int) < (l.length : Int) := by omega
    have h2 : (0 : Int) ≤ k := by omega
    have hadd : IntKind.i64.wrap ((k : Int) + 1) = ((k + 1 : Nat) : Int) := by rw [w64 (by omega)]; rfl
    have hl := hv.loadI hlt
    have ht := takeI_all (p := fun x => !p x) hlt hall
    simp only [go_sem, Nat.reduceAdd, Nat.reduceSub, Nat.reduceMul, Nat.reduceLeDiff, decide_true, decide_false, Bool.not_true, Bool.not_false, Bool.false_eq_true, if_true, if_false, true_and, and_true, and_self, reduceCtorEq, Bool.and_true, Bool.true_and, Bool.and_self, upd_upd, h1, h2, hl, hv.idx, Int.toNat_natCast, List.length_map]
    refine (hp _ (List.getElem_mem hlt)).use ?_
    cases g : p l[k]
    · simp only [go_sem, Nat.reduceAdd, Nat.reduceSub, Nat.reduceMul, Nat.reduceLeDiff, decide_true, decide_false, Bool.not_true, Bool.not_false, Bool.false_eq_true, if_true, if_false, true_and, and_true, and_self, reduceCtorEq, Bool.and_true, Bool.true_and, Bool.and_self, upd_upd, hadd]
      refine hN _ _ hlt ?_ ⟨by rw [ht, g]; rfl, rfl⟩
      simp only [go_sem, Nat.reduceAdd, Nat.reduceSub, Nat.reduceMul, Nat.reduceLeDiff, decide_true, decide_false, Bool.not_true, Bool.not_false, Bool.false_eq_true, if_true, if_false, true_and, and_true, and_self, reduceCtorEq, Bool.and_true, Bool.true_and, Bool.and_self, upd_upd, d110_0]
    · simp only [go_sem, Nat.reduceAdd, Nat.reduceSub, Nat.reduceMul, Nat.reduceLeDiff, decide_true, decide_false, Bool.not_true, Bool.not_false, Bool.false_eq_true, if_true, if_false, true_and, and_true, and_self, reduceCtorEq, Bool.and_true, Bool.true_and, Bool.and_self, upd_upd]
      refine hQ _ _ _ _ (.inr rfl) rfl ?_ (by (repeat' (first | exact Sub.refl _ | assumption | (refine Sub.upd ?_ (by first | assumption | (simp only [*]; done) | exact Sub.isNone (by assumption) (by assumption) | exact Sub.isNone (by assumption) (by simp only [*]))))))
      rw [idxI_some hlt hall g]
      simp only [go_sem, Nat.reduceAdd, Nat.reduceSub, Nat.reduceMul, Nat.reduceLeDiff, decide_true, decide_false, Bool.not_true, Bool.not_false, Bool.false_eq_true, if_true, if_false, true_and, and_true, and_self, reduceCtorEq, Bool.and_true, Bool.true_and, Bool.and_self, upd_upd, r110]
  · have h1 : ¬ (k : Int) < (l.length : Int) := by omega
    simp only [go_sem, Nat.reduceAdd, Nat.reduceSub, Nat.reduceMul, Nat.reduceLeDiff, decide_true, decide_false, Bool.not_true, Bool.not_false, Bool.false_eq_true, if_true, if_false, true_and, and_true, and_self, reduceCtorEq, Bool.and_true, Bool.true_and, Bool.and_self, upd_upd, h1]
    refine hQ _ _ _ _ (.inr rfl) rfl ?_ (by (repeat' (first | exact Sub.refl _ | assumption | (refine Sub.upd ?_ (by first | assumption | (simp only [*]; done) | exact Sub.isNone (by assumption) (by assumption) | exact Sub.isNone (by assumption) (by simp only [*]))))))
    rw [List.take_of_length_le (by omega)] at hall
    rw [idxI_none hall]
    simp only [go_sem, Nat.reduceAdd, Nat.reduceSub, Nat.reduceMul, Nat.reduceLeDiff, decide_true, decide_false, Bool.not_true, Bool.not_false, Bool.false_eq_true, if_true, if_false, true_and, and_true, and_self, reduceCtorEq, Bool.and_true, Bool.true_and, Bool.and_self, upd_upd, r110]

theorem icontains_spec (v : AV) (l : List Int) (g : FuncId) (cp : List AV) (p : Int → Bool) (h : AHeap) (hv : Sl h 1 v (l.map i1)) (hp : ∀ x ∈ l, PureA Try.prog g (.int .i64 x :: cp) h (.bool (p x))) (hn : l.length ≤ 1000000) :
    PureA Try.prog 96 [v, .fn g cp] h (.bool (l.any p)) := by
  (refine PureA.enter (ac := c96) (rs := r96) Try.func96 rfl (by decide) c96_ok r96_ok ?_; intro Q hQ; simp only [go_sem, Nat.reduceAdd, Nat.reduceSub, Nat.reduceMul, Nat.reduceLeDiff, decide_true, decide_false, Bool.not_true, Bool.not_false, Bool.false_eq_true, if_true, if_false, true_and, and_true, and_self, reduceCtorEq, Bool.and_true, Bool.true_and, Bool.and_self, upd_upd, c96, Try.ntmps96])
  refine (iindex_spec v l g cp p h hv hp hn).use ?_
  simp only [go_sem, Nat.reduceAdd, Nat.reduceSub, Nat.reduceMul, Nat.reduceLeDiff, decide_true, decide_false, Bool.not_true, Bool.not_false, Bool.false_eq_true, if_true, if_false, true_and, and_true, and_self, reduceCtorEq, Bool.and_true, Bool.true_and, Bool.and_self, upd_upd]
  refine hQ _ _ _ _ (.inr rfl) rfl ?_ (by (repeat' (first | exact Sub.refl _ | assumption | (refine Sub.upd ?_ (by first | assumption | (simp only [*]; done) | exact Sub.isNone (by assumption) (by assumption) | exact Sub.isNone (by assumption) (by simp only [*]))))))
  simp only [go_sem, Nat.reduceAdd, Nat.reduceSub, Nat.reduceMul, Nat.reduceLeDiff, decide_true, decide_false, Bool.not_true, Bool.not_false, Bool.false_eq_true, if_true, if_false, true_and, and_true, and_self, reduceCtorEq, Bool.and_true, Bool.true_and, Bool.and_self, upd_upd, r96, idxI_any]

theorem shifted1_spec (n : Int) (h : AHeap) : PureA Try.prog 97 [.int .i64 n] h (.bool (decide (n < -32768 ∨ 32768 ≤ n))) := by
  (refine PureA.enter (ac := c97) (rs := r97) Try.func97 rfl (by decide) c97_ok r97_ok ?_; intro Q hQ; simp only [go_sem, Nat.reduceAdd, Nat.reduceSub, Nat.reduceMul, Nat.reduceLeDiff, decide_true, decide_false, Bool.not_true, Bool.not_false, Bool.false_eq_true, if_true, if_false, true_and, and_true, and_self, reduceCtorEq, Bool.and_true, Bool.true_and, Bool.and_self, upd_upd, c97, Try.ntmps97])
  repeat' (first | (intro _ hf_; (try simp only [upd_none] at hf_); (try simp only [go_sem, Nat.reduceAdd, Nat.reduceSub, Nat.reduceMul, Nat.reduceLeDiff, decide_true, decide_false, Bool.not_true, Bool.not_false, Bool.false_eq_true, if_true, if_false, true_and, and_true, and_self, reduceCtorEq, Bool.and_true, Bool.true_and, Bool.and_self, upd_upd, upd_ne, ne_eq, not_false_eq_true, *])) | (refine guard_split (fun hb_ => ?_) (fun hb_ => ?_) <;> (try simp only [decide_eq_true_eq, decide_eq_false_iff_not] at hb_) <;> (try simp only [go_sem, Nat.reduceAdd, Nat.reduceSub, Nat.reduceMul, Nat.reduceLeDiff, decide_true, decide_false, Bool.not_true, Bool.not_false, Bool.false_eq_true, if_true, if_false, true_and, and_true, and_self, reduceCtorEq, Bool.and_true, Bool.true_and, Bool.and_self, upd_upd, upd_ne, ne_eq, not_false_eq_true, *])) | (refine cond_split (fun hb_ => ?_) (fun hb_ => ?_) <;> (try simp only [decide_eq_true_eq, decide_eq_false_iff_not] at hb_) <;> (try simp only [go_sem, Nat.reduceAdd, Nat.reduceSub, Nat.reduceMul, Nat.reduceLeDiff, decide_true, decide_false, Bool.not_true, Bool.not_false, Bool.false_eq_true, if_true, if_false, true_and, and_true, and_self, reduceCtorEq, Bool.and_true, Bool.true_and, Bool.and_self, upd_upd, upd_ne, ne_eq, not_false_eq_true, *])) | (refine readG_split (fun hb_ => ?_) (fun hb_ => ?_) <;> (try simp only [decide_eq_true_eq, decide_eq_false_iff_not] at hb_) <;> (try simp only [go_sem, Nat.reduceAdd, Nat.reduceSub, Nat.reduceMul, Nat.reduceLeDiff, decide_true, decide_false, Bool.not_true, Bool.not_false, Bool.false_eq_true, if_true, if_false, true_and, and_true, and_self, reduceCtorEq, Bool.and_true, Bool.true_and, Bool.and_self, upd_upd, upd_ne, ne_eq, not_false_eq_true, *])))
  all_goals (refine hQ _ _ _ _ (.inr rfl) rfl ?_ (by (repeat' (first | exact Sub.refl _ | assumption | (refine Sub.upd ?_ (by first | assumption | (simp only [*]; done) | exact Sub.isNone (by assumption) (by assumption) | exact Sub.isNone (by assumption) (by simp only [*])))))); simp only [go_sem, Nat.reduceAdd, Nat.reduceSub, Nat.reduceMul, Nat.reduceLeDiff, decide_true, decide_false, Bool.not_true, Bool.not_false, Bool.false_eq_true, if_true, if_false, true_and, and_true, and_self, reduceCtorEq, Bool.and_true, Bool.true_and, Bool.and_self, upd_upd, r97]; (first | rfl | ((try simp only [tupA_one]); congr 1; first | rfl | (refine decide_eq_decide.2 ?_; omega) | (symm; refine decide_eq_true ?_; omega) | (symm; refine decide_eq_false ?_; omega) | (refine decide_eq_true ?_; omega) | (refine decide_eq_false ?_; omega))))

theorem shifted_spec (v : AV) (l : List Int) (h : AHeap) (hv : Sl h 1 v (l.map i1)) (hn : l.length ≤ 1000000) : PureA Try.prog 72 [v] h (.bool (!(l.any fun n => decide (n < -32768 ∨ 32768 ≤ n)))) := by
  (refine PureA.enter (ac := c72) (rs := r72) Try.func72 rfl (by decide) c72_ok r72_ok ?_; intro Q hQ; simp only [go_sem, Nat.reduceAdd, Nat.reduceSub, Nat.reduceMul, Nat.reduceLeDiff, decide_true, decide_false, Bool.not_true, Bool.not_false, Bool.false_eq_true, if_true, if_false, true_and, and_true, and_self, reduceCtorEq, Bool.and_true, Bool.true_and, Bool.and_self, upd_upd, c72, Try.ntmps72])
  refine (icontains_spec v l _ _ (fun n => decide (n < -32768 ∨ 32768 ≤ n)) h hv (fun x _ => shifted1_spec x h) hn).use ?_
  simp only [go_sem, Nat.reduceAdd, Nat.reduceSub, Nat.reduceMul, Nat.reduceLeDiff, decide_true, decide_false, Bool.not_true, Bool.not_false, Bool.false_eq_true, if_true, if_false, true_and, and_true, and_self, reduceCtorEq, Bool.and_true, Bool.true_and, Bool.and_self, upd_upd]
  refine hQ _ _ _ _ (.inr rfl) rfl ?_ (by (repeat' (first | exact Sub.refl _ | assumption | (refine Sub.upd ?_ (by first | assumption | (simp only [*]; done) | exact Sub.isNone (by assumption) (by assumption) | exact Sub.isNone (by assumption) (by simp only [*]))))))
  simp only [go_sem, Nat.reduceAdd, Nat.reduceSub, Nat.reduceMul, Nat.reduceLeDiff, decide_true, decide_false, Bool.not_true, Bool.not_false, Bool.false_eq_true, if_true, if_false, true_and, and_true, and_self, reduceCtorEq, Bool.and_true, Bool.true_and, Bool.and_self, upd_upd, r72]

end Go.Proofs.Ytlbpmgkfekeaeaa
