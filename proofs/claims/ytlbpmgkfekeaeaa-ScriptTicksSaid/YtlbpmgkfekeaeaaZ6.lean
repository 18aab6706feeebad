/-
  Package script: Encode, Ticks; ScriptTicks.
-/
import Derived.Test.YtlbpmgkfekeaeaaZ5
namespace Go.Proofs.Ytlbpmgkfekeaeaa
open Go E
set_option linter.unusedVariables false
set_option linter.unusedSimpArgs false
set_option maxRecDepth 100000

/-- A step with its bytes: as a slice, and what they are. -/
structure Sx where
  s : St
  vb : AV
  xs : List Int

def Sx.av (e : Sx) : List AV := e.s.av e.vb
def Sx.fits (e : Sx) : Bool := fitsSt e.s e.xs.length
def Sx.line (e : Sx) : List Int := entryL e.s e.xs

theorem digs_bd (size n : Int) : (digs size n).length ≤ 4 := by unfold digs; split <;> (try split) <;> simp
theorem line_len (e : Sx) (h : e.fits = true) : e.line.length ≤ 269 := by
  have := (fits_parts h).2.2.2.2.2
  have h1 := digs_bd 1 e.s.k
  have h2 := digs_bd 1 (10 + e.xs.length)
  have h3 := digs_bd 2 (e.s.a + 32768)
  have h4 := digs_bd 2 (e.s.b + 32768)
  have h5 := digs_bd 4 e.s.c
  have h6 := digs_bd 2 (e.s.d + 32768)
  simp only [Sx.line, entryL, List.length_append]; omega

theorem lines_len : ∀ (l : List Sx), l.all Sx.fits = true → (l.flatMap Sx.line).length ≤ 269 * l.length
  | [], _ => by simp
  | e :: l, h => by
    simp only [List.all_cons, Bool.and_eq_true] at h
    have := lines_len l h.2
    have := line_len e h.1
    simp only [List.flatMap_cons, List.length_append, List.length_cons]; omega

theorem takeS_all {α : Type} {p : α → Bool} {l : List α} {k : Nat} (hk : k < l.length) (h : (l.take k).all p = true) : (l.take (k + 1)).all p = p l[k] := by
  rw [List.take_succ_eq_append_getElem hk, List.all_append, h]; simp

theorem Sx.scalar (e : Sx) {h : AHeap} (hv : Sl h 1 e.vb (e.xs.map b1)) : e.av.all E.scalar = true := by
  have := (sl_nbox hv).2
  simp [Sx.av, St.av, E.scalar]
  exact this

set_option maxHeartbeats 1000000 in
theorem encode_spec (v : AV) (l : List Sx) (h : AHeap) (hv : Sl h 6 v (l.map Sx.av)) (hx : ∀ e ∈ l, Sl h 1 e.vb (e.xs.map b1)) (hn : l.length ≤ 100000) :
    CallsA Try.prog 46 [v] h fun r h' => if l.all Sx.fits then ∃ v', r = .tup [v', .int .i64 0] ∧ Own h h' 1 v' ((l.flatMap Sx.line).map b1) else r = .tup [.nils, .int .i64 1] ∧ h' = h := by
  (refine CallsA.enterR (ac := c46) (rs := r46) Try.func46 rfl (by decide) c46_ok r46_ok ?_; intro Q hQ; simp only [go_sem, Nat.reduceAdd, Nat.reduceSub, Nat.reduceMul, Nat.reduceLeDiff, decide_true, decide_false, Bool.not_true, Bool.not_false, Bool.false_eq_true, if_true, if_false, true_and, and_true, and_self, reduceCtorEq, Bool.and_true, Bool.true_and, Bool.and_self, upd_upd, c46, Try.ntmps46])
  simp only [go_sem, Nat.reduceAdd, Nat.reduceSub, Nat.reduceMul, Nat.reduceLeDiff, decide_true, decide_false, Bool.not_true, Bool.not_false, Bool.false_eq_true, if_true, if_false, true_and, and_true, and_self, reduceCtorEq, Bool.and_true, Bool.true_and, Bool.and_self, upd_upd, hv.len, List.length_map]
  refine loop_st d46_0 (fun x : Nat × AV => l.length - x.1) (fun x s => (s.set 4 x.2).set 9 (.int .i64 x.1)) (fun x h' => x.1 ≤ l.length ∧ (l.take x.1).all Sx.fits = true ∧ Own h h' 1 x.2 (((l.take x.1).flatMap Sx.line).map b1)) (0, .nils) ?_ ⟨by simp, by simp, by simpa using Own.nil (Sub.refl _)⟩ ?_
  · simp only [go_sem, Nat.reduceAdd, Nat.reduceSub, Nat.reduceMul, Nat.reduceLeDiff, decide_true, decide_false, Bool.not_true, Bool.not_false, Bool.false_eq_true, if_true, if_false, true_and, and_true, and_self, reduceCtorEq, Bool.and_true, Bool.true_and, Bool.and_self, upd_upd, d46_0]; rfl
  rintro N ⟨k, v1⟩ h1 ⟨hk, hall, ow1⟩ hN
  dsimp only at hk hall ow1 hN
  simp only [go_sem, Nat.reduceAdd, Nat.reduceSub, Nat.reduceMul, Nat.reduceLeDiff, decide_true, decide_false, Bool.not_true, Bool.not_false, Bool.false_eq_true, if_true, if_false, true_and, and_true, and_self, reduceCtorEq, Bool.and_true, Bool.true_and, Bool.and_self, upd_upd, d46_0]
  by_cases hlt : k < l.length
  · have h1' : (k : Int) < (l.length : Int) := by omega
    have h2 : (0 : Int) ≤ k := by omega
    have hadd : IntKind.i64.wrap ((k : Int) + 1) = ((k + 1 : Nat) : Int) := by rw [w64 (by omega)]; rfl
    have hld := (hv.sub ow1.sub).loads (i := k) (by simpa using hlt)
    rw [List.getElem_map] at hld
    have hxk := hx _ (List.getElem_mem hlt)
    have hsc := Sx.scalar _ hxk
    have hat := takeS_all (p := Sx.fits) hlt hall
    have hav : l[k].av.length = 6 := rfl
    simp only [go_sem, Nat.reduceAdd, Nat.reduceSub, Nat.reduceMul, Nat.reduceLeDiff, decide_true, decide_false, Bool.not_true, Bool.not_false, Bool.false_eq_true, if_true, if_false, true_and, and_true, and_self, reduceCtorEq, Bool.and_true, Bool.true_and, Bool.and_self, upd_upd, h1', h2, (hv.sub ow1.sub).idx, hld, Int.toNat_natCast, List.length_map, hsc, hav]
    intro id hid
    have s1 : Sub h1 (upd h1 id (.cells l[k].av 6)) := Sub.fresh (Sub.refl _) hid
    have tk : List.take 6 l[k].av = l[k].av := rfl
    have hx1 := hxk.sub (ow1.sub.trans s1)
    rw [tk]
    refine (sfits_spec l[k].s l[k].vb l[k].xs _ hx1).use ?_
    cases g : fitsSt l[k].s l[k].xs.length
    · simp only [go_sem, Nat.reduceAdd, Nat.reduceSub, Nat.reduceMul, Nat.reduceLeDiff, decide_true, decide_false, Bool.not_true, Bool.not_false, Bool.false_eq_true, if_true, if_false, true_and, and_true, and_self, reduceCtorEq, Bool.and_true, Bool.true_and, Bool.and_self, upd_upd]
      refine hQ _ _ _ _ h (.inr rfl) rfl (ow1.sub.trans s1) ?_
      have : l.all Sx.fits = false := by
        rw [List.all_eq_false]; exact ⟨l[k], List.getElem_mem _, by simp [Sx.fits, g]⟩
      rw [this]
      exact ⟨rfl, rfl⟩
    · simp only [go_sem, Nat.reduceAdd, Nat.reduceSub, Nat.reduceMul, Nat.reduceLeDiff, decide_true, decide_false, Bool.not_true, Bool.not_false, Bool.false_eq_true, if_true, if_false, true_and, and_true, and_self, reduceCtorEq, Bool.and_true, Bool.true_and, Bool.and_self, upd_upd, tk, hav]
      refine (entry_spec l[k].s l[k].vb l[k].xs _ hx1 g).mono ?_
      intro r h2 ow2
      simp only [go_sem, Nat.reduceAdd, Nat.reduceSub, Nat.reduceMul, Nat.reduceLeDiff, decide_true, decide_false, Bool.not_true, Bool.not_false, Bool.false_eq_true, if_true, if_false, true_and, and_true, and_self, reduceCtorEq, Bool.and_true, Bool.true_and, Bool.and_self, upd_upd]
      have ow3 : Own h h2 1 v1 (((l.take k).flatMap Sx.line).map b1) := (ow1.more s1).more ow2.sub
      have b1' := lines_len (l.take k) hall
      have b2' := line_len l[k] g
      have b3' : (l.take k).length = k := by simp; omega
      refine ow3.append ow2.sl (scB _) (by simp only [List.length_map]; unfold Sx.line at b2'; omega) fun v' h' ow' _ => ?_
      simp only [go_sem, Nat.reduceAdd, Nat.reduceSub, Nat.reduceMul, Nat.reduceLeDiff, decide_true, decide_false, Bool.not_true, Bool.not_false, Bool.false_eq_true, if_true, if_false, true_and, and_true, and_self, reduceCtorEq, Bool.and_true, Bool.true_and, Bool.and_self, upd_upd, hadd]
      refine hN (k + 1, v') _ _ (by dsimp only; omega) ?_ ⟨by dsimp only; omega, by rw [hat]; exact g, ?_⟩
      · simp only [go_sem, Nat.reduceAdd, Nat.reduceSub, Nat.reduceMul, Nat.reduceLeDiff, decide_true, decide_false, Bool.not_true, Bool.not_false, Bool.false_eq_true, if_true, if_false, true_and, and_true, and_self, reduceCtorEq, Bool.and_true, Bool.true_and, Bool.and_self, upd_upd, d46_0]
      · have e : (l.take (k + 1)).flatMap Sx.line = (l.take k).flatMap Sx.line ++ entryL l[k].s l[k].xs := by
          rw [List.take_succ_eq_append_getElem hlt, List.flatMap_append]; simp [Sx.line]
        dsimp only
        rw [e, List.map_append]; exact ow'
  · have h1' : ¬ (k : Int) < (l.length : Int) := by omega
    have hk2 : k = l.length := by omega
    simp only [go_sem, Nat.reduceAdd, Nat.reduceSub, Nat.reduceMul, Nat.reduceLeDiff, decide_true, decide_false, Bool.not_true, Bool.not_false, Bool.false_eq_true, if_true, if_false, true_and, and_true, and_self, reduceCtorEq, Bool.and_true, Bool.true_and, Bool.and_self, upd_upd, h1']
    refine hQ _ _ _ _ _ (.inr rfl) rfl (Sub.refl _) ?_
    rw [hk2, List.take_length] at hall ow1
    rw [if_pos hall]
    exact ⟨v1, rfl, ow1⟩

theorem of28_spec (s : St) (vb : AV) (h : AHeap) (hs : cellsOf vb = some [vb]) (hc : scalar vb = true) : PureA Try.prog 27 [.agg (s.av vb)] h (.agg (s.av vb)) := by
  obtain ⟨k, a, b, c, d⟩ := s
  (refine PureA.enter (ac := c27) (rs := r27) Try.func27 rfl (by decide) c27_ok r27_ok ?_; intro Q hQ; simp only [go_sem, Nat.reduceAdd, Nat.reduceSub, Nat.reduceMul, Nat.reduceLeDiff, decide_true, decide_false, Bool.not_true, Bool.not_false, Bool.false_eq_true, if_true, if_false, true_and, and_true, and_self, reduceCtorEq, Bool.and_true, Bool.true_and, Bool.and_self, upd_upd, c27, Try.ntmps27, St.av])
  repeat' (first | (intro _ hf_; (try simp only [upd_none] at hf_); (try simp only [go_sem, Nat.reduceAdd, Nat.reduceSub, Nat.reduceMul, Nat.reduceLeDiff, decide_true, decide_false, Bool.not_true, Bool.not_false, Bool.false_eq_true, if_true, if_false, true_and, and_true, and_self, reduceCtorEq, Bool.and_true, Bool.true_and, Bool.and_self, upd_upd, upd_ne, ne_eq, not_false_eq_true, *])) | (refine guard_split (fun hb_ => ?_) (fun hb_ => ?_) <;> (try simp only [decide_eq_true_eq, decide_eq_false_iff_not] at hb_) <;> (try simp only [go_sem, Nat.reduceAdd, Nat.reduceSub, Nat.reduceMul, Nat.reduceLeDiff, decide_true, decide_false, Bool.not_true, Bool.not_false, Bool.false_eq_true, if_true, if_false, true_and, and_true, and_self, reduceCtorEq, Bool.and_true, Bool.true_and, Bool.and_self, upd_upd, upd_ne, ne_eq, not_false_eq_true, *])) | (refine cond_split (fun hb_ => ?_) (fun hb_ => ?_) <;> (try simp only [decide_eq_true_eq, decide_eq_false_iff_not] at hb_) <;> (try simp only [go_sem, Nat.reduceAdd, Nat.reduceSub, Nat.reduceMul, Nat.reduceLeDiff, decide_true, decide_false, Bool.not_true, Bool.not_false, Bool.false_eq_true, if_true, if_false, true_and, and_true, and_self, reduceCtorEq, Bool.and_true, Bool.true_and, Bool.and_self, upd_upd, upd_ne, ne_eq, not_false_eq_true, *])) | (refine readG_split (fun hb_ => ?_) (fun hb_ => ?_) <;> (try simp only [decide_eq_true_eq, decide_eq_false_iff_not] at hb_) <;> (try simp only [go_sem, Nat.reduceAdd, Nat.reduceSub, Nat.reduceMul, Nat.reduceLeDiff, decide_true, decide_false, Bool.not_true, Bool.not_false, Bool.false_eq_true, if_true, if_false, true_and, and_true, and_self, reduceCtorEq, Bool.and_true, Bool.true_and, Bool.and_self, upd_upd, upd_ne, ne_eq, not_false_eq_true, *])))
  all_goals (refine hQ _ _ _ [.agg (St.av ⟨k, a, b, c, d⟩ vb)] (.inr rfl) ?_ rfl (by (repeat' (first | exact Sub.refl _ | assumption | (refine Sub.upd ?_ (by first | assumption | (simp only [*]; done) | exact Sub.isNone (by assumption) (by assumption) | exact Sub.isNone (by assumption) (by simp only [*])))))); simp only [go_sem, Nat.reduceAdd, Nat.reduceSub, Nat.reduceMul, Nat.reduceLeDiff, decide_true, decide_false, Bool.not_true, Bool.not_false, Bool.false_eq_true, if_true, if_false, true_and, and_true, and_self, reduceCtorEq, Bool.and_true, Bool.true_and, Bool.and_self, upd_upd, upd_ne, ne_eq, not_false_eq_true, *, r27, St.av])

theorem same28_spec (s t : St) (va vb : AV) (xs ys : List Int) (h : AHeap) (hv : Sl h 1 va (xs.map b1)) (hw : Sl h 1 vb (ys.map b1)) (hn : xs.length ≤ 1000000) : PureA Try.prog 26 [.agg (s.av va), .agg (t.av vb)] h (.bool (decide (s = t ∧ xs = ys))) := by
  obtain ⟨k, a, b, c, d⟩ := s
  obtain ⟨k2, a2, b2, c2, d2⟩ := t
  (refine PureA.enter (ac := c26) (rs := r26) Try.func26 rfl (by decide) c26_ok r26_ok ?_; intro Q hQ; simp only [go_sem, Nat.reduceAdd, Nat.reduceSub, Nat.reduceMul, Nat.reduceLeDiff, decide_true, decide_false, Bool.not_true, Bool.not_false, Bool.false_eq_true, if_true, if_false, true_and, and_true, and_self, reduceCtorEq, Bool.and_true, Bool.true_and, Bool.and_self, upd_upd, c26, Try.ntmps26, St.av])
  repeat' (first | (intro _ hf_; (try simp only [upd_none] at hf_); (try simp only [go_sem, Nat.reduceAdd, Nat.reduceSub, Nat.reduceMul, Nat.reduceLeDiff, decide_true, decide_false, Bool.not_true, Bool.not_false, Bool.false_eq_true, if_true, if_false, true_and, and_true, and_self, reduceCtorEq, Bool.and_true, Bool.true_and, Bool.and_self, upd_upd, upd_ne, ne_eq, not_false_eq_true, *])) | (refine (same2_spec _ _ xs ys _ (hv.sub (by (repeat' (first | exact Sub.refl _ | assumption | (refine Sub.upd ?_ (by first | assumption | (simp only [*]; done) | exact Sub.isNone (by assumption) (by assumption) | exact Sub.isNone (by assumption) (by simp only [*]))))))) (hw.sub (by (repeat' (first | exact Sub.refl _ | assumption | (refine Sub.upd ?_ (by first | assumption | (simp only [*]; done) | exact Sub.isNone (by assumption) (by assumption) | exact Sub.isNone (by assumption) (by simp only [*]))))))) hn).use ?_ <;> (try simp only [go_sem, Nat.reduceAdd, Nat.reduceSub, Nat.reduceMul, Nat.reduceLeDiff, decide_true, decide_false, Bool.not_true, Bool.not_false, Bool.false_eq_true, if_true, if_false, true_and, and_true, and_self, reduceCtorEq, Bool.and_true, Bool.true_and, Bool.and_self, upd_upd, upd_ne, ne_eq, not_false_eq_true, *])) | (refine guard_split (fun hb_ => ?_) (fun hb_ => ?_) <;> (try simp only [decide_eq_true_eq, decide_eq_false_iff_not] at hb_) <;> (try simp only [go_sem, Nat.reduceAdd, Nat.reduceSub, Nat.reduceMul, Nat.reduceLeDiff, decide_true, decide_false, Bool.not_true, Bool.not_false, Bool.false_eq_true, if_true, if_false, true_and, and_true, and_self, reduceCtorEq, Bool.and_true, Bool.true_and, Bool.and_self, upd_upd, upd_ne, ne_eq, not_false_eq_true, *])) | (refine cond_split (fun hb_ => ?_) (fun hb_ => ?_) <;> (try simp only [decide_eq_true_eq, decide_eq_false_iff_not] at hb_) <;> (try simp only [go_sem, Nat.reduceAdd, Nat.reduceSub, Nat.reduceMul, Nat.reduceLeDiff, decide_true, decide_false, Bool.not_true, Bool.not_false, Bool.false_eq_true, if_true, if_false, true_and, and_true, and_self, reduceCtorEq, Bool.and_true, Bool.true_and, Bool.and_self, upd_upd, upd_ne, ne_eq, not_false_eq_true, *])) | (refine readG_split (fun hb_ => ?_) (fun hb_ => ?_) <;> (try simp only [decide_eq_true_eq, decide_eq_false_iff_not] at hb_) <;> (try simp only [go_sem, Nat.reduceAdd, Nat.reduceSub, Nat.reduceMul, Nat.reduceLeDiff, decide_true, decide_false, Bool.not_true, Bool.not_false, Bool.false_eq_true, if_true, if_false, true_and, and_true, and_self, reduceCtorEq, Bool.and_true, Bool.true_and, Bool.and_self, upd_upd, upd_ne, ne_eq, not_false_eq_true, *])))
  all_goals (refine hQ _ _ _ _ (.inr rfl) rfl ?_ (by (repeat' (first | exact Sub.refl _ | assumption | (refine Sub.upd ?_ (by first | assumption | (simp only [*]; done) | exact Sub.isNone (by assumption) (by assumption) | exact Sub.isNone (by assumption) (by simp only [*])))))); simp [tupA_one, *])

def tickA (d : Int) : List AV := (St.mk 0 d 0 0 0).av .nils
def settleA : List AV := (St.mk 12 1000 0 0 0).av .nils
def ticksL (d : Int) : Nat → List (List AV)
  | 0 => []
  | m + 1 => ticksL d m ++ [tickA d, settleA]

theorem ticksL_len (d : Int) : ∀ m, (ticksL d m).length = 2 * m
  | 0 => rfl
  | m + 1 => by simp [ticksL, ticksL_len d m]; omega

theorem ticksL_at (d : Int) : ∀ (m i : Nat) (hi : i < (ticksL d m).length), (ticksL d m)[i] = if i % 2 = 1 then settleA else tickA d
  | 0, i, hi => by simp [ticksL] at hi
  | m + 1, i, hi => by
    have hl := ticksL_len d m
    simp only [ticksL]
    by_cases h : i < (ticksL d m).length
    · rw [List.getElem_append_left h]; exact ticksL_at d m i h
    · rw [List.getElem_append_right (by omega)]
      have h2 : i < 2 * (m + 1) := by rw [ticksL_len] at hi; exact hi
      by_cases h3 : i = 2 * m
      · have e : i - (ticksL d m).length = 0 := by omega
        simp only [e, List.getElem_cons_zero]
        rw [if_neg (by omega)]
      · have e : i - (ticksL d m).length = 1 := by omega
        simp only [e, List.getElem_cons_succ, List.getElem_cons_zero]
        rw [if_pos (by omega)]

def ticksM (n : Int) : Nat := (max (min n 1000) 0).toNat

theorem ticks_spec (n d : Int) (h : AHeap) : CallsA Try.prog 25 [.int .i64 n, .int .i64 d] h fun r h' => Own h h' 6 r (ticksL d (ticksM n)) := by
  have hm : max (min n 1000) 0 = (ticksM n : Int) := by unfold ticksM; omega
  have hm2 : ticksM n ≤ 1000 := by unfold ticksM; omega
  (refine CallsA.enterR (ac := c25) (rs := r25) Try.func25 rfl (by decide) c25_ok r25_ok ?_; intro Q hQ; simp only [go_sem, Nat.reduceAdd, Nat.reduceSub, Nat.reduceMul, Nat.reduceLeDiff, decide_true, decide_false, Bool.not_true, Bool.not_false, Bool.false_eq_true, if_true, if_false, true_and, and_true, and_self, reduceCtorEq, Bool.and_true, Bool.true_and, Bool.and_self, upd_upd, c25, Try.ntmps25, if_min, if_max, hm])
  refine loop_st d25_0 (fun x : Nat × AV => ticksM n - x.1) (fun x s => (s.set 5 x.2).set 9 (.int .i64 x.1)) (fun x h' => x.1 ≤ ticksM n ∧ Own h h' 6 x.2 (ticksL d x.1)) (0, .nils) ?_ ⟨by simp, Own.nil (Sub.refl _)⟩ ?_
  · simp only [go_sem, Nat.reduceAdd, Nat.reduceSub, Nat.reduceMul, Nat.reduceLeDiff, decide_true, decide_false, Bool.not_true, Bool.not_false, Bool.false_eq_true, if_true, if_false, true_and, and_true, and_self, reduceCtorEq, Bool.and_true, Bool.true_and, Bool.and_self, upd_upd, d25_0]; rfl
  rintro N ⟨k, v1⟩ h1 ⟨hk, ow1⟩ hN
  dsimp only at hk ow1 hN
  simp only [go_sem, Nat.reduceAdd, Nat.reduceSub, Nat.reduceMul, Nat.reduceLeDiff, decide_true, decide_false, Bool.not_true, Bool.not_false, Bool.false_eq_true, if_true, if_false, true_and, and_true, and_self, reduceCtorEq, Bool.and_true, Bool.true_and, Bool.and_self, upd_upd, d25_0]
  by_cases hlt : k < ticksM n
  · have h1' : (k : Int) < (ticksM n : Int) := by omega
    have hadd : IntKind.i64.wrap ((k : Int) + 1) = ((k + 1 : Nat) : Int) := by rw [w64 (by omega)]; rfl
    simp only [go_sem, Nat.reduceAdd, Nat.reduceSub, Nat.reduceMul, Nat.reduceLeDiff, decide_true, decide_false, Bool.not_true, Bool.not_false, Bool.false_eq_true, if_true, if_false, true_and, and_true, and_self, reduceCtorEq, Bool.and_true, Bool.true_and, Bool.and_self, upd_upd, h1']
    intro id hid
    have s1 : Sub h1 (upd h1 id (.cells (tickA d ++ settleA) 12)) := Sub.fresh (Sub.refl _) hid
    have sl : Sl (upd h1 id (.cells (tickA d ++ settleA) 12)) 6 (.sl id 0 2 2) [tickA d, settleA] :=
      ⟨by simp [tickA, settleA, St.av], .inr (.inl ⟨id, 0, 2, rfl, Nat.le_refl _, _, _, upd_same, by simp [tickA, settleA, St.av], by simp [tickA, settleA, St.av]⟩)⟩
    refine (ow1.more s1).append sl (by simp [tickA, settleA, St.av, E.scalar]) (by rw [ticksL_len]; simp; omega) fun v' h' ow' _ => ?_
    simp only [go_sem, Nat.reduceAdd, Nat.reduceSub, Nat.reduceMul, Nat.reduceLeDiff, decide_true, decide_false, Bool.not_true, Bool.not_false, Bool.false_eq_true, if_true, if_false, true_and, and_true, and_self, reduceCtorEq, Bool.and_true, Bool.true_and, Bool.and_self, upd_upd, hadd]
    refine hN (k + 1, v') _ _ (by dsimp only; omega) ?_ ⟨by dsimp only; omega, ow'⟩
    simp only [go_sem, Nat.reduceAdd, Nat.reduceSub, Nat.reduceMul, Nat.reduceLeDiff, decide_true, decide_false, Bool.not_true, Bool.not_false, Bool.false_eq_true, if_true, if_false, true_and, and_true, and_self, reduceCtorEq, Bool.and_true, Bool.true_and, Bool.and_self, upd_upd, d25_0]
  · have h1' : ¬ (k : Int) < (ticksM n : Int) := by omega
    obtain rfl : k = ticksM n := by omega
    simp only [go_sem, Nat.reduceAdd, Nat.reduceSub, Nat.reduceMul, Nat.reduceLeDiff, decide_true, decide_false, Bool.not_true, Bool.not_false, Bool.false_eq_true, if_true, if_false, true_and, and_true, and_self, reduceCtorEq, Bool.and_true, Bool.true_and, Bool.and_self, upd_upd, h1']
    exact hQ _ _ _ _ _ (.inr rfl) rfl (Sub.refl _) ow1

end Go.Proofs.Ytlbpmgkfekeaeaa
