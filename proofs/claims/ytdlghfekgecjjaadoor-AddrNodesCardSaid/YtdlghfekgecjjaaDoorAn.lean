/-
  addr.Link, Global, Multicast; rivuletref03.Link, Node.
-/
import Derived.Test.YtdlghfekgecjjaaDoorAl
namespace Go.Proofs.YtdlghfekgecjjaaDoor
open Go E
set_option linter.unusedVariables false
set_option linter.unusedSimpArgs false
set_option maxRecDepth 100000

def linkL (n : Int) : List Int := [254, 128, 0, 0, 0, 0, 0, 0, 0, 0, 0, 0, 0, 1, 0, n + 1]
theorem linkL_cells (n : Int) : cat b1 (linkL n) = [.int .u8 254, .int .u8 128, .int .u8 0, .int .u8 0, .int .u8 0, .int .u8 0, .int .u8 0, .int .u8 0, .int .u8 0, .int .u8 0, .int .u8 0, .int .u8 0, .int .u8 0, .int .u8 1, .int .u8 0, .int .u8 (n + 1)] := rfl
theorem linkL_is {n : Int} (h : isNode n = true) : isA (linkL n) := by
  simp only [isNode, Bool.and_eq_true, decide_eq_true_eq] at h
  refine ⟨rfl, fun x hx => ?_⟩
  simp only [linkL, List.mem_cons, List.mem_nil_iff, or_false] at hx
  omega

def linkV (n : Int) : AV := if isNode n then .tup [.agg (cat b1 (linkL n)), .int .i64 0] else .tup [.agg (cat b1 zeroA), .int .i64 1]

theorem link_spec (n : Int) (h : AHeap) : PureA Tryd.prog 19 [.int .i64 n] h (linkV n) := by
  (refine PureA.enter (ac := c19) (rs := r19) Tryd.func19 rfl (by decide) c19_ok r19_ok ?_; intro Q hQ; simp only [go_sem, Int.reduceEq, Int.reduceAdd, Int.reduceSub, Int.reduceMul, Nat.reduceLT, Int.reduceLT, Int.reduceLE, Int.reduceToNat, Nat.reduceAdd, Nat.reduceSub, Nat.reduceMul, Nat.reduceLeDiff, reduceCtorEq, c19, Tryd.ntmps19])
  intro p hp
  refine (node_spec _ _).use ?_
  cases e : isNode n
  · simp only [go_sem, Int.reduceEq, Int.reduceAdd, Int.reduceSub, Int.reduceMul, Nat.reduceLT, Int.reduceLT, Int.reduceLE, Int.reduceToNat, Nat.reduceAdd, Nat.reduceSub, Nat.reduceMul, Nat.reduceLeDiff, reduceCtorEq]
    refine hQ _ _ _ _ _ (by first | exact .inr rfl | exact .inl rfl) (by first | rfl | (simp only [go_sem, Int.reduceEq, Int.reduceAdd, Int.reduceSub, Int.reduceMul, Nat.reduceLT, Int.reduceLT, Int.reduceLE, Int.reduceToNat, Nat.reduceAdd, Nat.reduceSub, Nat.reduceMul, Nat.reduceLeDiff, reduceCtorEq, r19]; rfl) | simp only [go_sem, Int.reduceEq, Int.reduceAdd, Int.reduceSub, Int.reduceMul, Nat.reduceLT, Int.reduceLT, Int.reduceLE, Int.reduceToNat, Nat.reduceAdd, Nat.reduceSub, Nat.reduceMul, Nat.reduceLeDiff, reduceCtorEq, r19]) (FzH.sub (by (repeat' (first | exact Sub.refl _ | assumption | (refine Sub.upd ?_ (by first | assumption | (simp only [*]; done) | exact Sub.isNone (by assumption) (by assumption) | exact Sub.isNone (by assumption) (by simp only [*]))))))) (FzL.refl _ _ _) ?_
    simp only [go_sem, Int.reduceEq, Int.reduceAdd, Int.reduceSub, Int.reduceMul, Nat.reduceLT, Int.reduceLT, Int.reduceLE, Int.reduceToNat, Nat.reduceAdd, Nat.reduceSub, Nat.reduceMul, Nat.reduceLeDiff, reduceCtorEq, linkV, e, Bool.false_eq_true, if_false]
    rfl
  · have e2 := e
    simp only [isNode, Bool.and_eq_true, decide_eq_true_eq] at e2
    have w : IntKind.i64.wrap (n + 1) = n + 1 := w64 (by omega) (by omega)
    have o : ∀ h, PureA Tryd.prog 9 [.ro [.int .i64 65152, .int .i64 0, .int .i64 0, .int .i64 0, .int .i64 0, .int .i64 0, .int .i64 1, .int .i64 (n + 1)] 8 true] h (.tup [.agg (cat b1 (linkL n)), .int .i64 0]) := fun h => by
      have := of8 [65152, 0, 0, 0, 0, 0, 1, n + 1] (by simp [ofOk, inG]; omega) true h (by simp)
      have eg : ofG [65152, 0, 0, 0, 0, 0, 1, n + 1] = linkL n := by
        show [254, 128, 0, 0, 0, 0, 0, 0, 0, 0, 0, 0, 0, 1, (n + 1) / 256, (n + 1) % 256] = linkL n
        rw [show (n + 1) / 256 = 0 by omega, show (n + 1) % 256 = n + 1 by omega]
        rfl
      rw [eg] at this
      exact this
    simp only [go_sem, Int.reduceEq, Int.reduceAdd, Int.reduceSub, Int.reduceMul, Nat.reduceLT, Int.reduceLT, Int.reduceLE, Int.reduceToNat, Nat.reduceAdd, Nat.reduceSub, Nat.reduceMul, Nat.reduceLeDiff, reduceCtorEq, w]
    refine (o _).use ?_
    simp only [go_sem, Int.reduceEq, Int.reduceAdd, Int.reduceSub, Int.reduceMul, Nat.reduceLT, Int.reduceLT, Int.reduceLE, Int.reduceToNat, Nat.reduceAdd, Nat.reduceSub, Nat.reduceMul, Nat.reduceLeDiff, reduceCtorEq, linkL_cells]
    refine hQ _ _ _ _ _ (by first | exact .inr rfl | exact .inl rfl) (by first | rfl | (simp only [go_sem, Int.reduceEq, Int.reduceAdd, Int.reduceSub, Int.reduceMul, Nat.reduceLT, Int.reduceLT, Int.reduceLE, Int.reduceToNat, Nat.reduceAdd, Nat.reduceSub, Nat.reduceMul, Nat.reduceLeDiff, reduceCtorEq, r19]; rfl) | simp only [go_sem, Int.reduceEq, Int.reduceAdd, Int.reduceSub, Int.reduceMul, Nat.reduceLT, Int.reduceLT, Int.reduceLE, Int.reduceToNat, Nat.reduceAdd, Nat.reduceSub, Nat.reduceMul, Nat.reduceLeDiff, reduceCtorEq, r19]) (FzH.sub (by (repeat' (first | exact Sub.refl _ | assumption | (refine Sub.upd ?_ (by first | assumption | (simp only [*]; done) | exact Sub.isNone (by assumption) (by assumption) | exact Sub.isNone (by assumption) (by simp only [*]))))))) (FzL.refl _ _ _) ?_
    simp only [go_sem, Int.reduceEq, Int.reduceAdd, Int.reduceSub, Int.reduceMul, Nat.reduceLT, Int.reduceLT, Int.reduceLE, Int.reduceToNat, Nat.reduceAdd, Nat.reduceSub, Nat.reduceMul, Nat.reduceLeDiff, reduceCtorEq, linkV, e, if_true]
    rfl

theorem rlink_spec (n : Int) (hn : isNode n = true) (h : AHeap) : PureA Tryd.prog 24 [.int .i64 n] h (.agg (cat b1 (linkL n))) := by
  simp only [isNode, Bool.and_eq_true, decide_eq_true_eq] at hn
  have w : IntKind.i64.wrap (n + 1) = n + 1 := w64 (by omega) (by omega)
  have w2 : IntKind.u8.wrap (n + 1) = n + 1 := by rw [w8]; omega
  (refine PureA.enter (ac := c24) (rs := r24) Tryd.func24 rfl (by decide) c24_ok r24_ok ?_; intro Q hQ; simp only [go_sem, Int.reduceEq, Int.reduceAdd, Int.reduceSub, Int.reduceMul, Nat.reduceLT, Int.reduceLT, Int.reduceLE, Int.reduceToNat, Nat.reduceAdd, Nat.reduceSub, Nat.reduceMul, Nat.reduceLeDiff, reduceCtorEq, c24, Tryd.ntmps24])
  intro p hp q hq
  obtain ⟨hpq, hq2⟩ := two_ne hq
  simp only [go_sem, Int.reduceEq, Int.reduceAdd, Int.reduceSub, Int.reduceMul, Nat.reduceLT, Int.reduceLT, Int.reduceLE, Int.reduceToNat, Nat.reduceAdd, Nat.reduceSub, Nat.reduceMul, Nat.reduceLeDiff, reduceCtorEq, w, w2, upd_ne hpq]
  refine hQ _ _ _ _ _ (by first | exact .inr rfl | exact .inl rfl) rfl (FzH.sub (Sub.del0 hp (by (repeat' (first | exact Sub.refl _ | assumption | (refine Sub.upd ?_ (by first | assumption | (simp only [*]; done) | exact Sub.isNone (by assumption) (by assumption) | exact Sub.isNone (by assumption) (by simp only [*])))))))) (FzL.refl _ _ _) ?_
  simp only [go_sem, Int.reduceEq, Int.reduceAdd, Int.reduceSub, Int.reduceMul, Nat.reduceLT, Int.reduceLT, Int.reduceLE, Int.reduceToNat, Nat.reduceAdd, Nat.reduceSub, Nat.reduceMul, Nat.reduceLeDiff, reduceCtorEq]
  rfl

theorem mcast_spec (a : List Int) (ha : isA a) (h : AHeap) : PureA Tryd.prog 23 [.agg (cat b1 a)] h (.bool (decide (a.getD 0 0 = 255))) := by
  obtain ⟨x0, x1, x2, x3, x4, x5, x6, x7, x8, x9, x10, x11, x12, x13, x14, x15, rfl⟩ := len16 ha.1
  (refine PureA.enter (ac := c23) (rs := r23) Tryd.func23 rfl (by decide) c23_ok r23_ok ?_; intro Q hQ; simp only [go_sem, Int.reduceEq, Int.reduceAdd, Int.reduceSub, Int.reduceMul, Nat.reduceLT, Int.reduceLT, Int.reduceLE, Int.reduceToNat, Nat.reduceAdd, Nat.reduceSub, Nat.reduceMul, Nat.reduceLeDiff, reduceCtorEq, c23, Tryd.ntmps23, catb16])
  (refine hQ _ _ _ _ _ (by first | exact .inr rfl | exact .inl rfl) rfl (by first | exact FzH.refl _ | exact FzH.sub (by (repeat' (first | exact Sub.refl _ | assumption | (refine Sub.upd ?_ (by first | assumption | (simp only [*]; done) | exact Sub.isNone (by assumption) (by assumption) | exact Sub.isNone (by assumption) (by simp only [*]))))))) (FzL.refl _ _ _) ?_; try (simp only [go_sem, Int.reduceEq, Int.reduceAdd, Int.reduceSub, Int.reduceMul, Nat.reduceLT, Int.reduceLT, Int.reduceLE, Int.reduceToNat, Nat.reduceAdd, Nat.reduceSub, Nat.reduceMul, Nat.reduceLeDiff, reduceCtorEq]))

/-! ### The document's search -/

def sameTo (a : List Int) (n : Int) (i : Nat) : Bool := (List.range i).all fun j => decide (j < 8) || decide (a.getD j 0 = (linkL n).getD j 0)
def frontTo (a : List Int) (i : Nat) : Bool := (List.range i).any fun j => decide (j < 8) && !decide (a.getD j 0 = 0)
theorem sameTo_next (a : List Int) (n : Int) (i : Nat) : sameTo a n (i + 1) = (sameTo a n i && (decide (i < 8) || decide (a.getD i 0 = (linkL n).getD i 0))) := by
  unfold sameTo; rw [List.range_succ, List.all_append]; simp
theorem frontTo_next (a : List Int) (i : Nat) : frontTo a (i + 1) = (frontTo a i || (decide (i < 8) && !decide (a.getD i 0 = 0))) := by
  unfold frontTo; rw [List.range_succ, List.any_append]; simp
def matchN (a : List Int) (n : Int) : Bool := sameTo a n 16 && frontTo a 16

/-- Whose the address is; -1: nobody's. -/
def rnodeI (a : List Int) : Int := if nodeOk (grps a) then (grps a).getD 7 0 - 1 else -1

theorem match_eq (a : List Int) (ha : isA a) (n : Int) (h0 : 0 ≤ n) (h1 : n < 64) : matchN a n = (nodeOk (grps a) && decide ((grps a).getD 7 0 - 1 = n)) := by
  obtain ⟨x0, x1, x2, x3, x4, x5, x6, x7, x8, x9, x10, x11, x12, x13, x14, x15, rfl⟩ := len16 ha.1
  have hb := ha.2
  simp only [List.mem_cons, List.mem_nil_iff, or_false, forall_eq_or_imp, forall_eq] at hb
  have e1 : matchN [x0, x1, x2, x3, x4, x5, x6, x7, x8, x9, x10, x11, x12, x13, x14, x15] n = decide ((x8 = 0 ∧ x9 = 0 ∧ x10 = 0 ∧ x11 = 0 ∧ x12 = 0 ∧ x13 = 1 ∧ x14 = 0 ∧ x15 = n + 1) ∧ (x0 ≠ 0 ∨ x1 ≠ 0 ∨ x2 ≠ 0 ∨ x3 ≠ 0 ∨ x4 ≠ 0 ∨ x5 ≠ 0 ∨ x6 ≠ 0 ∨ x7 ≠ 0)) := by
    rw [Bool.eq_iff_iff]
    simp [matchN, sameTo, frontTo, linkL, List.range, List.range.loop]
  have e2 : nodeOk (grps [x0, x1, x2, x3, x4, x5, x6, x7, x8, x9, x10, x11, x12, x13, x14, x15]) = decide ((x0 * 256 + x1 ≠ 0 ∨ x2 * 256 + x3 ≠ 0 ∨ x4 * 256 + x5 ≠ 0 ∨ x6 * 256 + x7 ≠ 0) ∧ (x8 * 256 + x9 = 0 ∧ x10 * 256 + x11 = 0 ∧ x12 * 256 + x13 = 1) ∧ 0 ≤ x14 * 256 + x15 - 1 ∧ x14 * 256 + x15 - 1 < 64) := by
    rw [Bool.eq_iff_iff]
    simp [nodeOk, isNode, grps, List.range, List.range.loop]
    omega
  have e3 : (grps [x0, x1, x2, x3, x4, x5, x6, x7, x8, x9, x10, x11, x12, x13, x14, x15]).getD 7 0 = x14 * 256 + x15 := rfl
  rw [e1, e2, e3, Bool.eq_iff_iff]
  simp only [Bool.and_eq_true, decide_eq_true_eq]
  omega

set_option maxHeartbeats 4000000 in
theorem rnode_spec (a : List Int) (ha : isA a) (h : AHeap) : PureA Tryd.prog 22 [.agg (cat b1 a)] h (.int .i64 (rnodeI a)) := by
  have hm : ∀ n : Nat, n < 64 → matchN a (n : Int) = (nodeOk (grps a) && decide ((grps a).getD 7 0 - 1 = (n : Int))) := fun n hn => match_eq a ha n (by omega) (by omega)
  (refine PureA.enter (ac := c22) (rs := r22) Tryd.func22 rfl (by decide) c22_ok r22_ok ?_; intro Q hQ; simp only [go_sem, Int.reduceEq, Int.reduceAdd, Int.reduceSub, Int.reduceMul, Nat.reduceLT, Int.reduceLT, Int.reduceLE, Int.reduceToNat, Nat.reduceAdd, Nat.reduceSub, Nat.reduceMul, Nat.reduceLeDiff, reduceCtorEq, c22, Tryd.ntmps22])
  refine loop_range d22_0 64 (fun n s => s.set 3 (.int .i64 (n : Int))) (fun n H => H = h ∧ ∀ m : Nat, m < n → matchN a (m : Int) = false) ?_ ⟨rfl, fun m hm => by omega⟩ ?_
  · (simp only [go_sem, Int.reduceEq, Int.reduceAdd, Int.reduceSub, Int.reduceMul, Nat.reduceLT, Int.reduceLT, Int.reduceLE, Int.reduceToNat, Nat.reduceAdd, Nat.reduceSub, Nat.reduceMul, Nat.reduceLeDiff, reduceCtorEq, d22_0] <;> rfl)
  rintro N n H hn ⟨rfl, hno⟩ hN
  have hadd := wadd1 (k := n) (by omega)
  by_cases hlt : n < 64
  · have c1 : decide ((n : Int) < 64) = true := decide_eq_true (by omega)
    have hnode : isNode (n : Int) = true := by simp [isNode]; omega
    have hL := linkL_is hnode
    have ll : (cat b1 (linkL (n : Int))).length = 16 := rfl
    have ls := cat_sca b1_sca (linkL (n : Int))
    have lt : (cat b1 (linkL (n : Int))).take 16 = cat b1 (linkL (n : Int)) := rfl
    simp only [go_sem, Int.reduceEq, Int.reduceAdd, Int.reduceSub, Int.reduceMul, Nat.reduceLT, Int.reduceLT, Int.reduceLE, Int.reduceToNat, Nat.reduceAdd, Nat.reduceSub, Nat.reduceMul, Nat.reduceLeDiff, reduceCtorEq, d22_0, c1]
    refine (rlink_spec (n : Int) hnode _).use ?_
    simp only [go_sem, Int.reduceEq, Int.reduceAdd, Int.reduceSub, Int.reduceMul, Nat.reduceLT, Int.reduceLT, Int.reduceLE, Int.reduceToNat, Nat.reduceAdd, Nat.reduceSub, Nat.reduceMul, Nat.reduceLeDiff, reduceCtorEq]
    intro p hp
    simp only [go_sem, Int.reduceEq, Int.reduceAdd, Int.reduceSub, Int.reduceMul, Nat.reduceLT, Int.reduceLT, Int.reduceLE, Int.reduceToNat, Nat.reduceAdd, Nat.reduceSub, Nat.reduceMul, Nat.reduceLeDiff, reduceCtorEq, del_same, del_none hp, ll, ls, lt]
    refine loop_range d22_1 16 (fun i s => ((s.set 5 (.bool (sameTo a (n : Int) i))).set 6 (.bool (frontTo a i))).set 7 (.int .i64 (i : Int))) (fun i H' => H' = H) ?_ rfl ?_
    · (simp only [go_sem, Int.reduceEq, Int.reduceAdd, Int.reduceSub, Int.reduceMul, Nat.reduceLT, Int.reduceLT, Int.reduceLE, Int.reduceToNat, Nat.reduceAdd, Nat.reduceSub, Nat.reduceMul, Nat.reduceLeDiff, reduceCtorEq, d22_1] <;> rfl)
    rintro N2 i H2 hi rfl hN2
    have hadd2 := wadd1 (k := i) (by omega)
    by_cases hi16 : i < 16
    · have c2 : decide ((i : Int) < 16) = true := decide_eq_true (by omega)
      have b2 : (0 : Int) ≤ (i : Int) ∧ (i : Int) < 16 := by omega
      have hal : i < a.length := by rw [ha.1]; exact hi16
      have hll : i < (linkL (n : Int)).length := hi16
      have ga : a.getD i 0 = a[i] := by simp [hal]
      have gl : (linkL (n : Int)).getD i 0 = (linkL (n : Int))[i] := by simp [hll]
      have ns := sameTo_next a (n : Int) i
      have nf := frontTo_next a i
      rw [ga, gl] at ns
      rw [ga] at nf
      by_cases hi8 : i < 8
      · have c3 : decide ((i : Int) < 8) = true := decide_eq_true (by omega)
        rw [decide_eq_true hi8, Bool.true_or, Bool.and_true] at ns
        rw [decide_eq_true hi8, Bool.true_and] at nf
        have go : ∀ s', kill d22_1 s' = _ → N2 s' _ := fun s' e => hN2 s' _ hi16 e rfl
        rw [ns, nf] at go
        cases hf : frontTo a i
        · rw [hf] at go
          simp only [go_sem, Int.reduceEq, Int.reduceAdd, Int.reduceSub, Int.reduceMul, Nat.reduceLT, Int.reduceLT, Int.reduceLE, Int.reduceToNat, Nat.reduceAdd, Nat.reduceSub, Nat.reduceMul, Nat.reduceLeDiff, reduceCtorEq, d22_1, c2, c3, b2, hadd2, rdB hal, Int.toNat_natCast, Nat.mul_one, true_and]
          refine go _ ?_
          simp only [go_sem, Int.reduceEq, Int.reduceAdd, Int.reduceSub, Int.reduceMul, Nat.reduceLT, Int.reduceLT, Int.reduceLE, Int.reduceToNat, Nat.reduceAdd, Nat.reduceSub, Nat.reduceMul, Nat.reduceLeDiff, reduceCtorEq, d22_1]
        · rw [hf] at go
          simp only [go_sem, Int.reduceEq, Int.reduceAdd, Int.reduceSub, Int.reduceMul, Nat.reduceLT, Int.reduceLT, Int.reduceLE, Int.reduceToNat, Nat.reduceAdd, Nat.reduceSub, Nat.reduceMul, Nat.reduceLeDiff, reduceCtorEq, d22_1, c2, c3, b2, hadd2, rdB hal, Int.toNat_natCast, Nat.mul_one, true_and]
          refine go _ ?_
          simp only [go_sem, Int.reduceEq, Int.reduceAdd, Int.reduceSub, Int.reduceMul, Nat.reduceLT, Int.reduceLT, Int.reduceLE, Int.reduceToNat, Nat.reduceAdd, Nat.reduceSub, Nat.reduceMul, Nat.reduceLeDiff, reduceCtorEq, d22_1]
      · have c3 : decide ((i : Int) < 8) = false := decide_eq_false (by omega)
        rw [decide_eq_false hi8, Bool.false_or] at ns
        rw [decide_eq_false hi8, Bool.false_and, Bool.or_false] at nf
        have go : ∀ s', kill d22_1 s' = _ → N2 s' _ := fun s' e => hN2 s' _ hi16 e rfl
        rw [ns, nf] at go
        cases hf : sameTo a (n : Int) i
        · rw [hf] at go
          simp only [go_sem, Int.reduceEq, Int.reduceAdd, Int.reduceSub, Int.reduceMul, Nat.reduceLT, Int.reduceLT, Int.reduceLE, Int.reduceToNat, Nat.reduceAdd, Nat.reduceSub, Nat.reduceMul, Nat.reduceLeDiff, reduceCtorEq, d22_1, c2, c3, b2, hadd2, rdB hal, rdB hll, Int.toNat_natCast, Nat.mul_one, true_and]
          refine go _ ?_
          simp only [go_sem, Int.reduceEq, Int.reduceAdd, Int.reduceSub, Int.reduceMul, Nat.reduceLT, Int.reduceLT, Int.reduceLE, Int.reduceToNat, Nat.reduceAdd, Nat.reduceSub, Nat.reduceMul, Nat.reduceLeDiff, reduceCtorEq, d22_1]
        · rw [hf] at go
          simp only [go_sem, Int.reduceEq, Int.reduceAdd, Int.reduceSub, Int.reduceMul, Nat.reduceLT, Int.reduceLT, Int.reduceLE, Int.reduceToNat, Nat.reduceAdd, Nat.reduceSub, Nat.reduceMul, Nat.reduceLeDiff, reduceCtorEq, d22_1, c2, c3, b2, hadd2, rdB hal, rdB hll, Int.toNat_natCast, Nat.mul_one, true_and]
          refine go _ ?_
          simp only [go_sem, Int.reduceEq, Int.reduceAdd, Int.reduceSub, Int.reduceMul, Nat.reduceLT, Int.reduceLT, Int.reduceLE, Int.reduceToNat, Nat.reduceAdd, Nat.reduceSub, Nat.reduceMul, Nat.reduceLeDiff, reduceCtorEq, d22_1]
    · have c2 : decide ((i : Int) < 16) = false := decide_eq_false (by omega)
      obtain rfl : i = 16 := by omega
      simp only [go_sem, Int.reduceEq, Int.reduceAdd, Int.reduceSub, Int.reduceMul, Nat.reduceLT, Int.reduceLT, Int.reduceLE, Int.reduceToNat, Nat.reduceAdd, Nat.reduceSub, Nat.reduceMul, Nat.reduceLeDiff, reduceCtorEq, d22_1, c2]
      refine frz_id ?_
      have hmm := hm n hlt
      have hMN : matchN a (n : Int) = (sameTo a (n : Int) 16 && frontTo a 16) := rfl
      cases h1 : sameTo a (n : Int) 16
      · rw [h1, Bool.false_and] at hMN
        simp only [go_sem, Int.reduceEq, Int.reduceAdd, Int.reduceSub, Int.reduceMul, Nat.reduceLT, Int.reduceLT, Int.reduceLE, Int.reduceToNat, Nat.reduceAdd, Nat.reduceSub, Nat.reduceMul, Nat.reduceLeDiff, reduceCtorEq, hadd]
        refine hN _ _ hlt ?_ ⟨rfl, fun m hm' => ?_⟩
        · simp only [go_sem, Int.reduceEq, Int.reduceAdd, Int.reduceSub, Int.reduceMul, Nat.reduceLT, Int.reduceLT, Int.reduceLE, Int.reduceToNat, Nat.reduceAdd, Nat.reduceSub, Nat.reduceMul, Nat.reduceLeDiff, reduceCtorEq, d22_0]
        · by_cases e : m = n
          · rw [e]; exact hMN
          · exact hno m (by omega)
      · cases h2 : frontTo a 16
        · rw [h1, h2] at hMN
          simp only [go_sem, Int.reduceEq, Int.reduceAdd, Int.reduceSub, Int.reduceMul, Nat.reduceLT, Int.reduceLT, Int.reduceLE, Int.reduceToNat, Nat.reduceAdd, Nat.reduceSub, Nat.reduceMul, Nat.reduceLeDiff, reduceCtorEq, hadd]
          refine hN _ _ hlt ?_ ⟨rfl, fun m hm' => ?_⟩
          · simp only [go_sem, Int.reduceEq, Int.reduceAdd, Int.reduceSub, Int.reduceMul, Nat.reduceLT, Int.reduceLT, Int.reduceLE, Int.reduceToNat, Nat.reduceAdd, Nat.reduceSub, Nat.reduceMul, Nat.reduceLeDiff, reduceCtorEq, d22_0]
          · by_cases e : m = n
            · rw [e]; exact hMN
            · exact hno m (by omega)
        · rw [h1, h2] at hMN
          rw [hMN] at hmm
          have hmm2 := hmm.symm
          simp only [Bool.and_self, Bool.and_eq_true, decide_eq_true_eq] at hmm2
          simp only [go_sem, Int.reduceEq, Int.reduceAdd, Int.reduceSub, Int.reduceMul, Nat.reduceLT, Int.reduceLT, Int.reduceLE, Int.reduceToNat, Nat.reduceAdd, Nat.reduceSub, Nat.reduceMul, Nat.reduceLeDiff, reduceCtorEq]
          (refine hQ _ _ _ _ _ (by first | exact .inr rfl | exact .inl rfl) rfl (by first | exact FzH.refl _ | exact FzH.sub (by (repeat' (first | exact Sub.refl _ | assumption | (refine Sub.upd ?_ (by first | assumption | (simp only [*]; done) | exact Sub.isNone (by assumption) (by assumption) | exact Sub.isNone (by assumption) (by simp only [*]))))))) (FzL.refl _ _ _) ?_; try (simp only [go_sem, Int.reduceEq, Int.reduceAdd, Int.reduceSub, Int.reduceMul, Nat.reduceLT, Int.reduceLT, Int.reduceLE, Int.reduceToNat, Nat.reduceAdd, Nat.reduceSub, Nat.reduceMul, Nat.reduceLeDiff, reduceCtorEq]))
          unfold rnodeI
          rw [if_pos hmm2.1, hmm2.2]
  · have c1 : decide ((n : Int) < 64) = false := decide_eq_false (by omega)
    simp only [go_sem, Int.reduceEq, Int.reduceAdd, Int.reduceSub, Int.reduceMul, Nat.reduceLT, Int.reduceLT, Int.reduceLE, Int.reduceToNat, Nat.reduceAdd, Nat.reduceSub, Nat.reduceMul, Nat.reduceLeDiff, reduceCtorEq, d22_0, c1]
    refine frz_id ?_
    simp only [go_sem, Int.reduceEq, Int.reduceAdd, Int.reduceSub, Int.reduceMul, Nat.reduceLT, Int.reduceLT, Int.reduceLE, Int.reduceToNat, Nat.reduceAdd, Nat.reduceSub, Nat.reduceMul, Nat.reduceLeDiff, reduceCtorEq]
    (refine hQ _ _ _ _ _ (by first | exact .inr rfl | exact .inl rfl) rfl (by first | exact FzH.refl _ | exact FzH.sub (by (repeat' (first | exact Sub.refl _ | assumption | (refine Sub.upd ?_ (by first | assumption | (simp only [*]; done) | exact Sub.isNone (by assumption) (by assumption) | exact Sub.isNone (by assumption) (by simp only [*]))))))) (FzL.refl _ _ _) ?_; try (simp only [go_sem, Int.reduceEq, Int.reduceAdd, Int.reduceSub, Int.reduceMul, Nat.reduceLT, Int.reduceLT, Int.reduceLE, Int.reduceToNat, Nat.reduceAdd, Nat.reduceSub, Nat.reduceMul, Nat.reduceLeDiff, reduceCtorEq]))
    have hbad : nodeOk (grps a) = false := by
      cases e : nodeOk (grps a)
      · rfl
      · have e2 := e
        simp only [nodeOk, isNode, Bool.and_eq_true, decide_eq_true_eq] at e2
        obtain ⟨m, hmn⟩ := Int.eq_ofNat_of_zero_le e2.2.1
        have h3 := hm m (by omega)
        rw [e, hno m (by omega), hmn] at h3
        simp at h3
    simp [rnodeI, hbad]

/-! ### addr.Global -/

def globL (p : List Int) (n : Int) : List Int := p.take 8 ++ (linkL n).drop 8
def globOk (p : List Int) (bits n : Int) : Bool := isNode n && rightB p bits && decide (bits = 64)
def globV (p : List Int) (bits n : Int) : AV := if globOk p bits n then .tup [.agg (cat b1 (globL p n)), .int .i64 0] else .tup [.agg (cat b1 zeroA), .int .i64 1]

theorem global_spec (p : List Int) (hp : isA p) (bits n : Int) (h : AHeap) : PureA Tryd.prog 20 [.agg (pfx p bits), .int .i64 n] h (globV p bits n) := by
  have l17 := pfx_len (n := bits) hp.1
  have t16 := pfx_take (n := bits) hp.1
  have t17 : (pfx p bits).take 17 = pfx p bits := List.take_of_length_le (by omega)
  have d16 := pfx_drop (n := bits) hp.1
  have lp : (cat b1 p).length = 16 := by rw [cat_len b1_len, hp.1]
  (refine PureA.enter (ac := c20) (rs := r20) Tryd.func20 rfl (by decide) c20_ok r20_ok ?_; intro Q hQ; simp only [go_sem, Int.reduceEq, Int.reduceAdd, Int.reduceSub, Int.reduceMul, Nat.reduceLT, Int.reduceLT, Int.reduceLE, Int.reduceToNat, Nat.reduceAdd, Nat.reduceSub, Nat.reduceMul, Nat.reduceLeDiff, reduceCtorEq, c20, Tryd.ntmps20])
  intro q0 hq0
  refine (link_spec n _).use ?_
  cases e : isNode n
  · have hv : linkV n = .tup [.agg (cat b1 zeroA), .int .i64 1] := by simp [linkV, e]
    have hg : globV p bits n = .tup [.agg (cat b1 zeroA), .int .i64 1] := by simp [globV, globOk, e]
    rw [hg] at hQ
    simp only [go_sem, Int.reduceEq, Int.reduceAdd, Int.reduceSub, Int.reduceMul, Nat.reduceLT, Int.reduceLT, Int.reduceLE, Int.reduceToNat, Nat.reduceAdd, Nat.reduceSub, Nat.reduceMul, Nat.reduceLeDiff, reduceCtorEq, hv, zA_cells]
    intro q1 hq1
    obtain ⟨h01, hq2⟩ := two_ne hq1
    simp only [go_sem, Int.reduceEq, Int.reduceAdd, Int.reduceSub, Int.reduceMul, Nat.reduceLT, Int.reduceLT, Int.reduceLE, Int.reduceToNat, Nat.reduceAdd, Nat.reduceSub, Nat.reduceMul, Nat.reduceLeDiff, reduceCtorEq, upd_ne h01]
    refine hQ _ _ _ _ _ (by first | exact .inr rfl | exact .inl rfl) (by first | rfl | (simp only [go_sem, Int.reduceEq, Int.reduceAdd, Int.reduceSub, Int.reduceMul, Nat.reduceLT, Int.reduceLT, Int.reduceLE, Int.reduceToNat, Nat.reduceAdd, Nat.reduceSub, Nat.reduceMul, Nat.reduceLeDiff, reduceCtorEq, r20, upd_ne h01]; rfl) | simp only [go_sem, Int.reduceEq, Int.reduceAdd, Int.reduceSub, Int.reduceMul, Nat.reduceLT, Int.reduceLT, Int.reduceLE, Int.reduceToNat, Nat.reduceAdd, Nat.reduceSub, Nat.reduceMul, Nat.reduceLeDiff, reduceCtorEq, r20, upd_ne h01]) (FzH.sub (by (repeat' (first | exact Sub.refl _ | assumption | (refine Sub.upd ?_ (by first | assumption | (simp only [*]; done) | exact Sub.isNone (by assumption) (by assumption) | exact Sub.isNone (by assumption) (by simp only [*]))))))) (FzL.refl _ _ _) ?_
    simp only [go_sem, Int.reduceEq, Int.reduceAdd, Int.reduceSub, Int.reduceMul, Nat.reduceLT, Int.reduceLT, Int.reduceLE, Int.reduceToNat, Nat.reduceAdd, Nat.reduceSub, Nat.reduceMul, Nat.reduceLeDiff, reduceCtorEq]
    rfl
  · have hL := linkL_is e
    have hv : linkV n = .tup [.agg (cat b1 (linkL n)), .int .i64 0] := by simp [linkV, e]
    have ll : (cat b1 (linkL n)).length = 16 := rfl
    have ls := cat_sca b1_sca (linkL n)
    have lt : (cat b1 (linkL n)).take 16 = cat b1 (linkL n) := rfl
    simp only [go_sem, Int.reduceEq, Int.reduceAdd, Int.reduceSub, Int.reduceMul, Nat.reduceLT, Int.reduceLT, Int.reduceLE, Int.reduceToNat, Nat.reduceAdd, Nat.reduceSub, Nat.reduceMul, Nat.reduceLeDiff, reduceCtorEq, hv]
    intro q1 hq1
    obtain ⟨h01, hq2⟩ := two_ne hq1
    have h10 : q1 ≠ q0 := fun e => h01 e.symm
    simp only [go_sem, Int.reduceEq, Int.reduceAdd, Int.reduceSub, Int.reduceMul, Nat.reduceLT, Int.reduceLT, Int.reduceLE, Int.reduceToNat, Nat.reduceAdd, Nat.reduceSub, Nat.reduceMul, Nat.reduceLeDiff, reduceCtorEq, upd_ne h01, upd_ne h10, ll, ls, lt, l17, t17, Nat.le_refl, if_true]
    refine (right_spec p hp bits _).use ?_
    cases e2 : rightB p bits
    · have hg : globV p bits n = .tup [.agg (cat b1 zeroA), .int .i64 1] := by simp [globV, globOk, e2]
      rw [hg] at hQ
      simp only [go_sem, Int.reduceEq, Int.reduceAdd, Int.reduceSub, Int.reduceMul, Nat.reduceLT, Int.reduceLT, Int.reduceLE, Int.reduceToNat, Nat.reduceAdd, Nat.reduceSub, Nat.reduceMul, Nat.reduceLeDiff, reduceCtorEq, upd_ne h01, upd_ne h10]
      refine hQ _ _ _ _ _ (by first | exact .inr rfl | exact .inl rfl) (by first | rfl | (simp only [go_sem, Int.reduceEq, Int.reduceAdd, Int.reduceSub, Int.reduceMul, Nat.reduceLT, Int.reduceLT, Int.reduceLE, Int.reduceToNat, Nat.reduceAdd, Nat.reduceSub, Nat.reduceMul, Nat.reduceLeDiff, reduceCtorEq, r20, upd_ne h01]; rfl) | simp only [go_sem, Int.reduceEq, Int.reduceAdd, Int.reduceSub, Int.reduceMul, Nat.reduceLT, Int.reduceLT, Int.reduceLE, Int.reduceToNat, Nat.reduceAdd, Nat.reduceSub, Nat.reduceMul, Nat.reduceLeDiff, reduceCtorEq, r20, upd_ne h01]) (FzH.sub (by (repeat' (first | exact Sub.refl _ | assumption | (refine Sub.upd ?_ (by first | assumption | (simp only [*]; done) | exact Sub.isNone (by assumption) (by assumption) | exact Sub.isNone (by assumption) (by simp only [*]))))))) (FzL.refl _ _ _) ?_
      simp only [go_sem, Int.reduceEq, Int.reduceAdd, Int.reduceSub, Int.reduceMul, Nat.reduceLT, Int.reduceLT, Int.reduceLE, Int.reduceToNat, Nat.reduceAdd, Nat.reduceSub, Nat.reduceMul, Nat.reduceLeDiff, reduceCtorEq]
      rfl
    by_cases e3 : bits = 64
    · have c1 : decide (bits = 64) = true := decide_eq_true e3
      have hg : globV p bits n = .tup [.agg (cat b1 (globL p n)), .int .i64 0] := by
        unfold globV globOk
        rw [e, e2, decide_eq_true e3]
        rfl
      rw [hg] at hQ
      have a1 : arrA 16 1 (.ptr q1 0) none (some (.int .i64 8)) none = some (.sl q1 0 8 16) := rfl
      have a2 : arrA 16 1 (.rp (pfx p bits)) none none none = some (.ro (cat b1 p) 16 true) := by
        simp [arrA, bnd, t16]
      simp only [go_sem, Int.reduceEq, Int.reduceAdd, Int.reduceSub, Int.reduceMul, Nat.reduceLT, Int.reduceLT, Int.reduceLE, Int.reduceToNat, Nat.reduceAdd, Nat.reduceSub, Nat.reduceMul, Nat.reduceLeDiff, reduceCtorEq, upd_ne h01, upd_ne h10, c1, d16, a1, a2, List.drop_zero]
      have h8 : (cat b1 p).take 8 = cat b1 (p.take 8) := by have := cat_take b1_len p 8; simpa using this
      have l8 : (cat b1 (p.take 8)).length = 8 := by rw [cat_len b1_len, List.length_take, hp.1]; rfl
      have hsp : splice (cat b1 (linkL n)) 0 (cat b1 (p.take 8)) = cat b1 (globL p n) := by
        unfold splice globL
        rw [l8, List.take_zero, List.nil_append, cat_append]
        rfl
      have lg : (cat b1 (globL p n)).length = 16 := by rw [globL, cat_append, List.length_append, l8]; rfl
      have lgt : (cat b1 (globL p n)).take 16 = cat b1 (globL p n) := List.take_of_length_le (by omega)
      have lgs := cat_sca b1_sca (globL p n)
      refine ⟨cat b1 p, by simp only [acells]; rw [if_pos (by omega)], cat b1 (linkL n), 16, upd_same, by rw [ll]; decide, ?_, ?_⟩
      · show ((cat b1 p).take 8).all scalar = true
        rw [h8]; exact cat_sca b1_sca _
      show kput _ _ _ (.int .i64 _) (upd _ q1 (.cells (splice (cat b1 (linkL n)) 0 ((cat b1 p).take 8)) 16))
      rw [h8, hsp, upd_twice]
      simp only [go_sem, Int.reduceEq, Int.reduceAdd, Int.reduceSub, Int.reduceMul, Nat.reduceLT, Int.reduceLT, Int.reduceLE, Int.reduceToNat, Nat.reduceAdd, Nat.reduceSub, Nat.reduceMul, Nat.reduceLeDiff, reduceCtorEq, upd_ne h01, upd_ne h10, lg, lgt, lgs, Nat.le_refl, if_true]
      trace_state
      refine hQ _ _ _ _ _ (by first | exact .inr rfl | exact .inl rfl) (by first | rfl | (simp only [go_sem, Int.reduceEq, Int.reduceAdd, Int.reduceSub, Int.reduceMul, Nat.reduceLT, Int.reduceLT, Int.reduceLE, Int.reduceToNat, Nat.reduceAdd, Nat.reduceSub, Nat.reduceMul, Nat.reduceLeDiff, reduceCtorEq, r20, upd_ne h01, lg, lgt, Nat.le_refl, if_true]; rfl) | simp only [go_sem, Int.reduceEq, Int.reduceAdd, Int.reduceSub, Int.reduceMul, Nat.reduceLT, Int.reduceLT, Int.reduceLE, Int.reduceToNat, Nat.reduceAdd, Nat.reduceSub, Nat.reduceMul, Nat.reduceLeDiff, reduceCtorEq, r20, upd_ne h01, lg, lgt, Nat.le_refl, if_true]) (FzH.sub (by (repeat' (first | exact Sub.refl _ | assumption | (refine Sub.upd ?_ (by first | assumption | (simp only [*]; done) | exact Sub.isNone (by assumption) (by assumption) | exact Sub.isNone (by assumption) (by simp only [*]))))))) (FzL.refl _ _ _) ?_
      simp only [go_sem, Int.reduceEq, Int.reduceAdd, Int.reduceSub, Int.reduceMul, Nat.reduceLT, Int.reduceLT, Int.reduceLE, Int.reduceToNat, Nat.reduceAdd, Nat.reduceSub, Nat.reduceMul, Nat.reduceLeDiff, reduceCtorEq]
    · have c1 : decide (bits = 64) = false := decide_eq_false e3
      have hg : globV p bits n = .tup [.agg (cat b1 zeroA), .int .i64 1] := by simp [globV, globOk, e3]
      rw [hg] at hQ
      simp only [go_sem, Int.reduceEq, Int.reduceAdd, Int.reduceSub, Int.reduceMul, Nat.reduceLT, Int.reduceLT, Int.reduceLE, Int.reduceToNat, Nat.reduceAdd, Nat.reduceSub, Nat.reduceMul, Nat.reduceLeDiff, reduceCtorEq, upd_ne h01, upd_ne h10, c1, d16]
      refine hQ _ _ _ _ _ (by first | exact .inr rfl | exact .inl rfl) (by first | rfl | (simp only [go_sem, Int.reduceEq, Int.reduceAdd, Int.reduceSub, Int.reduceMul, Nat.reduceLT, Int.reduceLT, Int.reduceLE, Int.reduceToNat, Nat.reduceAdd, Nat.reduceSub, Nat.reduceMul, Nat.reduceLeDiff, reduceCtorEq, r20, upd_ne h01]; rfl) | simp only [go_sem, Int.reduceEq, Int.reduceAdd, Int.reduceSub, Int.reduceMul, Nat.reduceLT, Int.reduceLT, Int.reduceLE, Int.reduceToNat, Nat.reduceAdd, Nat.reduceSub, Nat.reduceMul, Nat.reduceLeDiff, reduceCtorEq, r20, upd_ne h01]) (FzH.sub (by (repeat' (first | exact Sub.refl _ | assumption | (refine Sub.upd ?_ (by first | assumption | (simp only [*]; done) | exact Sub.isNone (by assumption) (by assumption) | exact Sub.isNone (by assumption) (by simp only [*]))))))) (FzL.refl _ _ _) ?_
      simp only [go_sem, Int.reduceEq, Int.reduceAdd, Int.reduceSub, Int.reduceMul, Nat.reduceLT, Int.reduceLT, Int.reduceLE, Int.reduceToNat, Nat.reduceAdd, Nat.reduceSub, Nat.reduceMul, Nat.reduceLeDiff, reduceCtorEq]
      rfl

end Go.Proofs.YtdlghfekgecjjaaDoor
