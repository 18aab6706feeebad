/-
  addr.Node, addr.All, and the chapter's examples.
-/
import Derived.Test.YtdlghfekgecjjaaDoorAh
import Derived.KernelRfl
namespace Go.Proofs.YtdlghfekgecjjaaDoor
open Go E
set_option linter.unusedVariables false
set_option linter.unusedSimpArgs false
set_option maxRecDepth 100000

def isNode (n : Int) : Bool := decide (0 ≤ n) && decide (n < 64)
theorem node_spec (n : Int) (h : AHeap) : PureA Tryd.prog 37 [.int .i64 n] h (.bool (isNode n)) := by
  (refine PureA.enter (ac := c37) (rs := r37) Tryd.func37 rfl (by decide) c37_ok r37_ok ?_; intro Q hQ; simp only [go_sem, Int.reduceEq, Int.reduceAdd, Int.reduceSub, Int.reduceMul, Nat.reduceLT, Int.reduceLT, Int.reduceLE, Int.reduceToNat, Nat.reduceAdd, Nat.reduceSub, Nat.reduceMul, Nat.reduceLeDiff, reduceCtorEq, c37, Tryd.ntmps37])
  by_cases e : 0 ≤ n
  · have e1 : decide (0 ≤ n) = true := decide_eq_true e
    simp only [go_sem, Int.reduceEq, Int.reduceAdd, Int.reduceSub, Int.reduceMul, Nat.reduceLT, Int.reduceLT, Int.reduceLE, Int.reduceToNat, Nat.reduceAdd, Nat.reduceSub, Nat.reduceMul, Nat.reduceLeDiff, reduceCtorEq, e1]
    (refine hQ _ _ _ _ _ (by first | exact .inr rfl | exact .inl rfl) rfl (by first | exact FzH.refl _ | exact FzH.sub (by (repeat' (first | exact Sub.refl _ | assumption | (refine Sub.upd ?_ (by first | assumption | (simp only [*]; done) | exact Sub.isNone (by assumption) (by assumption) | exact Sub.isNone (by assumption) (by simp only [*]))))))) (FzL.refl _ _ _) ?_; try (simp only [go_sem, Int.reduceEq, Int.reduceAdd, Int.reduceSub, Int.reduceMul, Nat.reduceLT, Int.reduceLT, Int.reduceLE, Int.reduceToNat, Nat.reduceAdd, Nat.reduceSub, Nat.reduceMul, Nat.reduceLeDiff, reduceCtorEq]))
    simp [isNode, e]
  · have e1 : decide (0 ≤ n) = false := decide_eq_false e
    simp only [go_sem, Int.reduceEq, Int.reduceAdd, Int.reduceSub, Int.reduceMul, Nat.reduceLT, Int.reduceLT, Int.reduceLE, Int.reduceToNat, Nat.reduceAdd, Nat.reduceSub, Nat.reduceMul, Nat.reduceLeDiff, reduceCtorEq, e1]
    (refine hQ _ _ _ _ _ (by first | exact .inr rfl | exact .inl rfl) rfl (by first | exact FzH.refl _ | exact FzH.sub (by (repeat' (first | exact Sub.refl _ | assumption | (refine Sub.upd ?_ (by first | assumption | (simp only [*]; done) | exact Sub.isNone (by assumption) (by assumption) | exact Sub.isNone (by assumption) (by simp only [*]))))))) (FzL.refl _ _ _) ?_; try (simp only [go_sem, Int.reduceEq, Int.reduceAdd, Int.reduceSub, Int.reduceMul, Nat.reduceLT, Int.reduceLT, Int.reduceLE, Int.reduceToNat, Nat.reduceAdd, Nat.reduceSub, Nat.reduceMul, Nat.reduceLeDiff, reduceCtorEq]))
    simp [isNode, e]

theorem eqCells_i : ∀ (a b : List Int), a.length = b.length → eqCells (List.replicate a.length .i) (cat i1 a) (cat i1 b) = some (decide (a = b))
  | [], [], _ => rfl
  | x :: a, y :: b, h => by
    have ih := eqCells_i a b (by simpa using h)
    have e1 : cat i1 (x :: a) = .int .i64 x :: cat i1 a := rfl
    have e2 : cat i1 (y :: b) = .int .i64 y :: cat i1 b := rfl
    rw [e1, e2]
    simp only [List.length_cons, List.replicate_succ, eqCells, eqCell, if_true, ih]
    congr 1
    by_cases h1 : x = y <;> by_cases h2 : a = b <;> simp [h1, h2]

def nodeOk (g : List Int) : Bool := !decide (g.take 4 = [0, 0, 0, 0]) && decide ((g.drop 4).take 3 = [0, 0, 1]) && isNode (g.getD 7 0 - 1)
def nodeV (g : List Int) : AV := if nodeOk g then .tup [.int .i64 (g.getD 7 0 - 1), .int .i64 0] else .tup [.int .i64 0, .int .i64 8]

set_option maxHeartbeats 2000000 in
theorem nodeA_spec (a : List Int) (ha : isA a) (h : AHeap) : PureA Tryd.prog 21 [.agg (cat b1 a)] h (nodeV (grps a)) := by
  have gs := groups_spec a ha
  have hg : ∀ x ∈ grps a, 0 ≤ x ∧ x ≤ 65535 := grps_bound ha
  have la : (cat b1 a).length = 16 := by rw [cat_len b1_len, ha.1]
  have ta : (cat b1 a).take 16 = cat b1 a := List.take_of_length_le (by omega)
  obtain ⟨x0, x1, x2, x3, x4, x5, x6, x7, hgr⟩ := len8 (grps_len a)
  rw [hgr] at gs hg ⊢
  have h7 := hg x7 (by simp)
  have e1 : eqCells [.i, .i, .i, .i] [.int .i64 x0, .int .i64 x1, .int .i64 x2, .int .i64 x3] [.int .i64 0, .int .i64 0, .int .i64 0, .int .i64 0] = some (decide ([x0, x1, x2, x3] = [0, 0, 0, 0])) := eqCells_i [x0, x1, x2, x3] [0, 0, 0, 0] rfl
  have e2 : eqCells [.i, .i, .i] [.int .i64 x4, .int .i64 x5, .int .i64 x6] [.int .i64 0, .int .i64 0, .int .i64 1] = some (decide ([x4, x5, x6] = [0, 0, 1])) := eqCells_i [x4, x5, x6] [0, 0, 1] rfl
  have w : IntKind.i64.wrap (x7 - 1) = x7 - 1 := w64 (by omega) (by omega)
  have v : nodeV [x0, x1, x2, x3, x4, x5, x6, x7] = if !decide ([x0, x1, x2, x3] = [0, 0, 0, 0]) && decide ([x4, x5, x6] = [0, 0, 1]) && isNode (x7 - 1) then .tup [.int .i64 (x7 - 1), .int .i64 0] else .tup [.int .i64 0, .int .i64 8] := rfl
  rw [v]
  (refine PureA.enter (ac := c21) (rs := r21) Tryd.func21 rfl (by decide) c21_ok r21_ok ?_; intro Q hQ; simp only [go_sem, Int.reduceEq, Int.reduceAdd, Int.reduceSub, Int.reduceMul, Nat.reduceLT, Int.reduceLT, Int.reduceLE, Int.reduceToNat, Nat.reduceAdd, Nat.reduceSub, Nat.reduceMul, Nat.reduceLeDiff, reduceCtorEq, c21, Tryd.ntmps21, la, ta, Nat.le_refl, if_true])
  refine (gs _).use ?_
  simp only [go_sem, Int.reduceEq, Int.reduceAdd, Int.reduceSub, Int.reduceMul, Nat.reduceLT, Int.reduceLT, Int.reduceLE, Int.reduceToNat, Nat.reduceAdd, Nat.reduceSub, Nat.reduceMul, Nat.reduceLeDiff, reduceCtorEq, cati8]
  intro p hp
  simp only [go_sem, Int.reduceEq, Int.reduceAdd, Int.reduceSub, Int.reduceMul, Nat.reduceLT, Int.reduceLT, Int.reduceLE, Int.reduceToNat, Nat.reduceAdd, Nat.reduceSub, Nat.reduceMul, Nat.reduceLeDiff, reduceCtorEq, del_same, del_none hp, w]
  simp only [go_sem, Int.reduceEq, Int.reduceAdd, Int.reduceSub, Int.reduceMul, Nat.reduceLT, Int.reduceLT, Int.reduceLE, Int.reduceToNat, Nat.reduceAdd, Nat.reduceSub, Nat.reduceMul, Nat.reduceLeDiff, reduceCtorEq, show arrA 8 1 (.rp [.int .i64 x0, .int .i64 x1, .int .i64 x2, .int .i64 x3, .int .i64 x4, .int .i64 x5, .int .i64 x6, .int .i64 x7]) none (some (.int .i64 4)) none = some (.ro _ 4 false) from rfl]
  intro q hq
  have a2 : arrA 8 1 (.rp [.int .i64 x0, .int .i64 x1, .int .i64 x2, .int .i64 x3, .int .i64 x4, .int .i64 x5, .int .i64 x6, .int .i64 x7]) (some (.int .i64 4)) (some (.int .i64 7)) none = some (.ro [.int .i64 x4, .int .i64 x5, .int .i64 x6] 3 false) := rfl
  simp only [go_sem, Int.reduceEq, Int.reduceAdd, Int.reduceSub, Int.reduceMul, Nat.reduceLT, Int.reduceLT, Int.reduceLE, Int.reduceToNat, Nat.reduceAdd, Nat.reduceSub, Nat.reduceMul, Nat.reduceLeDiff, reduceCtorEq, del_same, del_none hp, del_none hq, a2]
  intro r hr
  have dd : del (upd h q (AObj.cells [AV.int .i64 0, .int .i64 0, .int .i64 0, .int .i64 0] 4)) q = h := del_new hq _
  simp only [go_sem, Int.reduceEq, Int.reduceAdd, Int.reduceSub, Int.reduceMul, Nat.reduceLT, Int.reduceLT, Int.reduceLE, Int.reduceToNat, Nat.reduceAdd, Nat.reduceSub, Nat.reduceMul, Nat.reduceLeDiff, reduceCtorEq, del_same, del_none hp, del_none hq, del_none hr, e1, e2]
  cases f1 : decide ([x0, x1, x2, x3] = [0, 0, 0, 0])
  rotate_left
  · simp only [go_sem, Int.reduceEq, Int.reduceAdd, Int.reduceSub, Int.reduceMul, Nat.reduceLT, Int.reduceLT, Int.reduceLE, Int.reduceToNat, Nat.reduceAdd, Nat.reduceSub, Nat.reduceMul, Nat.reduceLeDiff, reduceCtorEq]
    (refine hQ _ _ _ _ _ (by first | exact .inr rfl | exact .inl rfl) rfl (by first | exact FzH.refl _ | exact FzH.sub (by (repeat' (first | exact Sub.refl _ | assumption | (refine Sub.upd ?_ (by first | assumption | (simp only [*]; done) | exact Sub.isNone (by assumption) (by assumption) | exact Sub.isNone (by assumption) (by simp only [*]))))))) (FzL.refl _ _ _) ?_; try (simp only [go_sem, Int.reduceEq, Int.reduceAdd, Int.reduceSub, Int.reduceMul, Nat.reduceLT, Int.reduceLT, Int.reduceLE, Int.reduceToNat, Nat.reduceAdd, Nat.reduceSub, Nat.reduceMul, Nat.reduceLeDiff, reduceCtorEq, f1, Bool.not_true, Bool.not_false, Bool.false_and, Bool.and_false, Bool.true_and, Bool.false_eq_true, if_false, if_true]))
  simp only [go_sem, Int.reduceEq, Int.reduceAdd, Int.reduceSub, Int.reduceMul, Nat.reduceLT, Int.reduceLT, Int.reduceLE, Int.reduceToNat, Nat.reduceAdd, Nat.reduceSub, Nat.reduceMul, Nat.reduceLeDiff, reduceCtorEq, e2]
  cases f2 : decide ([x4, x5, x6] = [0, 0, 1])
  · simp only [go_sem, Int.reduceEq, Int.reduceAdd, Int.reduceSub, Int.reduceMul, Nat.reduceLT, Int.reduceLT, Int.reduceLE, Int.reduceToNat, Nat.reduceAdd, Nat.reduceSub, Nat.reduceMul, Nat.reduceLeDiff, reduceCtorEq]
    (refine hQ _ _ _ _ _ (by first | exact .inr rfl | exact .inl rfl) rfl (by first | exact FzH.refl _ | exact FzH.sub (by (repeat' (first | exact Sub.refl _ | assumption | (refine Sub.upd ?_ (by first | assumption | (simp only [*]; done) | exact Sub.isNone (by assumption) (by assumption) | exact Sub.isNone (by assumption) (by simp only [*]))))))) (FzL.refl _ _ _) ?_; try (simp only [go_sem, Int.reduceEq, Int.reduceAdd, Int.reduceSub, Int.reduceMul, Nat.reduceLT, Int.reduceLT, Int.reduceLE, Int.reduceToNat, Nat.reduceAdd, Nat.reduceSub, Nat.reduceMul, Nat.reduceLeDiff, reduceCtorEq, f1, f2, Bool.not_true, Bool.not_false, Bool.false_and, Bool.and_false, Bool.true_and, Bool.false_eq_true, if_false, if_true]))
  simp only [go_sem, Int.reduceEq, Int.reduceAdd, Int.reduceSub, Int.reduceMul, Nat.reduceLT, Int.reduceLT, Int.reduceLE, Int.reduceToNat, Nat.reduceAdd, Nat.reduceSub, Nat.reduceMul, Nat.reduceLeDiff, reduceCtorEq]
  refine (node_spec _ _).use ?_
  cases f3 : isNode (x7 - 1)
  · simp only [go_sem, Int.reduceEq, Int.reduceAdd, Int.reduceSub, Int.reduceMul, Nat.reduceLT, Int.reduceLT, Int.reduceLE, Int.reduceToNat, Nat.reduceAdd, Nat.reduceSub, Nat.reduceMul, Nat.reduceLeDiff, reduceCtorEq]
    (refine hQ _ _ _ _ _ (by first | exact .inr rfl | exact .inl rfl) rfl (by first | exact FzH.refl _ | exact FzH.sub (by (repeat' (first | exact Sub.refl _ | assumption | (refine Sub.upd ?_ (by first | assumption | (simp only [*]; done) | exact Sub.isNone (by assumption) (by assumption) | exact Sub.isNone (by assumption) (by simp only [*]))))))) (FzL.refl _ _ _) ?_; try (simp only [go_sem, Int.reduceEq, Int.reduceAdd, Int.reduceSub, Int.reduceMul, Nat.reduceLT, Int.reduceLT, Int.reduceLE, Int.reduceToNat, Nat.reduceAdd, Nat.reduceSub, Nat.reduceMul, Nat.reduceLeDiff, reduceCtorEq, f1, f2, f3, Bool.not_true, Bool.not_false, Bool.false_and, Bool.and_false, Bool.true_and, Bool.false_eq_true, if_false, if_true]))
  · simp only [go_sem, Int.reduceEq, Int.reduceAdd, Int.reduceSub, Int.reduceMul, Nat.reduceLT, Int.reduceLT, Int.reduceLE, Int.reduceToNat, Nat.reduceAdd, Nat.reduceSub, Nat.reduceMul, Nat.reduceLeDiff, reduceCtorEq]
    (refine hQ _ _ _ _ _ (by first | exact .inr rfl | exact .inl rfl) rfl (by first | exact FzH.refl _ | exact FzH.sub (by (repeat' (first | exact Sub.refl _ | assumption | (refine Sub.upd ?_ (by first | assumption | (simp only [*]; done) | exact Sub.isNone (by assumption) (by assumption) | exact Sub.isNone (by assumption) (by simp only [*]))))))) (FzL.refl _ _ _) ?_; try (simp only [go_sem, Int.reduceEq, Int.reduceAdd, Int.reduceSub, Int.reduceMul, Nat.reduceLT, Int.reduceLT, Int.reduceLE, Int.reduceToNat, Nat.reduceAdd, Nat.reduceSub, Nat.reduceMul, Nat.reduceLeDiff, reduceCtorEq, f1, f2, f3, Bool.not_true, Bool.not_false, Bool.false_and, Bool.and_false, Bool.true_and, Bool.false_eq_true, if_false, if_true]))

theorem of8 (g : List Int) (h8 : ofOk g = true) (ex : Bool) (h : AHeap) (hl : g.length ≤ 1000000) : PureA Tryd.prog 9 [.ro (cat i1 g) g.length ex] h (.tup [.agg (cat b1 (ofG g)), .int .i64 0]) := by
  have := of_spec g ex h hl
  unfold ofV at this
  rw [if_pos h8] at this
  exact this

def allA : List Int := [255, 2, 0, 0, 0, 0, 0, 0, 0, 0, 0, 0, 0, 0, 0, 26]
theorem all_spec (h : AHeap) : PureA Tryd.prog 34 [] h (.agg (cat b1 allA)) := by
  have o : ∀ h, PureA Tryd.prog 9 [.ro [.int .i64 65282, .int .i64 0, .int .i64 0, .int .i64 0, .int .i64 0, .int .i64 0, .int .i64 0, .int .i64 26] 8 true] h (.tup [.agg (cat b1 allA), .int .i64 0]) :=
    fun h => of8 [65282, 0, 0, 0, 0, 0, 0, 26] (by decide) true h (by decide)
  (refine PureA.enter (ac := c34) (rs := r34) Tryd.func34 rfl (by decide) c34_ok r34_ok ?_; intro Q hQ; simp only [go_sem, Int.reduceEq, Int.reduceAdd, Int.reduceSub, Int.reduceMul, Nat.reduceLT, Int.reduceLT, Int.reduceLE, Int.reduceToNat, Nat.reduceAdd, Nat.reduceSub, Nat.reduceMul, Nat.reduceLeDiff, reduceCtorEq, c34, Tryd.ntmps34])
  intro p hp
  refine (o _).use ?_
  simp only [go_sem, Int.reduceEq, Int.reduceAdd, Int.reduceSub, Int.reduceMul, Nat.reduceLT, Int.reduceLT, Int.reduceLE, Int.reduceToNat, Nat.reduceAdd, Nat.reduceSub, Nat.reduceMul, Nat.reduceLeDiff, reduceCtorEq, show cat b1 allA = [.int .u8 255, .int .u8 2, .int .u8 0, .int .u8 0, .int .u8 0, .int .u8 0, .int .u8 0, .int .u8 0, .int .u8 0, .int .u8 0, .int .u8 0, .int .u8 0, .int .u8 0, .int .u8 0, .int .u8 0, .int .u8 26] from rfl]
  intro q hq
  obtain ⟨hpq, hq2⟩ := two_ne hq
  simp only [go_sem, Int.reduceEq, Int.reduceAdd, Int.reduceSub, Int.reduceMul, Nat.reduceLT, Int.reduceLT, Int.reduceLE, Int.reduceToNat, Nat.reduceAdd, Nat.reduceSub, Nat.reduceMul, Nat.reduceLeDiff, reduceCtorEq, del_same, del_none hp, del_none hq, upd_ne hpq]
  (refine hQ _ _ _ _ _ (by first | exact .inr rfl | exact .inl rfl) rfl (by first | exact FzH.refl _ | exact FzH.sub (by (repeat' (first | exact Sub.refl _ | assumption | (refine Sub.upd ?_ (by first | assumption | (simp only [*]; done) | exact Sub.isNone (by assumption) (by assumption) | exact Sub.isNone (by assumption) (by simp only [*]))))))) (FzL.refl _ _ _) ?_; try (simp only [go_sem, Int.reduceEq, Int.reduceAdd, Int.reduceSub, Int.reduceMul, Nat.reduceLT, Int.reduceLT, Int.reduceLE, Int.reduceToNat, Nat.reduceAdd, Nat.reduceSub, Nat.reduceMul, Nat.reduceLeDiff, reduceCtorEq]))
  rfl

def kA : List Int := [254, 128, 0, 0, 0, 0, 0, 0, 0, 0, 0, 0, 0, 1, 0, 3]
def kB : List Int := [0, 1, 0, 0, 0, 0, 0, 2, 0, 0, 0, 0, 0, 0, 0, 3]
theorem kA_cells : cat b1 kA = [.int .u8 254, .int .u8 128, .int .u8 0, .int .u8 0, .int .u8 0, .int .u8 0, .int .u8 0, .int .u8 0, .int .u8 0, .int .u8 0, .int .u8 0, .int .u8 0, .int .u8 0, .int .u8 1, .int .u8 0, .int .u8 3] := rfl
theorem kB_cells : cat b1 kB = [.int .u8 0, .int .u8 1, .int .u8 0, .int .u8 0, .int .u8 0, .int .u8 0, .int .u8 0, .int .u8 2, .int .u8 0, .int .u8 0, .int .u8 0, .int .u8 0, .int .u8 0, .int .u8 0, .int .u8 0, .int .u8 3] := rfl
theorem zA_cells : cat b1 zeroA = [.int .u8 0, .int .u8 0, .int .u8 0, .int .u8 0, .int .u8 0, .int .u8 0, .int .u8 0, .int .u8 0, .int .u8 0, .int .u8 0, .int .u8 0, .int .u8 0, .int .u8 0, .int .u8 0, .int .u8 0, .int .u8 0] := rfl

instance (p : List Int) : Decidable (isPart p) := inferInstanceAs (Decidable (_ ∧ _ ∧ _))
def kS : ByteArray := ByteArray.mk (Array.mk [102, 101, 56, 48, 58, 58, 49, 58, 51])
theorem k_cut : Lib.cut kS.data.toList (ByteArray.mk (Array.mk [58, 58])).data.toList = ((ByteArray.mk (Array.mk [102, 101, 56, 48])).data.toList, (ByteArray.mk (Array.mk [49, 58, 51])).data.toList, true) := by decide +kernel
theorem k_front : LOk (ByteArray.mk (Array.mk [102, 101, 56, 48])) [[102, 101, 56, 48]] := .inr ⟨by decide +kernel, by decide, by decide +kernel, by decide, by decide⟩
theorem k_back : LOk (ByteArray.mk (Array.mk [49, 58, 51])) [[49], [51]] := .inr ⟨by decide +kernel, by decide, by decide +kernel, by decide, by decide⟩
theorem k_full : ofG (fullG true ([[102, 101, 56, 48]].map valL) ([[49], [51]].map valL)) = kA := by decide +kernel
theorem k_text : kS = strOfNums (textL kA) := by decide +kernel

theorem k_parse (h : AHeap) : PureA Tryd.prog 10 [.str kS] h (.tup [.agg (cat b1 kA), .int .i64 0]) := by
  have := parse_ok kS _ _ true _ _ (by decide) k_cut k_front k_back (by decide) (by decide +kernel) (by rw [k_full]; exact k_text) h
  rw [k_full] at this
  exact this

theorem kA_is : isA kA := by decide
theorem kB_is : isA kB := by decide
theorem zA_is : isA zeroA := by decide
theorem allA_is : isA allA := by decide
theorem k_node (h : AHeap) : PureA Tryd.prog 21 [.agg (cat b1 kA)] h (.tup [.int .i64 2, .int .i64 0]) := by
  have := nodeA_spec kA kA_is h
  unfold nodeV at this
  rw [if_pos (by decide +kernel)] at this
  exact this
theorem k_textB (h : AHeap) : PureA Tryd.prog 11 [.agg (cat b1 kB)] h (.str (ByteArray.mk (Array.mk [49, 58, 48, 58, 48, 58, 50, 58, 58, 51]))) := by
  have := text_spec kB kB_is h
  rw [show strOfNums (textL kB) = ByteArray.mk (Array.mk [49, 58, 48, 58, 48, 58, 50, 58, 58, 51]) from by decide +kernel] at this
  exact this
theorem k_textZ (h : AHeap) : PureA Tryd.prog 11 [.agg (cat b1 zeroA)] h (.str (ByteArray.mk (Array.mk [58, 58]))) := by
  have := text_spec zeroA zA_is h
  rw [show strOfNums (textL zeroA) = ByteArray.mk (Array.mk [58, 58]) from by decide +kernel] at this
  exact this
theorem k_textAll (h : AHeap) : PureA Tryd.prog 11 [.agg (cat b1 allA)] h (.str (ByteArray.mk (Array.mk [102, 102, 48, 50, 58, 58, 49, 97]))) := by
  have := text_spec allA allA_is h
  rw [show strOfNums (textL allA) = ByteArray.mk (Array.mk [102, 102, 48, 50, 58, 58, 49, 97]) from by decide +kernel] at this
  exact this

set_option maxHeartbeats 2000000 in
/-- The chapter's examples. -/
theorem known_spec (h : AHeap) : PureA Tryd.prog 14 [] h (.bool true) := by
  have o : ∀ h, PureA Tryd.prog 9 [.ro [.int .i64 1, .int .i64 0, .int .i64 0, .int .i64 2, .int .i64 0, .int .i64 0, .int .i64 0, .int .i64 3] 8 true] h (.tup [.agg (cat b1 kB), .int .i64 0]) :=
    fun h => of8 [1, 0, 0, 2, 0, 0, 0, 3] (by decide) true h (by decide)
  have z : ∀ h, PureA Tryd.prog 11 [.agg [.int .u8 0, .int .u8 0, .int .u8 0, .int .u8 0, .int .u8 0, .int .u8 0, .int .u8 0, .int .u8 0, .int .u8 0, .int .u8 0, .int .u8 0, .int .u8 0, .int .u8 0, .int .u8 0, .int .u8 0, .int .u8 0]] h (.str (ByteArray.mk (Array.mk [58, 58]))) := k_textZ
  (refine PureA.enter (ac := c14) (rs := r14) Tryd.func14 rfl (by decide) c14_ok r14_ok ?_; intro Q hQ; simp only [go_sem, Int.reduceEq, Int.reduceAdd, Int.reduceSub, Int.reduceMul, Nat.reduceLT, Int.reduceLT, Int.reduceLE, Int.reduceToNat, Nat.reduceAdd, Nat.reduceSub, Nat.reduceMul, Nat.reduceLeDiff, reduceCtorEq, c14, Tryd.ntmps14])
  refine (k_parse _).use ?_
  simp only [go_sem, Int.reduceEq, Int.reduceAdd, Int.reduceSub, Int.reduceMul, Nat.reduceLT, Int.reduceLT, Int.reduceLE, Int.reduceToNat, Nat.reduceAdd, Nat.reduceSub, Nat.reduceMul, Nat.reduceLeDiff, reduceCtorEq, kA_cells]
  intro p hp
  simp only [go_sem, Int.reduceEq, Int.reduceAdd, Int.reduceSub, Int.reduceMul, Nat.reduceLT, Int.reduceLT, Int.reduceLE, Int.reduceToNat, Nat.reduceAdd, Nat.reduceSub, Nat.reduceMul, Nat.reduceLeDiff, reduceCtorEq, del_same, del_none hp, ← kA_cells]
  refine (k_node _).use ?_
  simp only [go_sem, Int.reduceEq, Int.reduceAdd, Int.reduceSub, Int.reduceMul, Nat.reduceLT, Int.reduceLT, Int.reduceLE, Int.reduceToNat, Nat.reduceAdd, Nat.reduceSub, Nat.reduceMul, Nat.reduceLeDiff, reduceCtorEq]
  refine (o _).use ?_
  simp only [go_sem, Int.reduceEq, Int.reduceAdd, Int.reduceSub, Int.reduceMul, Nat.reduceLT, Int.reduceLT, Int.reduceLE, Int.reduceToNat, Nat.reduceAdd, Nat.reduceSub, Nat.reduceMul, Nat.reduceLeDiff, reduceCtorEq, kB_cells]
  intro q hq
  simp only [go_sem, Int.reduceEq, Int.reduceAdd, Int.reduceSub, Int.reduceMul, Nat.reduceLT, Int.reduceLT, Int.reduceLE, Int.reduceToNat, Nat.reduceAdd, Nat.reduceSub, Nat.reduceMul, Nat.reduceLeDiff, reduceCtorEq, del_same, del_none hq, ← kB_cells]
  refine (k_textB _).use ?_
  simp only [go_sem, Int.reduceEq, Int.reduceAdd, Int.reduceSub, Int.reduceMul, Nat.reduceLT, Int.reduceLT, Int.reduceLE, Int.reduceToNat, Nat.reduceAdd, Nat.reduceSub, Nat.reduceMul, Nat.reduceLeDiff, reduceCtorEq, beq_self_eq_true]
  refine (z _).use ?_
  simp only [go_sem, Int.reduceEq, Int.reduceAdd, Int.reduceSub, Int.reduceMul, Nat.reduceLT, Int.reduceLT, Int.reduceLE, Int.reduceToNat, Nat.reduceAdd, Nat.reduceSub, Nat.reduceMul, Nat.reduceLeDiff, reduceCtorEq, beq_self_eq_true]
  refine (all_spec _).use ?_
  simp only [go_sem, Int.reduceEq, Int.reduceAdd, Int.reduceSub, Int.reduceMul, Nat.reduceLT, Int.reduceLT, Int.reduceLE, Int.reduceToNat, Nat.reduceAdd, Nat.reduceSub, Nat.reduceMul, Nat.reduceLeDiff, reduceCtorEq]
  refine (k_textAll _).use ?_
  simp only [go_sem, Int.reduceEq, Int.reduceAdd, Int.reduceSub, Int.reduceMul, Nat.reduceLT, Int.reduceLT, Int.reduceLE, Int.reduceToNat, Nat.reduceAdd, Nat.reduceSub, Nat.reduceMul, Nat.reduceLeDiff, reduceCtorEq, beq_self_eq_true]
  (refine hQ _ _ _ _ _ (by first | exact .inr rfl | exact .inl rfl) rfl (by first | exact FzH.refl _ | exact FzH.sub (by (repeat' (first | exact Sub.refl _ | assumption | (refine Sub.upd ?_ (by first | assumption | (simp only [*]; done) | exact Sub.isNone (by assumption) (by assumption) | exact Sub.isNone (by assumption) (by simp only [*]))))))) (FzL.refl _ _ _) ?_; try (simp only [go_sem, Int.reduceEq, Int.reduceAdd, Int.reduceSub, Int.reduceMul, Nat.reduceLT, Int.reduceLT, Int.reduceLE, Int.reduceToNat, Nat.reduceAdd, Nat.reduceSub, Nat.reduceMul, Nat.reduceLeDiff, reduceCtorEq]))

end Go.Proofs.YtdlghfekgecjjaaDoor
