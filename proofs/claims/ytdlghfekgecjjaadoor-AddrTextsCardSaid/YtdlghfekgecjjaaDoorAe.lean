/-
  addr.cut, Right, Cut, Has: contracts.
-/
import Derived.Test.YtdlghfekgecjjaaDoorAd
import Derived.Test.YtdlghfekgecjjaaDoorC2
namespace Go.Proofs.YtdlghfekgecjjaaDoor
open Go E
set_option linter.unusedVariables false
set_option linter.unusedSimpArgs false
set_option maxRecDepth 100000

/-- A byte's first k bits. -/
def cutB (x : Int) (k : Int) : Int := x - x % 2 ^ (8 - k).toNat
def keepI (n c : Int) : Int := if 8 < (if n - c < 0 then 0 else n - c) then 8 else (if n - c < 0 then 0 else n - c)
theorem keep_bound (n c : Int) : 0 ≤ keepI n c ∧ keepI n c ≤ 8 := by unfold keepI; split <;> split <;> omega
def mk8 (k : Int) : Int := 65280 / 2 ^ k.toNat
theorem shrK {k : Int} (h0 : 0 ≤ k) (h1 : k ≤ 8) : binA .shr (.int .i64 65280) (.int .i64 k) = some (.int .i64 (mk8 k)) := by
  obtain ⟨m, rfl⟩ := Int.eq_ofNat_of_zero_le h0
  have e : ¬ ((m : Int) < 0) := by omega
  have e2 : min (m : Int).toNat 64 = m := by simp; omega
  show (if ((m : Int) < 0) then none else some (AV.int .i64 ((65280 : Int).fdiv (2 ^ (min (m : Int).toNat 64))))) = _
  rw [if_neg e, e2]
  rfl
theorem andK_nat : ∀ k : Nat, k < 9 → ∀ m : Nat, m < 256 → ((BitVec.ofInt 8 (m : Int) &&& BitVec.ofInt 8 (mk8 (k : Int) % 256)).toNat : Int) = cutB (m : Int) (k : Int) ∧ 0 ≤ cutB (m : Int) (k : Int) ∧ cutB (m : Int) (k : Int) ≤ 255 := by decide +kernel
theorem cutB_bound {x k : Int} (hx : 0 ≤ x ∧ x ≤ 255) (hk : 0 ≤ k ∧ k ≤ 8) : 0 ≤ cutB x k ∧ cutB x k ≤ 255 := by
  obtain ⟨m, rfl⟩ := Int.eq_ofNat_of_zero_le hx.1
  obtain ⟨n, rfl⟩ := Int.eq_ofNat_of_zero_le hk.1
  exact (andK_nat n (by omega) m (by omega)).2
theorem andK {x k : Int} (hx : 0 ≤ x ∧ x ≤ 255) (hk : 0 ≤ k ∧ k ≤ 8) : binA .and (.int .u8 x) (.int .u8 (mk8 k % 256)) = some (.int .u8 (cutB x k)) := by
  have hb := cutB_bound hx hk
  obtain ⟨m, rfl⟩ := Int.eq_ofNat_of_zero_le hx.1
  obtain ⟨n, rfl⟩ := Int.eq_ofNat_of_zero_le hk.1
  show some (AV.int .u8 (IntKind.u8.wrap ((BitVec.ofInt 8 (m : Int) &&& BitVec.ofInt 8 (mk8 (n : Int) % 256)).toNat : Int))) = _
  rw [(andK_nat n (by omega) m (by omega)).1, w8]
  congr 2
  omega

def cutL (a : List Int) (n : Int) : List Int := (List.range 16).map fun i => cutB (a.getD i 0) (keepI n (8 * i))
theorem cutL_is {a : List Int} (ha : isA a) (n : Int) : isA (cutL a n) := by
  refine ⟨by simp [cutL], fun x hx => ?_⟩
  obtain ⟨i, hi, rfl⟩ := List.mem_map.1 hx
  have hi16 : i < a.length := by rw [ha.1]; simpa using hi
  have : a.getD i 0 = a[i] := by simp [hi16]
  rw [this]
  exact cutB_bound (ha.2 _ (List.getElem_mem hi16)) (keep_bound _ _)

set_option maxHeartbeats 8000000 in
theorem cut_specA (a : List Int) (ha : isA a) (n : Int) (h0 : 0 ≤ n) (h1 : n ≤ 128) (h : AHeap) : PureA Tryd.prog 36 [.agg (cat b1 a), .int .i64 n] h (.agg (cat b1 (cutL a n))) := by
  obtain ⟨x0, x1, x2, x3, x4, x5, x6, x7, x8, x9, x10, x11, x12, x13, x14, x15, rfl⟩ := len16 ha.1
  have hb := ha.2
  simp only [List.mem_cons, List.mem_nil_iff, or_false, forall_eq_or_imp, forall_eq] at hb
  obtain ⟨k0, k1, k2, k3, k4, k5, k6, k7, k8, k9, k10, k11, k12, k13, k14, k15⟩ := hb
  have hw : ∀ {c : Int}, (decide (0 ≤ c) && decide (c ≤ 128)) = true → IntKind.i64.wrap (n - c) = n - c := fun hc => by
    simp only [Bool.and_eq_true, decide_eq_true_eq] at hc
    exact w64 (by omega) (by omega)
  have hkp : ∀ c : Int, (if 8 < (if n - c < 0 then 0 else n - c) then 8 else (if n - c < 0 then 0 else n - c)) = keepI n c := fun c => rfl
  have hsh : ∀ c : Int, binA .shr (.int .i64 65280) (.int .i64 (keepI n c)) = some (.int .i64 (mk8 (keepI n c))) := fun c => shrK (keep_bound n c).1 (keep_bound n c).2
  have han : ∀ {x : Int} (c : Int), 0 ≤ x ∧ x ≤ 255 → binA .and (.int .u8 x) (.int .u8 (mk8 (keepI n c) % 256)) = some (.int .u8 (cutB x (keepI n c))) := fun c hx => andK hx (keep_bound n c)
  (refine PureA.enter (ac := c36) (rs := r36) Tryd.func36 rfl (by decide) c36_ok r36_ok ?_; intro Q hQ; simp only [go_sem, Int.reduceEq, Int.reduceAdd, Int.reduceSub, Int.reduceMul, Nat.reduceLT, Int.reduceLT, Int.reduceLE, Int.reduceToNat, Nat.reduceAdd, Nat.reduceSub, Nat.reduceMul, Nat.reduceLeDiff, reduceCtorEq, c36, Tryd.ntmps36, catb16])
  intro p hp q hq
  obtain ⟨hpq, hq2⟩ := two_ne hq
  have hqp : q ≠ p := fun e => hpq e.symm
  refine loop_n 17 ?_
  simp only [go_sem, Int.reduceEq, Int.reduceAdd, Int.reduceSub, Int.reduceMul, Nat.reduceLT, Int.reduceLT, Int.reduceLE, Int.reduceToNat, Nat.reduceAdd, Nat.reduceSub, Nat.reduceMul, Nat.reduceLeDiff, reduceCtorEq, loopN_succ, wl, hw, hkp, hsh, w8, decide_true, Bool.and_self, upd_ne hpq, upd_ne hqp, han _ k0, han _ k1, han _ k2, han _ k3, han _ k4, han _ k5, han _ k6, han _ k7, han _ k8, han _ k9, han _ k10, han _ k11, han _ k12, han _ k13, han _ k14, han _ k15]
  refine frz_id ?_
  simp only [go_sem, Int.reduceEq, Int.reduceAdd, Int.reduceSub, Int.reduceMul, Nat.reduceLT, Int.reduceLT, Int.reduceLE, Int.reduceToNat, Nat.reduceAdd, Nat.reduceSub, Nat.reduceMul, Nat.reduceLeDiff, reduceCtorEq, upd_ne hpq, upd_ne hqp]
  refine hQ _ _ _ _ _ (by first | exact .inr rfl | exact .inl rfl) rfl (FzH.sub (Sub.del0 hq2 (by (repeat' (first | exact Sub.refl _ | assumption | (refine Sub.upd ?_ (by first | assumption | (simp only [*]; done) | exact Sub.isNone (by assumption) (by assumption) | exact Sub.isNone (by assumption) (by simp only [*])))))))) (FzL.refl _ _ _) ?_
  simp only [go_sem, Int.reduceEq, Int.reduceAdd, Int.reduceSub, Int.reduceMul, Nat.reduceLT, Int.reduceLT, Int.reduceLE, Int.reduceToNat, Nat.reduceAdd, Nat.reduceSub, Nat.reduceMul, Nat.reduceLeDiff, reduceCtorEq]
  rfl

theorem bits_spec (n : Int) (h : AHeap) : PureA Tryd.prog 35 [.int .i64 n] h (.bool (decide (0 ≤ n) && decide (n ≤ 128))) := by
  (refine PureA.enter (ac := c35) (rs := r35) Tryd.func35 rfl (by decide) c35_ok r35_ok ?_; intro Q hQ; simp only [go_sem, Int.reduceEq, Int.reduceAdd, Int.reduceSub, Int.reduceMul, Nat.reduceLT, Int.reduceLT, Int.reduceLE, Int.reduceToNat, Nat.reduceAdd, Nat.reduceSub, Nat.reduceMul, Nat.reduceLeDiff, reduceCtorEq, c35, Tryd.ntmps35])
  by_cases e : 0 ≤ n
  · have e1 : decide (0 ≤ n) = true := decide_eq_true e
    simp only [go_sem, Int.reduceEq, Int.reduceAdd, Int.reduceSub, Int.reduceMul, Nat.reduceLT, Int.reduceLT, Int.reduceLE, Int.reduceToNat, Nat.reduceAdd, Nat.reduceSub, Nat.reduceMul, Nat.reduceLeDiff, reduceCtorEq, e1]
    (refine hQ _ _ _ _ _ (by first | exact .inr rfl | exact .inl rfl) rfl (by first | exact FzH.refl _ | exact FzH.sub (by (repeat' (first | exact Sub.refl _ | assumption | (refine Sub.upd ?_ (by first | assumption | (simp only [*]; done) | exact Sub.isNone (by assumption) (by assumption) | exact Sub.isNone (by assumption) (by simp only [*]))))))) (FzL.refl _ _ _) ?_; try (simp only [go_sem, Int.reduceEq, Int.reduceAdd, Int.reduceSub, Int.reduceMul, Nat.reduceLT, Int.reduceLT, Int.reduceLE, Int.reduceToNat, Nat.reduceAdd, Nat.reduceSub, Nat.reduceMul, Nat.reduceLeDiff, reduceCtorEq]))
    simp [e]
  · have e1 : decide (0 ≤ n) = false := decide_eq_false e
    simp only [go_sem, Int.reduceEq, Int.reduceAdd, Int.reduceSub, Int.reduceMul, Nat.reduceLT, Int.reduceLT, Int.reduceLE, Int.reduceToNat, Nat.reduceAdd, Nat.reduceSub, Nat.reduceMul, Nat.reduceLeDiff, reduceCtorEq, e1]
    (refine hQ _ _ _ _ _ (by first | exact .inr rfl | exact .inl rfl) rfl (by first | exact FzH.refl _ | exact FzH.sub (by (repeat' (first | exact Sub.refl _ | assumption | (refine Sub.upd ?_ (by first | assumption | (simp only [*]; done) | exact Sub.isNone (by assumption) (by assumption) | exact Sub.isNone (by assumption) (by simp only [*]))))))) (FzL.refl _ _ _) ?_; try (simp only [go_sem, Int.reduceEq, Int.reduceAdd, Int.reduceSub, Int.reduceMul, Nat.reduceLT, Int.reduceLT, Int.reduceLE, Int.reduceToNat, Nat.reduceAdd, Nat.reduceSub, Nat.reduceMul, Nat.reduceLeDiff, reduceCtorEq]))
    simp [e]

def pfx (a : List Int) (n : Int) : List AV := cat b1 a ++ [.int .i64 n]
def rightB (a : List Int) (n : Int) : Bool := decide (0 ≤ n) && decide (n ≤ 128) && decide (cutL a n = a)

theorem catb_eq {a b : List Int} (h : cat b1 a = cat b1 b) : a = b := by
  induction a generalizing b with
  | nil => cases b with
    | nil => rfl
    | cons y b => exact absurd (congrArg List.length h) (by simp [cat_len b1_len])
  | cons x a ih => cases b with
    | nil => exact absurd (congrArg List.length h) (by simp [cat_len b1_len])
    | cons y b =>
      have h' : AV.int .u8 x :: cat b1 a = AV.int .u8 y :: cat b1 b := h
      injection h' with h1 h2
      injection h1 with _ h1
      rw [h1, ih h2]
theorem eqCells_b : ∀ (a b : List Int), a.length = b.length → eqCells (List.replicate a.length .i) (cat b1 a) (cat b1 b) = some (decide (a = b))
  | [], [], _ => rfl
  | x :: a, y :: b, h => by
    have ih := eqCells_b a b (by simpa using h)
    have e1 : cat b1 (x :: a) = .int .u8 x :: cat b1 a := rfl
    have e2 : cat b1 (y :: b) = .int .u8 y :: cat b1 b := rfl
    rw [e1, e2]
    simp only [List.length_cons, List.replicate_succ, eqCells, eqCell, if_true, ih]
    congr 1
    by_cases h1 : x = y <;> by_cases h2 : a = b <;> simp [h1, h2]
theorem eq16 {a b : List Int} (ha : a.length = 16) (hb : b.length = 16) : eqCells [.i, .i, .i, .i, .i, .i, .i, .i, .i, .i, .i, .i, .i, .i, .i, .i] (cat b1 a) (cat b1 b) = some (decide (a = b)) := by
  have := eqCells_b a b (by omega)
  rw [ha] at this
  exact this

theorem pfx_len {a : List Int} {n : Int} (ha : a.length = 16) : (pfx a n).length = 17 := by simp [pfx, cat_len b1_len, ha]
theorem pfx_take {a : List Int} {n : Int} (ha : a.length = 16) : (pfx a n).take 16 = cat b1 a := by
  have hl := cat_len b1_len a
  rw [pfx, List.take_append_of_le_length (by omega), List.take_of_length_le (by omega)]
theorem pfx_drop {a : List Int} {n : Int} (ha : a.length = 16) : (pfx a n).drop 16 = [.int .i64 n] := by
  have hl := cat_len b1_len a
  rw [pfx, List.drop_append, List.drop_of_length_le (by omega), show 16 - (cat b1 a).length = 0 by omega]
  rfl
theorem pfx_at {a : List Int} {n : Int} (ha : a.length = 16) : (pfx a n)[16]? = some (.int .i64 n) := by
  have := pfx_drop (n := n) ha
  have e : ((pfx a n).drop 16)[0]? = (pfx a n)[16]? := by rw [List.getElem?_drop]
  rw [← e, this]; rfl

theorem right_spec (a : List Int) (ha : isA a) (n : Int) (h : AHeap) : PureA Tryd.prog 17 [.agg (pfx a n)] h (.bool (rightB a n)) := by
  have l17 := pfx_len (n := n) ha.1
  have t16 := pfx_take (n := n) ha.1
  have d16 := pfx_drop (n := n) ha.1
  have lc : (cutL a n).length = 16 := (cutL_is ha n).1
  (refine PureA.enter (ac := c17) (rs := r17) Tryd.func17 rfl (by decide) c17_ok r17_ok ?_; intro Q hQ; simp only [go_sem, Int.reduceEq, Int.reduceAdd, Int.reduceSub, Int.reduceMul, Nat.reduceLT, Int.reduceLT, Int.reduceLE, Int.reduceToNat, Nat.reduceAdd, Nat.reduceSub, Nat.reduceMul, Nat.reduceLeDiff, reduceCtorEq, c17, Tryd.ntmps17, d16])
  refine (bits_spec _ _).use ?_
  cases e : (decide (0 ≤ n) && decide (n ≤ 128))
  · simp only [go_sem, Int.reduceEq, Int.reduceAdd, Int.reduceSub, Int.reduceMul, Nat.reduceLT, Int.reduceLT, Int.reduceLE, Int.reduceToNat, Nat.reduceAdd, Nat.reduceSub, Nat.reduceMul, Nat.reduceLeDiff, reduceCtorEq]
    (refine hQ _ _ _ _ _ (by first | exact .inr rfl | exact .inl rfl) rfl (by first | exact FzH.refl _ | exact FzH.sub (by (repeat' (first | exact Sub.refl _ | assumption | (refine Sub.upd ?_ (by first | assumption | (simp only [*]; done) | exact Sub.isNone (by assumption) (by assumption) | exact Sub.isNone (by assumption) (by simp only [*]))))))) (FzL.refl _ _ _) ?_; try (simp only [go_sem, Int.reduceEq, Int.reduceAdd, Int.reduceSub, Int.reduceMul, Nat.reduceLT, Int.reduceLT, Int.reduceLE, Int.reduceToNat, Nat.reduceAdd, Nat.reduceSub, Nat.reduceMul, Nat.reduceLeDiff, reduceCtorEq]))
    simp [rightB, e]
  · have e2 := e
    simp only [Bool.and_eq_true, decide_eq_true_eq] at e2
    simp only [go_sem, Int.reduceEq, Int.reduceAdd, Int.reduceSub, Int.reduceMul, Nat.reduceLT, Int.reduceLT, Int.reduceLE, Int.reduceToNat, Nat.reduceAdd, Nat.reduceSub, Nat.reduceMul, Nat.reduceLeDiff, reduceCtorEq, t16, d16, l17]
    refine (cut_specA a ha n e2.1 e2.2 _).use ?_
    simp only [go_sem, Int.reduceEq, Int.reduceAdd, Int.reduceSub, Int.reduceMul, Nat.reduceLT, Int.reduceLT, Int.reduceLE, Int.reduceToNat, Nat.reduceAdd, Nat.reduceSub, Nat.reduceMul, Nat.reduceLeDiff, reduceCtorEq, eq16 lc ha.1]
    refine ⟨by rw [l17, t16]; rfl, ?_⟩
    (refine hQ _ _ _ _ _ (by first | exact .inr rfl | exact .inl rfl) rfl (by first | exact FzH.refl _ | exact FzH.sub (by (repeat' (first | exact Sub.refl _ | assumption | (refine Sub.upd ?_ (by first | assumption | (simp only [*]; done) | exact Sub.isNone (by assumption) (by assumption) | exact Sub.isNone (by assumption) (by simp only [*]))))))) (FzL.refl _ _ _) ?_; try (simp only [go_sem, Int.reduceEq, Int.reduceAdd, Int.reduceSub, Int.reduceMul, Nat.reduceLT, Int.reduceLT, Int.reduceLE, Int.reduceToNat, Nat.reduceAdd, Nat.reduceSub, Nat.reduceMul, Nat.reduceLeDiff, reduceCtorEq]))
    simp [rightB, e]

/-- addr.Cut. -/
def cutV (a : List Int) (n : Int) : AV := if decide (0 ≤ n) && decide (n ≤ 128) then .tup [.agg (pfx (cutL a n) n), .int .i64 0] else .tup [.agg (pfx zeroA 0), .int .i64 1]
theorem cutp_spec (a : List Int) (ha : isA a) (n : Int) (h : AHeap) : PureA Tryd.prog 16 [.agg (cat b1 a), .int .i64 n] h (cutV a n) := by
  have la : (cat b1 a).length = 16 := by rw [cat_len b1_len, ha.1]
  have ta : (cat b1 a).take 16 = cat b1 a := List.take_of_length_le (by omega)
  have lc : (cat b1 (cutL a n)).length = 16 := by rw [cat_len b1_len, (cutL_is ha n).1]
  have ls : (pfx (cutL a n) n).length = 17 := pfx_len (cutL_is ha n).1
  have lsc : (pfx (cutL a n) n).all scalar = true := by rw [pfx, List.all_append, cat_sca b1_sca]; rfl
  have p1 : (cat b1 (cutL a n) ++ [AV.int .i64 n]) = pfx (cutL a n) n := rfl
  (refine PureA.enter (ac := c16) (rs := r16) Tryd.func16 rfl (by decide) c16_ok r16_ok ?_; intro Q hQ; simp only [go_sem, Int.reduceEq, Int.reduceAdd, Int.reduceSub, Int.reduceMul, Nat.reduceLT, Int.reduceLT, Int.reduceLE, Int.reduceToNat, Nat.reduceAdd, Nat.reduceSub, Nat.reduceMul, Nat.reduceLeDiff, reduceCtorEq, c16, Tryd.ntmps16])
  intro p hp
  refine (bits_spec _ _).use ?_
  cases e : (decide (0 ≤ n) && decide (n ≤ 128))
  · simp only [go_sem, Int.reduceEq, Int.reduceAdd, Int.reduceSub, Int.reduceMul, Nat.reduceLT, Int.reduceLT, Int.reduceLE, Int.reduceToNat, Nat.reduceAdd, Nat.reduceSub, Nat.reduceMul, Nat.reduceLeDiff, reduceCtorEq]
    refine hQ _ _ _ _ _ (by first | exact .inr rfl | exact .inl rfl) (by first | rfl | (simp only [go_sem, Int.reduceEq, Int.reduceAdd, Int.reduceSub, Int.reduceMul, Nat.reduceLT, Int.reduceLT, Int.reduceLE, Int.reduceToNat, Nat.reduceAdd, Nat.reduceSub, Nat.reduceMul, Nat.reduceLeDiff, reduceCtorEq, r16]; rfl) | simp only [go_sem, Int.reduceEq, Int.reduceAdd, Int.reduceSub, Int.reduceMul, Nat.reduceLT, Int.reduceLT, Int.reduceLE, Int.reduceToNat, Nat.reduceAdd, Nat.reduceSub, Nat.reduceMul, Nat.reduceLeDiff, reduceCtorEq, r16]) (FzH.sub (by (repeat' (first | exact Sub.refl _ | assumption | (refine Sub.upd ?_ (by first | assumption | (simp only [*]; done) | exact Sub.isNone (by assumption) (by assumption) | exact Sub.isNone (by assumption) (by simp only [*]))))))) (FzL.refl _ _ _) ?_
    simp only [go_sem, Int.reduceEq, Int.reduceAdd, Int.reduceSub, Int.reduceMul, Nat.reduceLT, Int.reduceLT, Int.reduceLE, Int.reduceToNat, Nat.reduceAdd, Nat.reduceSub, Nat.reduceMul, Nat.reduceLeDiff, reduceCtorEq, cutV, e, Bool.false_eq_true, if_false]
    rfl
  · have e2 := e
    simp only [Bool.and_eq_true, decide_eq_true_eq] at e2
    simp only [go_sem, Int.reduceEq, Int.reduceAdd, Int.reduceSub, Int.reduceMul, Nat.reduceLT, Int.reduceLT, Int.reduceLE, Int.reduceToNat, Nat.reduceAdd, Nat.reduceSub, Nat.reduceMul, Nat.reduceLeDiff, reduceCtorEq, la, ta, Nat.le_refl, if_true]
    refine (cut_specA a ha n e2.1 e2.2 _).use ?_
    have hfill : (if 17 ≤ (cat b1 (cutL a n) ++ [AV.int .i64 0]).length then some (List.take 16 (cat b1 (cutL a n) ++ [AV.int .i64 0]) ++ [AV.int .i64 n] ++ List.drop 17 (cat b1 (cutL a n) ++ [AV.int .i64 0])) else none) = some (pfx (cutL a n) n) := by
      have l1 : (cat b1 (cutL a n) ++ [AV.int .i64 0]).length = 17 := by simp [lc]
      rw [if_pos (by omega), List.take_append_of_le_length (by omega), List.take_of_length_le (by omega), List.drop_of_length_le (by omega), List.append_nil]
      rfl
    have tk : (pfx (cutL a n) n).take 17 = pfx (cutL a n) n := List.take_of_length_le (by omega)
    simp only [go_sem, Int.reduceEq, Int.reduceAdd, Int.reduceSub, Int.reduceMul, Nat.reduceLT, Int.reduceLT, Int.reduceLE, Int.reduceToNat, Nat.reduceAdd, Nat.reduceSub, Nat.reduceMul, Nat.reduceLeDiff, reduceCtorEq, lc, hfill, ls, lsc, Nat.le_refl, if_true]
    refine hQ _ _ _ _ _ (by first | exact .inr rfl | exact .inl rfl) (by first | rfl | (simp only [go_sem, Int.reduceEq, Int.reduceAdd, Int.reduceSub, Int.reduceMul, Nat.reduceLT, Int.reduceLT, Int.reduceLE, Int.reduceToNat, Nat.reduceAdd, Nat.reduceSub, Nat.reduceMul, Nat.reduceLeDiff, reduceCtorEq, r16, ls, tk, Nat.le_refl, if_true]; rfl) | simp only [go_sem, Int.reduceEq, Int.reduceAdd, Int.reduceSub, Int.reduceMul, Nat.reduceLT, Int.reduceLT, Int.reduceLE, Int.reduceToNat, Nat.reduceAdd, Nat.reduceSub, Nat.reduceMul, Nat.reduceLeDiff, reduceCtorEq, r16, ls, tk, Nat.le_refl, if_true]) (FzH.sub (by (repeat' (first | exact Sub.refl _ | assumption | (refine Sub.upd ?_ (by first | assumption | (simp only [*]; done) | exact Sub.isNone (by assumption) (by assumption) | exact Sub.isNone (by assumption) (by simp only [*]))))))) (FzL.refl _ _ _) ?_
    simp only [go_sem, Int.reduceEq, Int.reduceAdd, Int.reduceSub, Int.reduceMul, Nat.reduceLT, Int.reduceLT, Int.reduceLE, Int.reduceToNat, Nat.reduceAdd, Nat.reduceSub, Nat.reduceMul, Nat.reduceLeDiff, reduceCtorEq, cutV, e, if_true]

/-- addr.Has. -/
def hasB (p : List Int) (n : Int) (a : List Int) : Bool := rightB p n && decide (cutL a n = p)
theorem has_spec (p : List Int) (hp : isA p) (n : Int) (a : List Int) (ha : isA a) (h : AHeap) : PureA Tryd.prog 18 [.agg (pfx p n), .agg (cat b1 a)] h (.bool (hasB p n a)) := by
  have la : (cat b1 a).length = 16 := by rw [cat_len b1_len, ha.1]
  have ta : (cat b1 a).take 16 = cat b1 a := List.take_of_length_le (by omega)
  have l17 := pfx_len (n := n) hp.1
  have t17 : (pfx p n).take 17 = pfx p n := List.take_of_length_le (by omega)
  have t16 := pfx_take (n := n) hp.1
  have d16 := pfx_drop (n := n) hp.1
  have lc : (cutL a n).length = 16 := (cutL_is ha n).1
  (refine PureA.enter (ac := c18) (rs := r18) Tryd.func18 rfl (by decide) c18_ok r18_ok ?_; intro Q hQ; simp only [go_sem, Int.reduceEq, Int.reduceAdd, Int.reduceSub, Int.reduceMul, Nat.reduceLT, Int.reduceLT, Int.reduceLE, Int.reduceToNat, Nat.reduceAdd, Nat.reduceSub, Nat.reduceMul, Nat.reduceLeDiff, reduceCtorEq, c18, Tryd.ntmps18, l17, t17, Nat.le_refl, if_true])
  refine (right_spec p hp n _).use ?_
  cases e : rightB p n
  · simp only [go_sem, Int.reduceEq, Int.reduceAdd, Int.reduceSub, Int.reduceMul, Nat.reduceLT, Int.reduceLT, Int.reduceLE, Int.reduceToNat, Nat.reduceAdd, Nat.reduceSub, Nat.reduceMul, Nat.reduceLeDiff, reduceCtorEq]
    (refine hQ _ _ _ _ _ (by first | exact .inr rfl | exact .inl rfl) rfl (by first | exact FzH.refl _ | exact FzH.sub (by (repeat' (first | exact Sub.refl _ | assumption | (refine Sub.upd ?_ (by first | assumption | (simp only [*]; done) | exact Sub.isNone (by assumption) (by assumption) | exact Sub.isNone (by assumption) (by simp only [*]))))))) (FzL.refl _ _ _) ?_; try (simp only [go_sem, Int.reduceEq, Int.reduceAdd, Int.reduceSub, Int.reduceMul, Nat.reduceLT, Int.reduceLT, Int.reduceLE, Int.reduceToNat, Nat.reduceAdd, Nat.reduceSub, Nat.reduceMul, Nat.reduceLeDiff, reduceCtorEq]))
    simp [hasB, e]
  · have e2 := e
    simp only [rightB, Bool.and_eq_true, decide_eq_true_eq] at e2
    simp only [go_sem, Int.reduceEq, Int.reduceAdd, Int.reduceSub, Int.reduceMul, Nat.reduceLT, Int.reduceLT, Int.reduceLE, Int.reduceToNat, Nat.reduceAdd, Nat.reduceSub, Nat.reduceMul, Nat.reduceLeDiff, reduceCtorEq, t16, d16, l17, la, ta, Nat.le_refl, if_true]
    refine (cut_specA a ha n e2.1.1 e2.1.2 _).use ?_
    simp only [go_sem, Int.reduceEq, Int.reduceAdd, Int.reduceSub, Int.reduceMul, Nat.reduceLT, Int.reduceLT, Int.reduceLE, Int.reduceToNat, Nat.reduceAdd, Nat.reduceSub, Nat.reduceMul, Nat.reduceLeDiff, reduceCtorEq, eq16 lc hp.1]
    refine ⟨by rw [l17, t16]; rfl, ?_⟩
    (refine hQ _ _ _ _ _ (by first | exact .inr rfl | exact .inl rfl) rfl (by first | exact FzH.refl _ | exact FzH.sub (by (repeat' (first | exact Sub.refl _ | assumption | (refine Sub.upd ?_ (by first | assumption | (simp only [*]; done) | exact Sub.isNone (by assumption) (by assumption) | exact Sub.isNone (by assumption) (by simp only [*]))))))) (FzL.refl _ _ _) ?_; try (simp only [go_sem, Int.reduceEq, Int.reduceAdd, Int.reduceSub, Int.reduceMul, Nat.reduceLT, Int.reduceLT, Int.reduceLE, Int.reduceToNat, Nat.reduceAdd, Nat.reduceSub, Nat.reduceMul, Nat.reduceLeDiff, reduceCtorEq]))
    simp [hasB, e]

end Go.Proofs.YtdlghfekgecjjaaDoor
