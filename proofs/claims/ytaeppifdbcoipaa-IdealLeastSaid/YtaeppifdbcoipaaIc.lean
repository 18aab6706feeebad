/-
  links: contracts.
-/
import Derived.Test.YtaeppifdbcoipaaSo
import Derived.Test.YtaeppifdbcoipaaC5
import Derived.Test.YtaeppifdbcoipaaEX
namespace Go.Proofs.Ytaeppifdbcoipaa
open Go E
set_option linter.unusedVariables false
set_option linter.unusedSimpArgs false
set_option maxRecDepth 100000

abbrev Lk := List ((Int × Int) × Int)
def ewI (n : Int) : AV := .int .i64 n

/-- Links at x, their map at id. -/
structure LIn (x id : Nat) (n : Int) (f : Lk) (H : AHeap) : Prop where
  blk : H x = some (.cells [.int .i64 n, .map id] 2)
  map : ∃ es c, H id = some (.map es c) ∧ MapIs kI2 ewI es f
  ok : AKeys f

theorem LIn.sub {x id : Nat} {n : Int} {f : Lk} {H H' : AHeap} (h : LIn x id n f H) (s : Sub H H') : LIn x id n f H' := by
  obtain ⟨es, c, h1, h2⟩ := h.map
  exact ⟨s _ _ h.blk, ⟨es, c, s _ _ h1, h2⟩, h.ok⟩
theorem LIn.ne {x id : Nat} {n : Int} {f : Lk} {H : AHeap} (h : LIn x id n f H) : x ≠ id := by
  obtain ⟨es, c, h1, _⟩ := h.map
  rintro rfl
  rw [h.blk] at h1; cases h1

def ofP (a b : Int) : Int × Int := (min a b, max a b)

theorem kOf_spec (a b : Int) (h : AHeap) : PureA Try.prog 133 [.int .i64 a, .int .i64 b] h (kI2 (ofP a b)) := by
  (refine PureA.enter (ac := c133) (rs := r133) Try.func133 rfl (by decide) c133_ok r133_ok ?_; intro Q hQ; simp only [go_sem, Int.reduceEq, Int.reduceAdd, Int.reduceSub, Int.reduceMul, Nat.reduceLT, Int.reduceLT, Int.reduceLE, Int.reduceToNat, Nat.reduceAdd, Nat.reduceSub, Nat.reduceMul, Nat.reduceLeDiff, reduceCtorEq, c133, Try.ntmps133])
  intro p hp
  simp only [go_sem, Int.reduceEq, Int.reduceAdd, Int.reduceSub, Int.reduceMul, Nat.reduceLT, Int.reduceLT, Int.reduceLE, Int.reduceToNat, Nat.reduceAdd, Nat.reduceSub, Nat.reduceMul, Nat.reduceLeDiff, reduceCtorEq, if_min, if_max, del_same, del_none hp]
  (refine hQ _ _ _ _ _ (by first | exact .inr rfl | exact .inl rfl) rfl (by first | exact FzH.refl _ | exact FzH.sub (by (repeat' (first | exact Sub.refl _ | assumption | (refine Sub.upd ?_ (by first | assumption | (simp only [*]; done) | exact Sub.isNone (by assumption) (by assumption) | exact Sub.isNone (by assumption) (by simp only [*]))))))) (FzL.refl _ _ _) ?_; try (simp only [go_sem, Int.reduceEq, Int.reduceAdd, Int.reduceSub, Int.reduceMul, Nat.reduceLT, Int.reduceLT, Int.reduceLE, Int.reduceToNat, Nat.reduceAdd, Nat.reduceSub, Nat.reduceMul, Nat.reduceLeDiff, reduceCtorEq, kI2, ofP]))

theorem kNodes_spec {x id : Nat} {n : Int} {f : Lk} {H : AHeap} (k : LIn x id n f H) : PureA Try.prog 77 [.ptr x 0] H (.int .i64 n) := by
  (refine PureA.enter (ac := c77) (rs := r77) Try.func77 rfl (by decide) c77_ok r77_ok ?_; intro Q hQ; simp only [go_sem, Int.reduceEq, Int.reduceAdd, Int.reduceSub, Int.reduceMul, Nat.reduceLT, Int.reduceLT, Int.reduceLE, Int.reduceToNat, Nat.reduceAdd, Nat.reduceSub, Nat.reduceMul, Nat.reduceLeDiff, reduceCtorEq, c77, Try.ntmps77, k.blk])
  (refine hQ _ _ _ _ _ (by first | exact .inr rfl | exact .inl rfl) rfl (by first | exact FzH.refl _ | exact FzH.sub (by (repeat' (first | exact Sub.refl _ | assumption | (refine Sub.upd ?_ (by first | assumption | (simp only [*]; done) | exact Sub.isNone (by assumption) (by assumption) | exact Sub.isNone (by assumption) (by simp only [*]))))))) (FzL.refl _ _ _) ?_; try (simp only [go_sem, Int.reduceEq, Int.reduceAdd, Int.reduceSub, Int.reduceMul, Nat.reduceLT, Int.reduceLT, Int.reduceLE, Int.reduceToNat, Nat.reduceAdd, Nat.reduceSub, Nat.reduceMul, Nat.reduceLeDiff, reduceCtorEq]))

def inN (n a : Int) : Bool := decide (0 ≤ a ∧ a < n)

theorem knode_spec {x id : Nat} {n : Int} {f : Lk} {H : AHeap} (k : LIn x id n f H) (a : Int) : PureA Try.prog 162 [.ptr x 0, .int .i64 a] H (.bool (inN n a)) := by
  (refine PureA.enter (ac := c162) (rs := r162) Try.func162 rfl (by decide) c162_ok r162_ok ?_; intro Q hQ; simp only [go_sem, Int.reduceEq, Int.reduceAdd, Int.reduceSub, Int.reduceMul, Nat.reduceLT, Int.reduceLT, Int.reduceLE, Int.reduceToNat, Nat.reduceAdd, Nat.reduceSub, Nat.reduceMul, Nat.reduceLeDiff, reduceCtorEq, c162, Try.ntmps162])
  by_cases g1 : 0 ≤ a
  · have e : inN n a = decide (a < n) := by unfold inN; congr 1; exact propext ⟨fun h => h.2, fun h => ⟨g1, h⟩⟩
    simp only [go_sem, Int.reduceEq, Int.reduceAdd, Int.reduceSub, Int.reduceMul, Nat.reduceLT, Int.reduceLT, Int.reduceLE, Int.reduceToNat, Nat.reduceAdd, Nat.reduceSub, Nat.reduceMul, Nat.reduceLeDiff, reduceCtorEq, g1]
    refine (kNodes_spec k).use ?_
    simp only [go_sem, Int.reduceEq, Int.reduceAdd, Int.reduceSub, Int.reduceMul, Nat.reduceLT, Int.reduceLT, Int.reduceLE, Int.reduceToNat, Nat.reduceAdd, Nat.reduceSub, Nat.reduceMul, Nat.reduceLeDiff, reduceCtorEq]
    (refine hQ _ _ _ _ _ (by first | exact .inr rfl | exact .inl rfl) rfl (by first | exact FzH.refl _ | exact FzH.sub (by (repeat' (first | exact Sub.refl _ | assumption | (refine Sub.upd ?_ (by first | assumption | (simp only [*]; done) | exact Sub.isNone (by assumption) (by assumption) | exact Sub.isNone (by assumption) (by simp only [*]))))))) (FzL.refl _ _ _) ?_; try (simp only [go_sem, Int.reduceEq, Int.reduceAdd, Int.reduceSub, Int.reduceMul, Nat.reduceLT, Int.reduceLT, Int.reduceLE, Int.reduceToNat, Nat.reduceAdd, Nat.reduceSub, Nat.reduceMul, Nat.reduceLeDiff, reduceCtorEq, e]))
  · have e : inN n a = false := by unfold inN; exact decide_eq_false (by omega)
    simp only [go_sem, Int.reduceEq, Int.reduceAdd, Int.reduceSub, Int.reduceMul, Nat.reduceLT, Int.reduceLT, Int.reduceLE, Int.reduceToNat, Nat.reduceAdd, Nat.reduceSub, Nat.reduceMul, Nat.reduceLeDiff, reduceCtorEq, g1]
    (refine hQ _ _ _ _ _ (by first | exact .inr rfl | exact .inl rfl) rfl (by first | exact FzH.refl _ | exact FzH.sub (by (repeat' (first | exact Sub.refl _ | assumption | (refine Sub.upd ?_ (by first | assumption | (simp only [*]; done) | exact Sub.isNone (by assumption) (by assumption) | exact Sub.isNone (by assumption) (by simp only [*]))))))) (FzL.refl _ _ _) ?_; try (simp only [go_sem, Int.reduceEq, Int.reduceAdd, Int.reduceSub, Int.reduceMul, Nat.reduceLT, Int.reduceLT, Int.reduceLE, Int.reduceToNat, Nat.reduceAdd, Nat.reduceSub, Nat.reduceMul, Nat.reduceLeDiff, reduceCtorEq, e]))

def bothE (n a b : Int) : Int := if inN n a && inN n b && decide (a ≠ b) then 0 else 1

theorem kboth_spec {x id : Nat} {n : Int} {f : Lk} {H : AHeap} (k : LIn x id n f H) (a b : Int) : PureA Try.prog 132 [.ptr x 0, .int .i64 a, .int .i64 b] H (.int .i64 (bothE n a b)) := by
  (refine PureA.enter (ac := c132) (rs := r132) Try.func132 rfl (by decide) c132_ok r132_ok ?_; intro Q hQ; simp only [go_sem, Int.reduceEq, Int.reduceAdd, Int.reduceSub, Int.reduceMul, Nat.reduceLT, Int.reduceLT, Int.reduceLE, Int.reduceToNat, Nat.reduceAdd, Nat.reduceSub, Nat.reduceMul, Nat.reduceLeDiff, reduceCtorEq, c132, Try.ntmps132])
  refine (knode_spec k a).use ?_
  cases g1 : inN n a
  · have e : bothE n a b = 1 := by unfold bothE; rw [g1]; rfl
    simp only [go_sem, Int.reduceEq, Int.reduceAdd, Int.reduceSub, Int.reduceMul, Nat.reduceLT, Int.reduceLT, Int.reduceLE, Int.reduceToNat, Nat.reduceAdd, Nat.reduceSub, Nat.reduceMul, Nat.reduceLeDiff, reduceCtorEq]
    (refine hQ _ _ _ _ _ (by first | exact .inr rfl | exact .inl rfl) rfl (by first | exact FzH.refl _ | exact FzH.sub (by (repeat' (first | exact Sub.refl _ | assumption | (refine Sub.upd ?_ (by first | assumption | (simp only [*]; done) | exact Sub.isNone (by assumption) (by assumption) | exact Sub.isNone (by assumption) (by simp only [*]))))))) (FzL.refl _ _ _) ?_; try (simp only [go_sem, Int.reduceEq, Int.reduceAdd, Int.reduceSub, Int.reduceMul, Nat.reduceLT, Int.reduceLT, Int.reduceLE, Int.reduceToNat, Nat.reduceAdd, Nat.reduceSub, Nat.reduceMul, Nat.reduceLeDiff, reduceCtorEq, e]))
  simp only [go_sem, Int.reduceEq, Int.reduceAdd, Int.reduceSub, Int.reduceMul, Nat.reduceLT, Int.reduceLT, Int.reduceLE, Int.reduceToNat, Nat.reduceAdd, Nat.reduceSub, Nat.reduceMul, Nat.reduceLeDiff, reduceCtorEq]
  refine (knode_spec k b).use ?_
  cases g2 : inN n b
  · have e : bothE n a b = 1 := by unfold bothE; rw [g1, g2]; rfl
    simp only [go_sem, Int.reduceEq, Int.reduceAdd, Int.reduceSub, Int.reduceMul, Nat.reduceLT, Int.reduceLT, Int.reduceLE, Int.reduceToNat, Nat.reduceAdd, Nat.reduceSub, Nat.reduceMul, Nat.reduceLeDiff, reduceCtorEq]
    (refine hQ _ _ _ _ _ (by first | exact .inr rfl | exact .inl rfl) rfl (by first | exact FzH.refl _ | exact FzH.sub (by (repeat' (first | exact Sub.refl _ | assumption | (refine Sub.upd ?_ (by first | assumption | (simp only [*]; done) | exact Sub.isNone (by assumption) (by assumption) | exact Sub.isNone (by assumption) (by simp only [*]))))))) (FzL.refl _ _ _) ?_; try (simp only [go_sem, Int.reduceEq, Int.reduceAdd, Int.reduceSub, Int.reduceMul, Nat.reduceLT, Int.reduceLT, Int.reduceLE, Int.reduceToNat, Nat.reduceAdd, Nat.reduceSub, Nat.reduceMul, Nat.reduceLeDiff, reduceCtorEq, e]))
  by_cases g3 : a = b
  · have e : bothE n a b = 1 := by unfold bothE; rw [g1, g2, decide_eq_false (by simpa using g3)]; rfl
    simp only [go_sem, Int.reduceEq, Int.reduceAdd, Int.reduceSub, Int.reduceMul, Nat.reduceLT, Int.reduceLT, Int.reduceLE, Int.reduceToNat, Nat.reduceAdd, Nat.reduceSub, Nat.reduceMul, Nat.reduceLeDiff, reduceCtorEq, g3]
    (refine hQ _ _ _ _ _ (by first | exact .inr rfl | exact .inl rfl) rfl (by first | exact FzH.refl _ | exact FzH.sub (by (repeat' (first | exact Sub.refl _ | assumption | (refine Sub.upd ?_ (by first | assumption | (simp only [*]; done) | exact Sub.isNone (by assumption) (by assumption) | exact Sub.isNone (by assumption) (by simp only [*]))))))) (FzL.refl _ _ _) ?_; try (simp only [go_sem, Int.reduceEq, Int.reduceAdd, Int.reduceSub, Int.reduceMul, Nat.reduceLT, Int.reduceLT, Int.reduceLE, Int.reduceToNat, Nat.reduceAdd, Nat.reduceSub, Nat.reduceMul, Nat.reduceLeDiff, reduceCtorEq, e]))
  · have e : bothE n a b = 0 := by unfold bothE; rw [g1, g2, decide_eq_true g3]; rfl
    have g3' : decide (a = b) = false := decide_eq_false g3
    simp only [go_sem, Int.reduceEq, Int.reduceAdd, Int.reduceSub, Int.reduceMul, Nat.reduceLT, Int.reduceLT, Int.reduceLE, Int.reduceToNat, Nat.reduceAdd, Nat.reduceSub, Nat.reduceMul, Nat.reduceLeDiff, reduceCtorEq, g3']
    (refine hQ _ _ _ _ _ (by first | exact .inr rfl | exact .inl rfl) rfl (by first | exact FzH.refl _ | exact FzH.sub (by (repeat' (first | exact Sub.refl _ | assumption | (refine Sub.upd ?_ (by first | assumption | (simp only [*]; done) | exact Sub.isNone (by assumption) (by assumption) | exact Sub.isNone (by assumption) (by simp only [*]))))))) (FzL.refl _ _ _) ?_; try (simp only [go_sem, Int.reduceEq, Int.reduceAdd, Int.reduceSub, Int.reduceMul, Nat.reduceLT, Int.reduceLT, Int.reduceLE, Int.reduceToNat, Nat.reduceAdd, Nat.reduceSub, Nat.reduceMul, Nat.reduceLeDiff, reduceCtorEq, e]))

def costE (n : Int) (f : Lk) (a b : Int) : Int × Int :=
  if inN n a && inN n b then (match alook f (ofP a b) with | some c => (c, 0) | none => (0, 8)) else (0, 1)

theorem kCost_spec {x id : Nat} {n : Int} {f : Lk} {H : AHeap} (k : LIn x id n f H) (a b : Int) : PureA Try.prog 134 [.ptr x 0, .int .i64 a, .int .i64 b] H (.tup [.int .i64 (costE n f a b).1, .int .i64 (costE n f a b).2]) := by
  obtain ⟨es, c, h1, h2⟩ := k.map
  (refine PureA.enter (ac := c134) (rs := r134) Try.func134 rfl (by decide) c134_ok r134_ok ?_; intro Q hQ; simp only [go_sem, Int.reduceEq, Int.reduceAdd, Int.reduceSub, Int.reduceMul, Nat.reduceLT, Int.reduceLT, Int.reduceLE, Int.reduceToNat, Nat.reduceAdd, Nat.reduceSub, Nat.reduceMul, Nat.reduceLeDiff, reduceCtorEq, c134, Try.ntmps134])
  refine (knode_spec k a).use ?_
  cases g1 : inN n a
  · have e : costE n f a b = (0, 1) := by unfold costE; rw [g1]; rfl
    simp only [go_sem, Int.reduceEq, Int.reduceAdd, Int.reduceSub, Int.reduceMul, Nat.reduceLT, Int.reduceLT, Int.reduceLE, Int.reduceToNat, Nat.reduceAdd, Nat.reduceSub, Nat.reduceMul, Nat.reduceLeDiff, reduceCtorEq]
    (refine hQ _ _ _ _ _ (by first | exact .inr rfl | exact .inl rfl) rfl (by first | exact FzH.refl _ | exact FzH.sub (by (repeat' (first | exact Sub.refl _ | assumption | (refine Sub.upd ?_ (by first | assumption | (simp only [*]; done) | exact Sub.isNone (by assumption) (by assumption) | exact Sub.isNone (by assumption) (by simp only [*]))))))) (FzL.refl _ _ _) ?_; try (simp only [go_sem, Int.reduceEq, Int.reduceAdd, Int.reduceSub, Int.reduceMul, Nat.reduceLT, Int.reduceLT, Int.reduceLE, Int.reduceToNat, Nat.reduceAdd, Nat.reduceSub, Nat.reduceMul, Nat.reduceLeDiff, reduceCtorEq, e]))
  simp only [go_sem, Int.reduceEq, Int.reduceAdd, Int.reduceSub, Int.reduceMul, Nat.reduceLT, Int.reduceLT, Int.reduceLE, Int.reduceToNat, Nat.reduceAdd, Nat.reduceSub, Nat.reduceMul, Nat.reduceLeDiff, reduceCtorEq]
  refine (knode_spec k b).use ?_
  cases g2 : inN n b
  · have e : costE n f a b = (0, 1) := by unfold costE; rw [g1, g2]; rfl
    simp only [go_sem, Int.reduceEq, Int.reduceAdd, Int.reduceSub, Int.reduceMul, Nat.reduceLT, Int.reduceLT, Int.reduceLE, Int.reduceToNat, Nat.reduceAdd, Nat.reduceSub, Nat.reduceMul, Nat.reduceLeDiff, reduceCtorEq]
    (refine hQ _ _ _ _ _ (by first | exact .inr rfl | exact .inl rfl) rfl (by first | exact FzH.refl _ | exact FzH.sub (by (repeat' (first | exact Sub.refl _ | assumption | (refine Sub.upd ?_ (by first | assumption | (simp only [*]; done) | exact Sub.isNone (by assumption) (by assumption) | exact Sub.isNone (by assumption) (by simp only [*]))))))) (FzL.refl _ _ _) ?_; try (simp only [go_sem, Int.reduceEq, Int.reduceAdd, Int.reduceSub, Int.reduceMul, Nat.reduceLT, Int.reduceLT, Int.reduceLE, Int.reduceToNat, Nat.reduceAdd, Nat.reduceSub, Nat.reduceMul, Nat.reduceLeDiff, reduceCtorEq, e]))
  simp only [go_sem, Int.reduceEq, Int.reduceAdd, Int.reduceSub, Int.reduceMul, Nat.reduceLT, Int.reduceLT, Int.reduceLE, Int.reduceToNat, Nat.reduceAdd, Nat.reduceSub, Nat.reduceMul, Nat.reduceLeDiff, reduceCtorEq, k.blk]
  refine (kOf_spec a b H).use ?_
  simp only [go_sem, Int.reduceEq, Int.reduceAdd, Int.reduceSub, Int.reduceMul, Nat.reduceLT, Int.reduceLT, Int.reduceLE, Int.reduceToNat, Nat.reduceAdd, Nat.reduceSub, Nat.reduceMul, Nat.reduceLeDiff, reduceCtorEq, k.blk]
  refine map_get (ek := kI2) (ew := ewI) kI2_fit h1 h2 ?_
  cases g : alook f (ofP a b) with
  | none =>
    have e : costE n f a b = (0, 8) := by unfold costE; rw [g1, g2, g]; rfl
    simp only [go_sem, Int.reduceEq, Int.reduceAdd, Int.reduceSub, Int.reduceMul, Nat.reduceLT, Int.reduceLT, Int.reduceLE, Int.reduceToNat, Nat.reduceAdd, Nat.reduceSub, Nat.reduceMul, Nat.reduceLeDiff, reduceCtorEq, mres]
    (refine hQ _ _ _ _ _ (by first | exact .inr rfl | exact .inl rfl) rfl (by first | exact FzH.refl _ | exact FzH.sub (by (repeat' (first | exact Sub.refl _ | assumption | (refine Sub.upd ?_ (by first | assumption | (simp only [*]; done) | exact Sub.isNone (by assumption) (by assumption) | exact Sub.isNone (by assumption) (by simp only [*]))))))) (FzL.refl _ _ _) ?_; try (simp only [go_sem, Int.reduceEq, Int.reduceAdd, Int.reduceSub, Int.reduceMul, Nat.reduceLT, Int.reduceLT, Int.reduceLE, Int.reduceToNat, Nat.reduceAdd, Nat.reduceSub, Nat.reduceMul, Nat.reduceLeDiff, reduceCtorEq, e]))
  | some v =>
    have e : costE n f a b = (v, 0) := by unfold costE; rw [g1, g2, g]; rfl
    simp only [go_sem, Int.reduceEq, Int.reduceAdd, Int.reduceSub, Int.reduceMul, Nat.reduceLT, Int.reduceLT, Int.reduceLE, Int.reduceToNat, Nat.reduceAdd, Nat.reduceSub, Nat.reduceMul, Nat.reduceLeDiff, reduceCtorEq, mres, ewI]
    (refine hQ _ _ _ _ _ (by first | exact .inr rfl | exact .inl rfl) rfl (by first | exact FzH.refl _ | exact FzH.sub (by (repeat' (first | exact Sub.refl _ | assumption | (refine Sub.upd ?_ (by first | assumption | (simp only [*]; done) | exact Sub.isNone (by assumption) (by assumption) | exact Sub.isNone (by assumption) (by simp only [*]))))))) (FzL.refl _ _ _) ?_; try (simp only [go_sem, Int.reduceEq, Int.reduceAdd, Int.reduceSub, Int.reduceMul, Nat.reduceLT, Int.reduceLT, Int.reduceLE, Int.reduceToNat, Nat.reduceAdd, Nat.reduceSub, Nat.reduceMul, Nat.reduceLeDiff, reduceCtorEq, e]))

theorem kSet_bad {x id : Nat} {n : Int} {f : Lk} {H : AHeap} (k : LIn x id n f H) (a b v : Int) (hb : ¬ (bothE n a b = 0 ∧ 128 ≤ v ∧ v < 65535)) : CallsA Try.prog 73 [.ptr x 0, .int .i64 a, .int .i64 b, .int .i64 v] H (fun r H' => r = .int .i64 1 ∧ H' = H) := by
  (refine CallsA.enterR (ac := c73) (rs := r73) Try.func73 rfl (by decide) c73_ok r73_ok ?_; intro Q hQ; simp only [go_sem, Int.reduceEq, Int.reduceAdd, Int.reduceSub, Int.reduceMul, Nat.reduceLT, Int.reduceLT, Int.reduceLE, Int.reduceToNat, Nat.reduceAdd, Nat.reduceSub, Nat.reduceMul, Nat.reduceLeDiff, reduceCtorEq, c73, Try.ntmps73])
  refine (kboth_spec k a b).use ?_
  by_cases g1 : bothE n a b = 0
  · simp only [go_sem, Int.reduceEq, Int.reduceAdd, Int.reduceSub, Int.reduceMul, Nat.reduceLT, Int.reduceLT, Int.reduceLE, Int.reduceToNat, Nat.reduceAdd, Nat.reduceSub, Nat.reduceMul, Nat.reduceLeDiff, reduceCtorEq, g1]
    by_cases g2 : v < 128
    · simp only [go_sem, Int.reduceEq, Int.reduceAdd, Int.reduceSub, Int.reduceMul, Nat.reduceLT, Int.reduceLT, Int.reduceLE, Int.reduceToNat, Nat.reduceAdd, Nat.reduceSub, Nat.reduceMul, Nat.reduceLeDiff, reduceCtorEq, g2]
      refine hQ _ _ _ _ _ _ (.inr rfl) rfl (FzH.refl _) (FzL.refl _ _ _) ⟨rfl, rfl⟩
    · by_cases g3 : 65535 ≤ v
      · simp only [go_sem, Int.reduceEq, Int.reduceAdd, Int.reduceSub, Int.reduceMul, Nat.reduceLT, Int.reduceLT, Int.reduceLE, Int.reduceToNat, Nat.reduceAdd, Nat.reduceSub, Nat.reduceMul, Nat.reduceLeDiff, reduceCtorEq, g2, g3]
        refine hQ _ _ _ _ _ _ (.inr rfl) rfl (FzH.refl _) (FzL.refl _ _ _) ⟨rfl, rfl⟩
      · exact absurd ⟨g1, by omega, by omega⟩ hb
  · have g1' : bothE n a b = 1 := by unfold bothE at g1 ⊢; split <;> simp_all
    simp only [go_sem, Int.reduceEq, Int.reduceAdd, Int.reduceSub, Int.reduceMul, Nat.reduceLT, Int.reduceLT, Int.reduceLE, Int.reduceToNat, Nat.reduceAdd, Nat.reduceSub, Nat.reduceMul, Nat.reduceLeDiff, reduceCtorEq, g1', show decide ((1 : Int) = 0) = false from rfl]
    refine hQ _ _ _ _ _ _ (.inr rfl) rfl (FzH.refl _) (FzL.refl _ _ _) ⟨rfl, rfl⟩

theorem kSet_spec {x id : Nat} {n : Int} {f : Lk} {H : AHeap} (k : LIn x id n f H) (a b v : Int) (hb : bothE n a b = 0) (h1 : 128 ≤ v) (h2 : v < 65535) :
    CallsA Try.prog 73 [.ptr x 0, .int .i64 a, .int .i64 b, .int .i64 v] H (fun r H' => r = .int .i64 0 ∧ LIn x id n (aset f (ofP a b) v) H' ∧ ∃ o, H' = upd H id o) := by
  obtain ⟨es, c, m1, m2⟩ := k.map
  have g2 : ¬ v < 128 := by omega
  have g3 : ¬ 65535 ≤ v := by omega
  (refine CallsA.enterR (ac := c73) (rs := r73) Try.func73 rfl (by decide) c73_ok r73_ok ?_; intro Q hQ; simp only [go_sem, Int.reduceEq, Int.reduceAdd, Int.reduceSub, Int.reduceMul, Nat.reduceLT, Int.reduceLT, Int.reduceLE, Int.reduceToNat, Nat.reduceAdd, Nat.reduceSub, Nat.reduceMul, Nat.reduceLeDiff, reduceCtorEq, c73, Try.ntmps73])
  refine (kboth_spec k a b).use ?_
  simp only [go_sem, Int.reduceEq, Int.reduceAdd, Int.reduceSub, Int.reduceMul, Nat.reduceLT, Int.reduceLT, Int.reduceLE, Int.reduceToNat, Nat.reduceAdd, Nat.reduceSub, Nat.reduceMul, Nat.reduceLeDiff, reduceCtorEq, hb, g2, g3, k.blk]
  refine (kOf_spec a b H).use ?_
  simp only [go_sem, Int.reduceEq, Int.reduceAdd, Int.reduceSub, Int.reduceMul, Nat.reduceLT, Int.reduceLT, Int.reduceLE, Int.reduceToNat, Nat.reduceAdd, Nat.reduceSub, Nat.reduceMul, Nat.reduceLeDiff, reduceCtorEq, k.blk]
  refine map_put (ek := kI2) (ew := ewI) (v := v) kI2_fit m1 m2 k.ok fun es' c' hm => ?_
  simp only [go_sem, Int.reduceEq, Int.reduceAdd, Int.reduceSub, Int.reduceMul, Nat.reduceLT, Int.reduceLT, Int.reduceLE, Int.reduceToNat, Nat.reduceAdd, Nat.reduceSub, Nat.reduceMul, Nat.reduceLeDiff, reduceCtorEq]
  refine hQ _ _ _ _ _ _ (.inr rfl) rfl (FzH.refl _) (FzL.refl _ _ _) ⟨rfl, ⟨by rw [upd_ne k.ne]; exact k.blk, ⟨es', c', upd_same, hm⟩, ?_⟩, _, rfl⟩
  exact AKeys_set k.ok

theorem kNew_spec (n : Int) (h1 : 1 ≤ n) (h2 : n ≤ 64) (h : AHeap) : CallsA Try.prog 72 [.int .i64 n] h (fun r H => ∃ x id, r = .tup [.ptr x 0, .int .i64 0] ∧ h x = none ∧ h id = none ∧ LIn x id n [] H ∧ Sub h H) := by
  have g1 : ¬ n < 1 := by omega
  have g2 : ¬ 64 < n := by omega
  (refine CallsA.enterR (ac := c72) (rs := r72) Try.func72 rfl (by decide) c72_ok r72_ok ?_; intro Q hQ; simp only [go_sem, Int.reduceEq, Int.reduceAdd, Int.reduceSub, Int.reduceMul, Nat.reduceLT, Int.reduceLT, Int.reduceLE, Int.reduceToNat, Nat.reduceAdd, Nat.reduceSub, Nat.reduceMul, Nat.reduceLeDiff, reduceCtorEq, c72, Try.ntmps72])
  simp only [go_sem, Int.reduceEq, Int.reduceAdd, Int.reduceSub, Int.reduceMul, Nat.reduceLT, Int.reduceLT, Int.reduceLE, Int.reduceToNat, Nat.reduceAdd, Nat.reduceSub, Nat.reduceMul, Nat.reduceLeDiff, reduceCtorEq, g1, g2]
  intro id hid x hx
  have hne : x ≠ id := by rintro rfl; rw [upd_same] at hx; cases hx
  have hx0 : h x = none := by rw [upd_ne hne] at hx; exact hx
  refine hQ _ _ _ _ _ _ (.inr rfl) rfl (FzH.refl _) (FzL.refl _ _ _) ⟨x, id, rfl, hx0, hid, ⟨upd_same, ⟨[], 0, by rw [upd_ne hne.symm]; exact upd_same, MapIs_nil⟩, by simp [AKeys]⟩, ?_⟩
  exact (Sub.refl h).upd2 hid |>.trans ((Sub.refl _).upd2 hx)

def nbsL (n : Int) (f : Lk) (a : Int) : List Int := ((List.range n.toNat).map fun (j : Nat) => (j : Int)).filter fun b => decide ((costE n f a b).2 = 0)

theorem kNbs_spec {x id : Nat} {n : Int} {f : Lk} {H : AHeap} (k : LIn x id n f H) (hn : 0 ≤ n ∧ n ≤ 64) (a : Int) : PureA Try.prog 78 [.ptr x 0, .int .i64 a] H (.ro (cat i1 (nbsL n f a)) (nbsL n f a).length false) := by
  refine Grow.pure (esz := 1) ?_
  (refine CallsA.enterR (ac := c78) (rs := r78) Try.func78 rfl (by decide) c78_ok r78_ok ?_; intro Q hQ; simp only [go_sem, Int.reduceEq, Int.reduceAdd, Int.reduceSub, Int.reduceMul, Nat.reduceLT, Int.reduceLT, Int.reduceLE, Int.reduceToNat, Nat.reduceAdd, Nat.reduceSub, Nat.reduceMul, Nat.reduceLeDiff, reduceCtorEq, c78, Try.ntmps78])
  refine (kNodes_spec k).use ?_
  obtain ⟨m, rfl⟩ : ∃ m : Nat, n = (m : Int) := ⟨n.toNat, by omega⟩
  simp only [go_sem, Int.reduceEq, Int.reduceAdd, Int.reduceSub, Int.reduceMul, Nat.reduceLT, Int.reduceLT, Int.reduceLE, Int.reduceToNat, Nat.reduceAdd, Nat.reduceSub, Nat.reduceMul, Nat.reduceLeDiff, reduceCtorEq]
  let P : Nat → List Int := fun j => ((List.range j).map fun (j : Nat) => (j : Int)).filter fun b => decide ((costE m f a b).2 = 0)
  refine loop_st d78_0 (fun y : Nat × AV => m - y.1) (fun y s => (s.set 11 (.int .i64 (y.1 : Int))).set 5 y.2) (fun y H' => y.1 ≤ m ∧ Grow H 1 y.2 (cat i1 (P y.1)) (P y.1).length H') (0, .nils) ?_ ⟨Nat.zero_le _, Grow.nil⟩ ?_
  · (simp only [go_sem, Int.reduceEq, Int.reduceAdd, Int.reduceSub, Int.reduceMul, Nat.reduceLT, Int.reduceLT, Int.reduceLE, Int.reduceToNat, Nat.reduceAdd, Nat.reduceSub, Nat.reduceMul, Nat.reduceLeDiff, reduceCtorEq, d78_0] <;> rfl)
  rintro N ⟨j, u⟩ H2 ⟨hj, g2⟩ hN
  simp only [go_sem, Int.reduceEq, Int.reduceAdd, Int.reduceSub, Int.reduceMul, Nat.reduceLT, Int.reduceLT, Int.reduceLE, Int.reduceToNat, Nat.reduceAdd, Nat.reduceSub, Nat.reduceMul, Nat.reduceLeDiff, reduceCtorEq, d78_0]
  simp only at hj g2 hN
  have hadd := wadd1 (k := j) (by omega)
  by_cases hlt : j < m
  · have hP : P (j + 1) = P j ++ if (costE m f a (j : Int)).2 = 0 then [(j : Int)] else [] := by
      show List.filter _ _ = List.filter _ _ ++ _
      rw [List.range_succ, List.map_append, List.filter_append]
      congr 1
      by_cases g : (costE m f a (j : Int)).2 = 0 <;> simp [g]
    have hPl : (P j).length ≤ j := by
      show (List.filter _ _).length ≤ j
      refine Nat.le_trans (List.length_filter_le _ _) (by simp)
    simp only [go_sem, Int.reduceEq, Int.reduceAdd, Int.reduceSub, Int.reduceMul, Nat.reduceLT, Int.reduceLT, Int.reduceLE, Int.reduceToNat, Nat.reduceAdd, Nat.reduceSub, Nat.reduceMul, Nat.reduceLeDiff, reduceCtorEq, hlt]
    refine (kCost_spec (k.sub g2.sub) a (j : Int)).use ?_
    by_cases g : (costE m f a (j : Int)).2 = 0
    · rw [if_pos g] at hP
      simp only [go_sem, Int.reduceEq, Int.reduceAdd, Int.reduceSub, Int.reduceMul, Nat.reduceLT, Int.reduceLT, Int.reduceLE, Int.reduceToNat, Nat.reduceAdd, Nat.reduceSub, Nat.reduceMul, Nat.reduceLeDiff, reduceCtorEq, g]
      refine g2.add1 (x := i1 (j : Int)) rfl rfl (by omega) fun v' H3 g3 => ?_
      have e : cat i1 (P j) ++ i1 (j : Int) = cat i1 (P (j + 1)) := by rw [hP, cat_append]; simp [cat]
      have el : (P j).length + 1 = (P (j + 1)).length := by rw [hP]; simp
      rw [e, el] at g3
      simp only [go_sem, Int.reduceEq, Int.reduceAdd, Int.reduceSub, Int.reduceMul, Nat.reduceLT, Int.reduceLT, Int.reduceLE, Int.reduceToNat, Nat.reduceAdd, Nat.reduceSub, Nat.reduceMul, Nat.reduceLeDiff, reduceCtorEq, hadd]
      refine hN (j + 1, v') _ _ (by simp only; omega) ?_ ⟨hlt, g3⟩
      simp only [go_sem, Int.reduceEq, Int.reduceAdd, Int.reduceSub, Int.reduceMul, Nat.reduceLT, Int.reduceLT, Int.reduceLE, Int.reduceToNat, Nat.reduceAdd, Nat.reduceSub, Nat.reduceMul, Nat.reduceLeDiff, reduceCtorEq, d78_0]
    · rw [if_neg g, List.append_nil] at hP
      have g' : decide ((costE m f a (j : Int)).2 = 0) = false := decide_eq_false g
      simp only [go_sem, Int.reduceEq, Int.reduceAdd, Int.reduceSub, Int.reduceMul, Nat.reduceLT, Int.reduceLT, Int.reduceLE, Int.reduceToNat, Nat.reduceAdd, Nat.reduceSub, Nat.reduceMul, Nat.reduceLeDiff, reduceCtorEq, g', hadd]
      refine hN (j + 1, u) _ _ (by simp only; omega) ?_ ⟨hlt, by rw [hP]; exact g2⟩
      simp only [go_sem, Int.reduceEq, Int.reduceAdd, Int.reduceSub, Int.reduceMul, Nat.reduceLT, Int.reduceLT, Int.reduceLE, Int.reduceToNat, Nat.reduceAdd, Nat.reduceSub, Nat.reduceMul, Nat.reduceLeDiff, reduceCtorEq, d78_0]
  · have hjm : j = m := by omega
    subst hjm
    simp only [go_sem, Int.reduceEq, Int.reduceAdd, Int.reduceSub, Int.reduceMul, Nat.reduceLT, Int.reduceLT, Int.reduceLE, Int.reduceToNat, Nat.reduceAdd, Nat.reduceSub, Nat.reduceMul, Nat.reduceLeDiff, reduceCtorEq, hlt]
    refine frz_id ?_
    simp only [go_sem, Int.reduceEq, Int.reduceAdd, Int.reduceSub, Int.reduceMul, Nat.reduceLT, Int.reduceLT, Int.reduceLE, Int.reduceToNat, Nat.reduceAdd, Nat.reduceSub, Nat.reduceMul, Nat.reduceLeDiff, reduceCtorEq]
    refine hQ _ _ _ _ _ _ (.inr rfl) rfl (FzH.refl _) (FzL.refl _ _ _) ?_
    have : nbsL (j : Int) f a = P j := by unfold nbsL; rw [Int.toNat_natCast]
    rw [this]; exact g2

end Go.Proofs.Ytaeppifdbcoipaa
