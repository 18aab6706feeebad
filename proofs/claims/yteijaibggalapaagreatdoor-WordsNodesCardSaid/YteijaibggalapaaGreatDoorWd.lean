/-
  Numbers as texts; what is written into a line.
-/
import Derived.Test.YteijaibggalapaaGreatDoorWc
import Derived.Lib.ItoaLen
namespace Go.Proofs.YteijaibggalapaaGreatDoor
open Go E
set_option linter.unusedVariables false
set_option linter.unusedSimpArgs false
set_option maxRecDepth 100000

/-! ### Digits -/

theorem dd_lt {u : Nat} (h : u < 10) : Lib.decDigits u = [UInt8.ofNat (48 + u)] := by rw [Lib.decDigits, dif_pos h]
theorem dd_ge {u : Nat} (h : ¬ u < 10) : Lib.decDigits u = Lib.decDigits (u / 10) ++ [UInt8.ofNat (48 + u % 10)] := by rw [Lib.decDigits, dif_neg h]

theorem dd_mem : ∀ (u : Nat) (c : UInt8), c ∈ Lib.decDigits u → 48 ≤ c.toNat := by
  intro u
  induction u using Nat.strongRecOn with
  | ind u ih =>
  intro c hc
  have one : ∀ d : Nat, d < 10 → 48 ≤ (UInt8.ofNat (48 + d)).toNat := fun d hd => by rw [UInt8.toNat_ofNat']; omega
  by_cases h : u < 10
  · rw [dd_lt h] at hc; rw [List.mem_singleton.1 hc]; exact one u h
  · rw [dd_ge h] at hc
    rcases List.mem_append.1 hc with hc | hc
    · exact ih _ (by omega) c hc
    · rw [List.mem_singleton.1 hc]; exact one _ (by omega)
theorem dd_ne (u : Nat) : Lib.decDigits u ≠ [] := by
  by_cases h : u < 10
  · rw [dd_lt h]; simp
  · rw [dd_ge h]; simp
theorem digit_inj {a b : Nat} (ha : a < 10) (hb : b < 10) (e : UInt8.ofNat (48 + a) = UInt8.ofNat (48 + b)) : a = b := by
  have := congrArg UInt8.toNat e
  rw [UInt8.toNat_ofNat', UInt8.toNat_ofNat'] at this; omega
theorem dd_inj : ∀ (u v : Nat), Lib.decDigits u = Lib.decDigits v → u = v := by
  intro u
  induction u using Nat.strongRecOn with
  | ind u ih =>
  intro v e
  by_cases h : u < 10 <;> by_cases h2 : v < 10
  · rw [dd_lt h, dd_lt h2] at e
    exact digit_inj h h2 (List.cons.inj e).1
  · rw [dd_lt h, dd_ge h2] at e
    have := congrArg List.length e
    have h3 := List.length_pos_iff.2 (dd_ne (v / 10))
    simp only [List.length_append, List.length_cons, List.length_nil] at this; omega
  · rw [dd_ge h, dd_lt h2] at e
    have := congrArg List.length e
    have h3 := List.length_pos_iff.2 (dd_ne (u / 10))
    simp only [List.length_append, List.length_cons, List.length_nil] at this; omega
  · rw [dd_ge h, dd_ge h2] at e
    obtain ⟨e1, e2⟩ := List.append_inj' e rfl
    have := ih (u / 10) (by omega) _ e1
    have := digit_inj (by omega) (by omega) (List.cons.inj e2).1
    omega

theorem it_ne (n : Int) : Lib.itoa n ≠ [] := by
  unfold Lib.itoa; split
  · simp
  · exact dd_ne _
theorem it_mem (n : Int) : (32 : UInt8) ∉ Lib.itoa n := by
  unfold Lib.itoa; split
  · intro h
    rcases List.mem_cons.1 h with h | h
    · exact absurd h (by decide)
    · have := dd_mem _ _ h; exact absurd this (by decide)
  · intro h
    have := dd_mem _ _ h; exact absurd this (by decide)
theorem it_inj {m n : Int} (e : Lib.itoa m = Lib.itoa n) : m = n := by
  have no : ∀ u v : Nat, Lib.decDigits u ≠ 45 :: Lib.decDigits v := fun u v h => by
    have h2 : (45 : UInt8) ∈ Lib.decDigits u := by rw [h]; simp
    have := dd_mem _ _ h2; exact absurd this (by decide)
  unfold Lib.itoa at e
  split at e <;> split at e
  · have := dd_inj _ _ (List.cons.inj e).2; omega
  · exact absurd e.symm (no _ _)
  · exact absurd e (no _ _)
  · have := dd_inj _ _ e; omega

/-! ### What is joined by a sign that stands in none -/

theorem part_inj : ∀ {x y a b : List UInt8}, (32 : UInt8) ∉ x → (32 : UInt8) ∉ y → (a = [] ∨ ∃ r, a = 32 :: r) → (b = [] ∨ ∃ r, b = 32 :: r) → x ++ a = y ++ b → x = y ∧ a = b
  | [], [], a, b, _, _, _, _, e => ⟨rfl, e⟩
  | [], c :: y, a, b, _, hy, ha, _, e => by
    simp only [List.nil_append, List.cons_append] at e
    rcases ha with rfl | ⟨r, rfl⟩
    · cases e
    · have := (List.cons.inj e).1; exact absurd (by simp [← this]) hy
  | c :: x, [], a, b, hx, _, _, hb, e => by
    simp only [List.nil_append, List.cons_append] at e
    rcases hb with rfl | ⟨r, rfl⟩
    · cases e
    · have := (List.cons.inj e).1; exact absurd (by simp [this]) hx
  | c :: x, d :: y, a, b, hx, hy, ha, hb, e => by
    simp only [List.cons_append] at e
    obtain ⟨e1, e2⟩ := List.cons.inj e
    obtain ⟨h1, h2⟩ := part_inj (fun h => hx (by simp [h])) (fun h => hy (by simp [h])) ha hb e2
    exact ⟨by rw [e1, h1], h2⟩

theorem tail_head (r : List (List UInt8)) : Lib.joinTail [32] r = [] ∨ ∃ q, Lib.joinTail [32] r = 32 :: q := by
  cases r with
  | nil => exact .inl rfl
  | cons x r => exact .inr ⟨_, by simp only [Lib.joinTail, List.map_cons, List.flatten_cons, List.cons_append]; rfl⟩

theorem tail_inj : ∀ {xs ys : List (List UInt8)}, xs.length = ys.length → (∀ x ∈ xs, (32 : UInt8) ∉ x) → (∀ y ∈ ys, (32 : UInt8) ∉ y) → Lib.joinTail [32] xs = Lib.joinTail [32] ys → xs = ys
  | [], [], _, _, _, _ => rfl
  | x :: xs, y :: ys, hl, hx, hy, e => by
    have e2 : x ++ Lib.joinTail [32] xs = y ++ Lib.joinTail [32] ys := by
      have : 32 :: (x ++ Lib.joinTail [32] xs) = 32 :: (y ++ Lib.joinTail [32] ys) := by simpa [Lib.joinTail] using e
      exact (List.cons.inj this).2
    obtain ⟨h1, h2⟩ := part_inj (hx x (by simp)) (hy y (by simp)) (tail_head _) (tail_head _) e2
    rw [h1, tail_inj (by simpa using hl) (fun z hz => hx z (by simp [hz])) (fun z hz => hy z (by simp [hz])) h2]

/-! ### The functions -/

def itoaB (n : Int) : ByteArray := ⟨(Lib.itoa n).toArray⟩
def i64 (n : Int) : Prop := -9223372036854775808 ≤ n ∧ n ≤ 9223372036854775807
theorem itoaB_data (n : Int) : (itoaB n).data.toList = Lib.itoa n := rfl
theorem itoaB_size {n : Int} (h : i64 n) : (itoaB n).size ≤ 21 := by
  have := Lib.itoa_length_le n h.1 h.2
  rw [ba_size, itoaB_data]; exact this

theorem digS (d : Nat) (hd : d < 10) : strA (ByteArray.mk (Array.mk [48, 49, 50, 51, 52, 53, 54, 55, 56, 57])) (some (.int .i64 (d : Int))) (some (.int .i64 ((d + 1 : Nat) : Int))) = some (.str ⟨#[UInt8.ofNat (48 + d)]⟩) := by
  rcases (show d = 0 ∨ d = 1 ∨ d = 2 ∨ d = 3 ∨ d = 4 ∨ d = 5 ∨ d = 6 ∨ d = 7 ∨ d = 8 ∨ d = 9 by omega) with h | h | h | h | h | h | h | h | h | h <;> subst h <;> rfl

theorem num_nat : ∀ (u : Nat), u ≤ 9223372036854775807 → ∀ h, PureA Tryz.prog 17 [.int .i64 (u : Int)] h (.str ⟨(Lib.decDigits u).toArray⟩) := by
  intro u
  induction u using Nat.strongRecOn with
  | ind u ih =>
  intro hu h
  have e0 : ¬ (u : Int) < 0 := by omega
  have e1 : (u : Int).tmod 10 = ((u % 10 : Nat) : Int) := by rw [Int.tmod_eq_emod_of_nonneg (by omega)]; omega
  have e2 : (u : Int).tdiv 10 = ((u / 10 : Nat) : Int) := by rw [Int.tdiv_eq_ediv_of_nonneg (by omega)]; omega
  have e3 : IntKind.i64.wrap ((u % 10 : Nat) + 1 : Int) = ((u % 10 + 1 : Nat) : Int) := wadd1 (k := u % 10) (by omega)
  have e4 : IntKind.i64.wrap ((u / 10 : Nat) : Int) = ((u / 10 : Nat) : Int) := w64 (by omega) (by omega)
  have d1 := digS (u % 10) (by omega)
  have b1 : binA .rem (.int .i64 (u : Int)) (.int .i64 10) = some (.int .i64 ((u % 10 : Nat) : Int)) := by rw [binA_rem _ _ _ (by decide), e1]
  have b2 : binA .quo (.int .i64 (u : Int)) (.int .i64 10) = some (.int .i64 ((u / 10 : Nat) : Int)) := by rw [binA_quo _ _ _ (by decide), e2, e4]
  (refine PureA.enter (ac := c17) (rs := r17) Tryz.func17 rfl (by decide) c17_ok r17_ok ?_; intro Q hQ; simp only [go_sem, Int.reduceEq, Int.reduceAdd, Int.reduceSub, Int.reduceMul, Nat.reduceLT, Int.reduceLT, Int.reduceLE, Int.reduceToNat, Nat.reduceAdd, Nat.reduceSub, Nat.reduceMul, Nat.reduceLeDiff, reduceCtorEq, c17, Tryz.ntmps17, e0, b1, b2, e3, d1])
  by_cases h10 : u < 10
  · have : (u : Int) < 10 := by omega
    simp only [go_sem, Int.reduceEq, Int.reduceAdd, Int.reduceSub, Int.reduceMul, Nat.reduceLT, Int.reduceLT, Int.reduceLE, Int.reduceToNat, Nat.reduceAdd, Nat.reduceSub, Nat.reduceMul, Nat.reduceLeDiff, reduceCtorEq, this]
    (refine hQ _ _ _ _ _ (by first | exact .inr rfl | exact .inl rfl) rfl (by first | exact FzH.refl _ | exact FzH.sub (by (repeat' (first | exact Sub.refl _ | assumption | (refine Sub.upd ?_ (by first | assumption | (simp only [*]; done) | exact Sub.isNone (by assumption) (by assumption) | exact Sub.isNone (by assumption) (by simp only [*]))))))) (FzL.refl _ _ _) ?_; try (simp only [go_sem, Int.reduceEq, Int.reduceAdd, Int.reduceSub, Int.reduceMul, Nat.reduceLT, Int.reduceLT, Int.reduceLE, Int.reduceToNat, Nat.reduceAdd, Nat.reduceSub, Nat.reduceMul, Nat.reduceLeDiff, reduceCtorEq]))
    rw [dd_lt h10, Nat.mod_eq_of_lt h10]
  · have : ¬ (u : Int) < 10 := by omega
    simp only [go_sem, Int.reduceEq, Int.reduceAdd, Int.reduceSub, Int.reduceMul, Nat.reduceLT, Int.reduceLT, Int.reduceLE, Int.reduceToNat, Nat.reduceAdd, Nat.reduceSub, Nat.reduceMul, Nat.reduceLeDiff, reduceCtorEq, this, b2]
    refine (ih (u / 10) (by omega) (by omega) h).use ?_
    simp only [go_sem, Int.reduceEq, Int.reduceAdd, Int.reduceSub, Int.reduceMul, Nat.reduceLT, Int.reduceLT, Int.reduceLE, Int.reduceToNat, Nat.reduceAdd, Nat.reduceSub, Nat.reduceMul, Nat.reduceLeDiff, reduceCtorEq]
    have hlen := Lib.itoa_length_le (u / 10 : Nat) (by omega) (by omega)
    rw [Lib.itoa_nonneg] at hlen
    rw [cat_str (by rw [ba_size, ba_size]; simp; omega)]
    simp only [go_sem, Int.reduceEq, Int.reduceAdd, Int.reduceSub, Int.reduceMul, Nat.reduceLT, Int.reduceLT, Int.reduceLE, Int.reduceToNat, Nat.reduceAdd, Nat.reduceSub, Nat.reduceMul, Nat.reduceLeDiff, reduceCtorEq]
    (refine hQ _ _ _ _ _ (by first | exact .inr rfl | exact .inl rfl) rfl (by first | exact FzH.refl _ | exact FzH.sub (by (repeat' (first | exact Sub.refl _ | assumption | (refine Sub.upd ?_ (by first | assumption | (simp only [*]; done) | exact Sub.isNone (by assumption) (by assumption) | exact Sub.isNone (by assumption) (by simp only [*]))))))) (FzL.refl _ _ _) ?_; try (simp only [go_sem, Int.reduceEq, Int.reduceAdd, Int.reduceSub, Int.reduceMul, Nat.reduceLT, Int.reduceLT, Int.reduceLE, Int.reduceToNat, Nat.reduceAdd, Nat.reduceSub, Nat.reduceMul, Nat.reduceLeDiff, reduceCtorEq]))
    congr 1
    apply ba_ext
    rw [ba_app, dd_ge h10]

theorem it_min : Lib.itoa (-9223372036854775808) = [45, 57, 50, 50, 51, 51, 55, 50, 48, 51, 54, 56, 53, 52, 55, 55, 53, 56, 48, 56] := by
  unfold Lib.itoa
  rw [if_pos (by decide), show Int.natAbs (-9223372036854775808) = 9223372036854775808 from rfl]
  repeat rw [dd_ge (by decide)]
  rw [dd_lt (by decide)]
  rfl

theorem num_spec (n : Int) (hn : i64 n) (h : AHeap) : PureA Tryz.prog 17 [.int .i64 n] h (.str (itoaB n)) := by
  by_cases h0 : 0 ≤ n
  · obtain ⟨u, rfl⟩ := Int.eq_ofNat_of_zero_le h0
    have := num_nat u (by have := hn.2; omega) h
    unfold itoaB
    rw [Lib.itoa_nonneg]; exact this
  · by_cases h1 : n = -9223372036854775808
    · subst h1
      (refine PureA.enter (ac := c17) (rs := r17) Tryz.func17 rfl (by decide) c17_ok r17_ok ?_; intro Q hQ; simp only [go_sem, Int.reduceEq, Int.reduceAdd, Int.reduceSub, Int.reduceMul, Nat.reduceLT, Int.reduceLT, Int.reduceLE, Int.reduceToNat, Nat.reduceAdd, Nat.reduceSub, Nat.reduceMul, Nat.reduceLeDiff, reduceCtorEq, c17, Tryz.ntmps17, show IntKind.i64.wrap 9223372036854775808 = -9223372036854775808 from rfl])
      (refine hQ _ _ _ _ _ (by first | exact .inr rfl | exact .inl rfl) rfl (by first | exact FzH.refl _ | exact FzH.sub (by (repeat' (first | exact Sub.refl _ | assumption | (refine Sub.upd ?_ (by first | assumption | (simp only [*]; done) | exact Sub.isNone (by assumption) (by assumption) | exact Sub.isNone (by assumption) (by simp only [*]))))))) (FzL.refl _ _ _) ?_; try (simp only [go_sem, Int.reduceEq, Int.reduceAdd, Int.reduceSub, Int.reduceMul, Nat.reduceLT, Int.reduceLT, Int.reduceLE, Int.reduceToNat, Nat.reduceAdd, Nat.reduceSub, Nat.reduceMul, Nat.reduceLeDiff, reduceCtorEq]))
      unfold itoaB; rw [it_min]
    · obtain ⟨u, hu⟩ := Int.eq_ofNat_of_zero_le (show 0 ≤ -n by omega)
      obtain rfl : n = -(u : Int) := by omega
      have hu2 : u ≤ 9223372036854775807 := by have := hn.1; omega
      have e1 : -(u : Int) < 0 := by omega
      have e2 : IntKind.i64.wrap (0 - -(u : Int)) = (u : Int) := by rw [w64 (by omega) (by omega)]; omega
      have e3 : ¬ (u : Int) < 0 := by omega
      have hlen := Lib.itoa_length_le (u : Nat) (by omega) (by omega)
      rw [Lib.itoa_nonneg] at hlen
      (refine PureA.enter (ac := c17) (rs := r17) Tryz.func17 rfl (by decide) c17_ok r17_ok ?_; intro Q hQ; simp only [go_sem, Int.reduceEq, Int.reduceAdd, Int.reduceSub, Int.reduceMul, Nat.reduceLT, Int.reduceLT, Int.reduceLE, Int.reduceToNat, Nat.reduceAdd, Nat.reduceSub, Nat.reduceMul, Nat.reduceLeDiff, reduceCtorEq, c17, Tryz.ntmps17, e1, e2, e3])
      refine (num_nat u hu2 h).use ?_
      simp only [go_sem, Int.reduceEq, Int.reduceAdd, Int.reduceSub, Int.reduceMul, Nat.reduceLT, Int.reduceLT, Int.reduceLE, Int.reduceToNat, Nat.reduceAdd, Nat.reduceSub, Nat.reduceMul, Nat.reduceLeDiff, reduceCtorEq, cat_str (x := ⟨#[45]⟩) (y := ⟨(Lib.decDigits u).toArray⟩) (by rw [ba_size, ba_size]; simp; omega)]
      (refine hQ _ _ _ _ _ (by first | exact .inr rfl | exact .inl rfl) rfl (by first | exact FzH.refl _ | exact FzH.sub (by (repeat' (first | exact Sub.refl _ | assumption | (refine Sub.upd ?_ (by first | assumption | (simp only [*]; done) | exact Sub.isNone (by assumption) (by assumption) | exact Sub.isNone (by assumption) (by simp only [*]))))))) (FzL.refl _ _ _) ?_; try (simp only [go_sem, Int.reduceEq, Int.reduceAdd, Int.reduceSub, Int.reduceMul, Nat.reduceLT, Int.reduceLT, Int.reduceLE, Int.reduceToNat, Nat.reduceAdd, Nat.reduceSub, Nat.reduceMul, Nat.reduceLeDiff, reduceCtorEq]))
      unfold itoaB
      rw [Lib.itoa_neg u (by omega)]
      congr 1

theorem when_spec (b : Bool) (w : ByteArray) (h : AHeap) : PureA Tryz.prog 14 [.bool b, .str w] h (.str (if b then w else ⟨#[]⟩)) := by
  (refine PureA.enter (ac := c14) (rs := r14) Tryz.func14 rfl (by decide) c14_ok r14_ok ?_; intro Q hQ; simp only [go_sem, Int.reduceEq, Int.reduceAdd, Int.reduceSub, Int.reduceMul, Nat.reduceLT, Int.reduceLT, Int.reduceLE, Int.reduceToNat, Nat.reduceAdd, Nat.reduceSub, Nat.reduceMul, Nat.reduceLeDiff, reduceCtorEq, c14, Tryz.ntmps14])
  cases b
  · simp only [go_sem, Int.reduceEq, Int.reduceAdd, Int.reduceSub, Int.reduceMul, Nat.reduceLT, Int.reduceLT, Int.reduceLE, Int.reduceToNat, Nat.reduceAdd, Nat.reduceSub, Nat.reduceMul, Nat.reduceLeDiff, reduceCtorEq]
    (refine hQ _ _ _ _ _ (by first | exact .inr rfl | exact .inl rfl) rfl (by first | exact FzH.refl _ | exact FzH.sub (by (repeat' (first | exact Sub.refl _ | assumption | (refine Sub.upd ?_ (by first | assumption | (simp only [*]; done) | exact Sub.isNone (by assumption) (by assumption) | exact Sub.isNone (by assumption) (by simp only [*]))))))) (FzL.refl _ _ _) ?_; try (simp only [go_sem, Int.reduceEq, Int.reduceAdd, Int.reduceSub, Int.reduceMul, Nat.reduceLT, Int.reduceLT, Int.reduceLE, Int.reduceToNat, Nat.reduceAdd, Nat.reduceSub, Nat.reduceMul, Nat.reduceLeDiff, reduceCtorEq]))
  · simp only [go_sem, Int.reduceEq, Int.reduceAdd, Int.reduceSub, Int.reduceMul, Nat.reduceLT, Int.reduceLT, Int.reduceLE, Int.reduceToNat, Nat.reduceAdd, Nat.reduceSub, Nat.reduceMul, Nat.reduceLeDiff, reduceCtorEq]
    (refine hQ _ _ _ _ _ (by first | exact .inr rfl | exact .inl rfl) rfl (by first | exact FzH.refl _ | exact FzH.sub (by (repeat' (first | exact Sub.refl _ | assumption | (refine Sub.upd ?_ (by first | assumption | (simp only [*]; done) | exact Sub.isNone (by assumption) (by assumption) | exact Sub.isNone (by assumption) (by simp only [*]))))))) (FzL.refl _ _ _) ?_; try (simp only [go_sem, Int.reduceEq, Int.reduceAdd, Int.reduceSub, Int.reduceMul, Nat.reduceLT, Int.reduceLT, Int.reduceLE, Int.reduceToNat, Nat.reduceAdd, Nat.reduceSub, Nat.reduceMul, Nat.reduceLeDiff, reduceCtorEq]))

theorem numbers_spec (l : List Int) (ex : Bool) (hl : l.length ≤ 10000) (hx : ∀ x ∈ l, i64 x) (h : AHeap) : PureA Tryz.prog 28 [.ro (cat i1 l) l.length ex] h (.ro (cat s1 (l.map itoaB)) l.length false) := by
  refine Grow.pure (esz := 1) ?_
  (refine CallsA.enterR (ac := c28) (rs := r28) Tryz.func28 rfl (by decide) c28_ok r28_ok ?_; intro Q hQ; simp only [go_sem, Int.reduceEq, Int.reduceAdd, Int.reduceSub, Int.reduceMul, Nat.reduceLT, Int.reduceLT, Int.reduceLE, Int.reduceToNat, Nat.reduceAdd, Nat.reduceSub, Nat.reduceMul, Nat.reduceLeDiff, reduceCtorEq, c28, Tryz.ntmps28])
  refine loop_st d28_0 (fun x : Nat × AV => l.length - x.1) (fun x s => (s.set 3 x.2).set 8 (.int .i64 x.1)) (fun x h' => x.1 ≤ l.length ∧ Grow h 1 x.2 (cat s1 ((l.take x.1).map itoaB)) x.1 h') (0, .nils) ?_ ⟨Nat.zero_le _, Grow.nil⟩ ?_
  · (simp only [go_sem, Int.reduceEq, Int.reduceAdd, Int.reduceSub, Int.reduceMul, Nat.reduceLT, Int.reduceLT, Int.reduceLE, Int.reduceToNat, Nat.reduceAdd, Nat.reduceSub, Nat.reduceMul, Nat.reduceLeDiff, reduceCtorEq, d28_0] <;> rfl)
  rintro N ⟨k, v⟩ h1 ⟨hk, g⟩ hN
  dsimp only at hk g hN
  simp only [go_sem, Int.reduceEq, Int.reduceAdd, Int.reduceSub, Int.reduceMul, Nat.reduceLT, Int.reduceLT, Int.reduceLE, Int.reduceToNat, Nat.reduceAdd, Nat.reduceSub, Nat.reduceMul, Nat.reduceLeDiff, reduceCtorEq, d28_0]
  have hadd := wadd1 (k := k) (by omega)
  by_cases hlt : k < l.length
  · have hxk := hx _ (List.getElem_mem hlt)
    simp only [go_sem, Int.reduceEq, Int.reduceAdd, Int.reduceSub, Int.reduceMul, Nat.reduceLT, Int.reduceLT, Int.reduceLE, Int.reduceToNat, Nat.reduceAdd, Nat.reduceSub, Nat.reduceMul, Nat.reduceLeDiff, reduceCtorEq, hlt, rdI hlt]
    refine (itoa_spec l[k] hxk.1 hxk.2 h1).use ?_
    simp only [go_sem, Int.reduceEq, Int.reduceAdd, Int.reduceSub, Int.reduceMul, Nat.reduceLT, Int.reduceLT, Int.reduceLE, Int.reduceToNat, Nat.reduceAdd, Nat.reduceSub, Nat.reduceMul, Nat.reduceLeDiff, reduceCtorEq, co_str]
    refine g.add1 rfl rfl (by omega) fun v' h' g' => ?_
    simp only [go_sem, Int.reduceEq, Int.reduceAdd, Int.reduceSub, Int.reduceMul, Nat.reduceLT, Int.reduceLT, Int.reduceLE, Int.reduceToNat, Nat.reduceAdd, Nat.reduceSub, Nat.reduceMul, Nat.reduceLeDiff, reduceCtorEq, hadd]
    refine hN (k + 1, v') _ _ (by dsimp only; omega) ?_ ⟨hlt, ?_⟩
    · simp only [go_sem, Int.reduceEq, Int.reduceAdd, Int.reduceSub, Int.reduceMul, Nat.reduceLT, Int.reduceLT, Int.reduceLE, Int.reduceToNat, Nat.reduceAdd, Nat.reduceSub, Nat.reduceMul, Nat.reduceLeDiff, reduceCtorEq, d28_0]
    · rw [List.take_succ_eq_append_getElem hlt, List.map_append, cat_append]; exact g'
  · obtain rfl : k = l.length := by omega
    rw [List.take_of_length_le (Nat.le_refl _)] at g
    (simp only [go_sem, Int.reduceEq, Int.reduceAdd, Int.reduceSub, Int.reduceMul, Nat.reduceLT, Int.reduceLT, Int.reduceLE, Int.reduceToNat, Nat.reduceAdd, Nat.reduceSub, Nat.reduceMul, Nat.reduceLeDiff, reduceCtorEq, hlt]; refine frz_id ?_; simp only [go_sem, Int.reduceEq, Int.reduceAdd, Int.reduceSub, Int.reduceMul, Nat.reduceLT, Int.reduceLT, Int.reduceLE, Int.reduceToNat, Nat.reduceAdd, Nat.reduceSub, Nat.reduceMul, Nat.reduceLeDiff, reduceCtorEq])
    refine hQ _ _ _ _ _ [_] (by first | exact .inr rfl | exact .inl rfl) rfl (.refl _) (.refl _ _ _) g

theorem Line.start {h : AHeap} {p : Nat} (hp : h p = none) : Line h 1 p [] 0 (upd h p (.cells [.nils] 1)) := ⟨.nils, h, Grow.nil, hp, rfl⟩

theorem say_spec {h H : AHeap} {p n : Nat} {cs : List AV} (l : Line h 1 p cs n H) (ys : List ByteArray) (ex : Bool) (hb : n + ys.length ≤ 10000) :
    CallsA Tryz.prog 13 [.ptr p 0, .ro (cat s1 ys) ys.length ex] H fun r H' => r = .tup [] ∧ Line h 1 p (cs ++ cat s1 ys) (n + ys.length) H' := by
  obtain ⟨v, h2, g, hp, rfl⟩ := l
  have hp0 := g.none hp
  have g1 := g.more (o := .cells [v] 1) hp
  (refine CallsA.enterR (ac := c13) (rs := r13) Tryz.func13 rfl (by decide) c13_ok r13_ok ?_; intro Q hQ; simp only [go_sem, Int.reduceEq, Int.reduceAdd, Int.reduceSub, Int.reduceMul, Nat.reduceLT, Int.reduceLT, Int.reduceLE, Int.reduceToNat, Nat.reduceAdd, Nat.reduceSub, Nat.reduceMul, Nat.reduceLeDiff, reduceCtorEq, c13, Tryz.ntmps13, upd_same])
  refine g1.addN (m := ys.length) (s1_cat_len ys ▸ (by simp)) (cat_sca s1_sca ys) (by omega) fun v' h' g' => ?_
  have hp' : h' p = some (.cells [v] 1) := g'.keep upd_same
  simp only [go_sem, Int.reduceEq, Int.reduceAdd, Int.reduceSub, Int.reduceMul, Nat.reduceLT, Int.reduceLT, Int.reduceLE, Int.reduceToNat, Nat.reduceAdd, Nat.reduceSub, Nat.reduceMul, Nat.reduceLeDiff, reduceCtorEq, hp', g'.box.1, g'.box.2]
  obtain ⟨h3, g3, k1, k2, k3⟩ := Grow.unpoke hp0 g'
  refine hQ _ _ _ _ _ [] (by first | exact .inr rfl | exact .inl rfl) rfl (.refl _) (.refl _ _ _) ⟨rfl, v', h3, g3, k1, ?_⟩
  rw [← k3]

theorem count_spec {h H : AHeap} {p n : Nat} {cs : List AV} (l : Line h 1 p cs n H) (ys : List Int) (ex : Bool) (hx : ∀ x ∈ ys, i64 x) (hb : n + ys.length ≤ 10000) :
    CallsA Tryz.prog 15 [.ptr p 0, .ro (cat i1 ys) ys.length ex] H fun r H' => r = .tup [] ∧ Line h 1 p (cs ++ cat s1 (ys.map itoaB)) (n + ys.length) H' := by
  (refine CallsA.enterR (ac := c15) (rs := r15) Tryz.func15 rfl (by decide) c15_ok r15_ok ?_; intro Q hQ; simp only [go_sem, Int.reduceEq, Int.reduceAdd, Int.reduceSub, Int.reduceMul, Nat.reduceLT, Int.reduceLT, Int.reduceLE, Int.reduceToNat, Nat.reduceAdd, Nat.reduceSub, Nat.reduceMul, Nat.reduceLeDiff, reduceCtorEq, c15, Tryz.ntmps15])
  refine (numbers_spec ys ex (by omega) hx H).use ?_
  simp only [go_sem, Int.reduceEq, Int.reduceAdd, Int.reduceSub, Int.reduceMul, Nat.reduceLT, Int.reduceLT, Int.reduceLE, Int.reduceToNat, Nat.reduceAdd, Nat.reduceSub, Nat.reduceMul, Nat.reduceLeDiff, reduceCtorEq]
  have hs := say_spec l (ys.map itoaB) false (by rw [List.length_map]; exact hb)
  rw [List.length_map] at hs
  refine hs.use ?_
  rintro r H' ⟨rfl, l'⟩
  simp only [go_sem, Int.reduceEq, Int.reduceAdd, Int.reduceSub, Int.reduceMul, Nat.reduceLT, Int.reduceLT, Int.reduceLE, Int.reduceToNat, Nat.reduceAdd, Nat.reduceSub, Nat.reduceMul, Nat.reduceLeDiff, reduceCtorEq]
  exact hQ _ _ _ _ _ [] (by first | exact .inr rfl | exact .inl rfl) rfl (.refl _) (.refl _ _ _) ⟨rfl, l'⟩

theorem text_spec {h H : AHeap} {p : Nat} {xs : List ByteArray} (l : Line h 1 p (cat s1 xs) xs.length H) (hl : xs.length ≤ 10000) (hx : ∀ x ∈ xs, x.size ≤ 1000000) :
    CallsA Tryz.prog 16 [.ptr p 0] H fun r H' => r = .str (jb ⟨#[32]⟩ (xs.filter neS)) ∧ H' = h := by
  obtain ⟨v, h2, g, hp, rfl⟩ := l
  (refine CallsA.enterR (ac := c16) (rs := r16) Tryz.func16 rfl (by decide) c16_ok r16_ok ?_; intro Q hQ; simp only [go_sem, Int.reduceEq, Int.reduceAdd, Int.reduceSub, Int.reduceMul, Nat.reduceLT, Int.reduceLT, Int.reduceLE, Int.reduceToNat, Nat.reduceAdd, Nat.reduceSub, Nat.reduceMul, Nat.reduceLeDiff, reduceCtorEq, c16, Tryz.ntmps16, upd_same])
  have hsub : Sub h2 (upd h2 p (.cells [v] 1)) := Sub.upd (Sub.refl _) hp
  refine (wjoin_spec ⟨#[32]⟩ xs false h (by show (1 : Nat) ≤ 1000000; omega) hl hx).useH (FzH.sub (g.sub.trans hsub)) (.cons (.refl _) (.cons (Fz_mono hsub (Sub.refl _) g.fz) .nil)) ?_
  simp only [go_sem, Int.reduceEq, Int.reduceAdd, Int.reduceSub, Int.reduceMul, Nat.reduceLT, Int.reduceLT, Int.reduceLE, Int.reduceToNat, Nat.reduceAdd, Nat.reduceSub, Nat.reduceMul, Nat.reduceLeDiff, reduceCtorEq]
  exact hQ _ _ _ _ _ _ (by first | exact .inr rfl | exact .inl rfl) rfl (.refl _) (.refl _ _ _) ⟨rfl, rfl⟩

end Go.Proofs.YteijaibggalapaaGreatDoor
