/-
  The document's bits: rivuletref03.bit, Right, Has: they answer as addr.Right and addr.Has do.
-/
import Derived.Test.YtdlghfekgecjjaaDoorAj
namespace Go.Proofs.YtdlghfekgecjjaaDoor
open Go E
set_option linter.unusedVariables false
set_option linter.unusedSimpArgs false
set_option maxRecDepth 100000

/-! ### Plain -/

def bitB (x : Int) (j : Nat) : Int := x / 2 ^ (7 - j) % 2
def bitI (a : List Int) (i : Nat) : Int := bitB (a.getD (i / 8) 0) (i % 8)

theorem right_nat : ∀ k : Nat, k < 9 → ∀ m : Nat, m < 256 → (decide (cutB (m : Int) (k : Int) = (m : Int)) = (List.range 8).all fun j => decide (j < k) || decide (bitB (m : Int) j = 0)) := by decide +kernel
def sumB (x : Int) (k : Nat) : Int := (List.range 8).foldl (fun s j => s + (if j < k then bitB x j * 2 ^ (7 - j) else 0)) 0
theorem sum_nat : ∀ k : Nat, k < 9 → ∀ m : Nat, m < 256 → cutB (m : Int) (k : Int) = sumB (m : Int) k := by decide +kernel
theorem bit_nat : ∀ k : Nat, k < 9 → ∀ m : Nat, m < 256 → ∀ j : Nat, j < k → bitB (cutB (m : Int) (k : Int)) j = bitB (m : Int) j := by decide +kernel

theorem keep_nat (n : Int) (h0 : 0 ≤ n) (c : Nat) : ∃ k : Nat, keepI n (8 * (c : Int)) = (k : Int) ∧ k < 9 ∧ ∀ j : Nat, j < 8 → (j < k ↔ ((8 * c + j : Nat) : Int) < n) := by
  obtain ⟨k1, k2⟩ := keep_bound n (8 * (c : Int))
  obtain ⟨k, hk⟩ := Int.eq_ofNat_of_zero_le k1
  refine ⟨k, hk, by omega, fun j hj => ?_⟩
  unfold keepI at hk
  (repeat' split at hk) <;> omega

def rightR (a : List Int) (n : Int) : Bool := decide (0 ≤ n) && decide (n ≤ 128) && (List.range 128).all fun i => decide ((i : Int) < n) || decide (bitI a i = 0)

theorem cutL_eq {a b : List Int} (hb : isA b) (n : Int) : cutL a n = b ↔ ∀ c : Nat, c < 16 → cutB (a.getD c 0) (keepI n (8 * (c : Int))) = b.getD c 0 := by
  constructor
  · intro e c hc
    rw [← cutL_at a n c hc, e]
  · intro h
    apply List.ext_getElem (by rw [hb.1]; simp [cutL])
    intro c h1 h2
    have hc : c < 16 := by rw [hb.1] at h2; exact h2
    have e := h c hc
    rw [← cutL_at a n c hc] at e
    simpa [h1, h2] using e

theorem right_eq (a : List Int) (ha : isA a) (n : Int) : rightR a n = rightB a n := by
  unfold rightR rightB
  by_cases hn : 0 ≤ n ∧ n ≤ 128
  · simp only [decide_eq_true hn.1, decide_eq_true hn.2, Bool.true_and]
    rw [Bool.eq_iff_iff]
    simp only [List.all_eq_true, List.mem_range, Bool.or_eq_true, decide_eq_true_eq]
    rw [cutL_eq ha]
    have key : ∀ c : Nat, c < 16 → (cutB (a.getD c 0) (keepI n (8 * (c : Int))) = a.getD c 0 ↔ ∀ j : Nat, j < 8 → ((8 * c + j : Nat) : Int) < n ∨ bitB (a.getD c 0) j = 0) := by
      intro c hc
      obtain ⟨k, hk, hk9, hj⟩ := keep_nat n hn.1 c
      obtain ⟨b0, b1⟩ := getD_byte ha c hc
      obtain ⟨m, hm⟩ := Int.eq_ofNat_of_zero_le b0
      rw [hk, hm]
      have := right_nat k hk9 m (by omega)
      rw [Bool.eq_iff_iff] at this
      simp only [decide_eq_true_eq, List.all_eq_true, List.mem_range, Bool.or_eq_true] at this
      rw [this]
      exact ⟨fun h j hj8 => (h j hj8).imp (fun h => (hj j hj8).1 h) _root_.id, fun h j hj8 => (h j hj8).imp (fun h => (hj j hj8).2 h) _root_.id⟩
    constructor
    · intro h c hc
      rw [key c hc]
      intro j hj
      have := h (8 * c + j) (by omega)
      unfold bitI at this
      rw [show (8 * c + j) / 8 = c by omega, show (8 * c + j) % 8 = j by omega] at this
      exact this
    · intro h i hi
      have := (key (i / 8) (by omega)).1 (h (i / 8) (by omega)) (i % 8) (by omega)
      rw [show 8 * (i / 8) + i % 8 = i by omega] at this
      exact this
  · rcases Classical.not_and_iff_not_or_not.1 hn with h | h
    · simp [decide_eq_false h]
    · simp [decide_eq_false h]

def hasR (p : List Int) (n : Int) (a : List Int) : Bool := rightR p n && (List.range 128).all fun i => !decide ((i : Int) < n) || decide (bitI p i = bitI a i)

theorem sumB_congr {x y : Int} {k : Nat} (h : ∀ j : Nat, j < k → j < 8 → bitB x j = bitB y j) : sumB x k = sumB y k := by
  unfold sumB
  have : ∀ (l : List Nat) (s : Int), (∀ j ∈ l, j < 8) → l.foldl (fun s j => s + (if j < k then bitB x j * 2 ^ (7 - j) else 0)) s = l.foldl (fun s j => s + (if j < k then bitB y j * 2 ^ (7 - j) else 0)) s := by
    intro l
    induction l with
    | nil => intro s _; rfl
    | cons j l ih =>
      intro s hl
      simp only [List.foldl_cons]
      have hj := hl j (by simp)
      by_cases hk : j < k
      · rw [if_pos hk, if_pos hk, h j hk hj]
        exact ih _ fun i hi => hl i (by simp [hi])
      · rw [if_neg hk, if_neg hk]
        exact ih _ fun i hi => hl i (by simp [hi])
  exact this _ _ fun j hj => by simpa using hj

theorem has_eq (p : List Int) (hp : isA p) (n : Int) (a : List Int) (ha : isA a) : hasR p n a = hasB p n a := by
  unfold hasR hasB
  rw [right_eq p hp]
  cases hr : rightB p n
  · simp
  have hn : 0 ≤ n ∧ n ≤ 128 ∧ cutL p n = p := by simpa [rightB, and_assoc] using hr
  simp only [Bool.true_and]
  rw [Bool.eq_iff_iff]
  simp only [List.all_eq_true, List.mem_range, Bool.or_eq_true, Bool.not_eq_true', decide_eq_true_eq, decide_eq_false_iff_not]
  rw [cutL_eq hp]
  have hpp := (cutL_eq hp n).1 hn.2.2
  have key : ∀ c : Nat, c < 16 → (cutB (a.getD c 0) (keepI n (8 * (c : Int))) = p.getD c 0 ↔ ∀ j : Nat, j < 8 → (¬ ((8 * c + j : Nat) : Int) < n) ∨ bitB (p.getD c 0) j = bitB (a.getD c 0) j) := by
    intro c hc
    obtain ⟨k, hk, hk9, hj⟩ := keep_nat n hn.1 c
    obtain ⟨b0, b1⟩ := getD_byte ha c hc
    obtain ⟨m, hm⟩ := Int.eq_ofNat_of_zero_le b0
    obtain ⟨e0, e1⟩ := getD_byte hp c hc
    obtain ⟨q, hq⟩ := Int.eq_ofNat_of_zero_le e0
    have hpc := hpp c hc
    rw [hk, hq] at hpc
    rw [hk, hm, hq]
    constructor
    · intro e j hj8
      by_cases hjk : j < k
      · right
        rw [← e]
        exact bit_nat k hk9 m (by omega) j hjk
      · left
        exact fun h => hjk ((hj j hj8).2 h)
    · intro h
      rw [← hpc, sum_nat k hk9 m (by omega), sum_nat k hk9 q (by omega)]
      exact (sumB_congr fun j hjk hj8 => (h j hj8).resolve_left fun hh => hh ((hj j hj8).1 hjk)).symm
  constructor
  · intro h c hc
    rw [key c hc]
    intro j hj
    have := h (8 * c + j) (by omega)
    unfold bitI at this
    rw [show (8 * c + j) / 8 = c by omega, show (8 * c + j) % 8 = j by omega] at this
    exact this
  · intro h i hi
    have := (key (i / 8) (by omega)).1 (h (i / 8) (by omega)) (i % 8) (by omega)
    rw [show 8 * (i / 8) + i % 8 = i by omega] at this
    exact this

/-! ### Walks -/

theorem bit_spec (a : List Int) (ha : isA a) (i : Nat) (hi : i < 128) (h : AHeap) : PureA Tryd.prog 38 [.agg (cat b1 a), .int .i64 (i : Int)] h (.int .i64 (bitI a i)) := by
  have q8 : binA .quo (.int .i64 (i : Int)) (.int .i64 8) = some (.int .i64 ((i / 8 : Nat) : Int)) := by
    show some (AV.int .i64 (IntKind.i64.wrap ((i : Int).tdiv 8))) = _
    rw [IntWalk.i64_quo _ _ (by omega)]
    rfl
  have r8 : binA .rem (.int .i64 (i : Int)) (.int .i64 8) = some (.int .i64 ((i % 8 : Nat) : Int)) := by
    show some (AV.int .i64 ((i : Int).tmod 8)) = _
    rw [Int.tmod_eq_emod_of_nonneg (by omega)]
    rfl
  have hl : i / 8 < a.length := by rw [ha.1]; omega
  have hb := ha.2 _ (List.getElem_mem hl)
  have rd := rdB (h := h) hl
  have w1 : IntKind.i64.wrap a[i / 8] = a[i / 8] := w64 (by omega) (by omega)
  have hx : a.getD (i / 8) 0 = a[i / 8] := by simp [hl]
  have hbi : bitI a i = a[i / 8] / 2 ^ (7 - i % 8) % 2 := by unfold bitI bitB; rw [hx]
  rw [hbi]
  generalize a[i / 8] = x at *
  (refine PureA.enter (ac := c38) (rs := r38) Tryd.func38 rfl (by decide) c38_ok r38_ok ?_; intro Q hQ; simp only [go_sem, Int.reduceEq, Int.reduceAdd, Int.reduceSub, Int.reduceMul, Nat.reduceLT, Int.reduceLT, Int.reduceLE, Int.reduceToNat, Nat.reduceAdd, Nat.reduceSub, Nat.reduceMul, Nat.reduceLeDiff, reduceCtorEq, c38, Tryd.ntmps38, q8, r8, Int.toNat_natCast, Nat.mul_one, rd, w1])
  refine ⟨by omega, ?_⟩
  refine loop_range d38_0 (7 - i % 8) (fun j s => (s.set 5 (.int .i64 (x / 2 ^ j))).set 6 (.int .i64 ((i % 8 + j : Nat) : Int))) (fun j h' => h' = h) ?_ rfl ?_
  · (simp only [go_sem, Int.reduceEq, Int.reduceAdd, Int.reduceSub, Int.reduceMul, Nat.reduceLT, Int.reduceLT, Int.reduceLE, Int.reduceToNat, Nat.reduceAdd, Nat.reduceSub, Nat.reduceMul, Nat.reduceLeDiff, reduceCtorEq, d38_0] <;> simp)
  rintro N j h' hj rfl hN
  have wadd : IntKind.i64.wrap (((i % 8 + j : Nat) : Int) + 1) = ((i % 8 + (j + 1) : Nat) : Int) := by rw [w64 (by omega) (by omega)]; omega
  have hp : 0 ≤ x / 2 ^ j ∧ x / 2 ^ j ≤ 255 := by
    have h2 : (0 : Int) < 2 ^ j := Int.pow_pos (by omega)
    have h3 := Int.ediv_nonneg hb.1 (Int.le_of_lt h2)
    have h4 : x / 2 ^ j ≤ x := Int.ediv_le_self _ hb.1
    omega
  have wq : IntKind.i64.wrap ((x / 2 ^ j).tdiv 2) = x / 2 ^ (j + 1) := by
    rw [IntWalk.i64_quo _ _ (by omega), Int.pow_succ, Int.ediv_ediv_of_nonneg (Int.le_of_lt (Int.pow_pos (by omega)))]
  have q2 : binA .quo (.int .i64 (x / 2 ^ j)) (.int .i64 2) = some (.int .i64 (x / 2 ^ (j + 1))) := by
    show some (AV.int .i64 (IntKind.i64.wrap ((x / 2 ^ j).tdiv 2))) = _
    rw [wq]
  by_cases hlt : i % 8 + j < 7
  · have c1 : decide (((i % 8 + j : Nat) : Int) < 7) = true := decide_eq_true (by omega)
    simp only [go_sem, Int.reduceEq, Int.reduceAdd, Int.reduceSub, Int.reduceMul, Nat.reduceLT, Int.reduceLT, Int.reduceLE, Int.reduceToNat, Nat.reduceAdd, Nat.reduceSub, Nat.reduceMul, Nat.reduceLeDiff, reduceCtorEq, d38_0, c1, q2, wadd]
    refine hN _ _ (by omega) ?_ rfl
    simp only [go_sem, Int.reduceEq, Int.reduceAdd, Int.reduceSub, Int.reduceMul, Nat.reduceLT, Int.reduceLT, Int.reduceLE, Int.reduceToNat, Nat.reduceAdd, Nat.reduceSub, Nat.reduceMul, Nat.reduceLeDiff, reduceCtorEq, d38_0]
  · have c1 : decide (((i % 8 + j : Nat) : Int) < 7) = false := decide_eq_false (by omega)
    have r2 : binA .rem (.int .i64 (x / 2 ^ j)) (.int .i64 2) = some (.int .i64 (x / 2 ^ j % 2)) := by
      show some (AV.int .i64 ((x / 2 ^ j).tmod 2)) = _
      rw [Int.tmod_eq_emod_of_nonneg hp.1]
    simp only [go_sem, Int.reduceEq, Int.reduceAdd, Int.reduceSub, Int.reduceMul, Nat.reduceLT, Int.reduceLT, Int.reduceLE, Int.reduceToNat, Nat.reduceAdd, Nat.reduceSub, Nat.reduceMul, Nat.reduceLeDiff, reduceCtorEq, d38_0, c1]
    refine frz_id ?_
    simp only [go_sem, Int.reduceEq, Int.reduceAdd, Int.reduceSub, Int.reduceMul, Nat.reduceLT, Int.reduceLT, Int.reduceLE, Int.reduceToNat, Nat.reduceAdd, Nat.reduceSub, Nat.reduceMul, Nat.reduceLeDiff, reduceCtorEq, r2]
    (refine hQ _ _ _ _ _ (by first | exact .inr rfl | exact .inl rfl) rfl (by first | exact FzH.refl _ | exact FzH.sub (by (repeat' (first | exact Sub.refl _ | assumption | (refine Sub.upd ?_ (by first | assumption | (simp only [*]; done) | exact Sub.isNone (by assumption) (by assumption) | exact Sub.isNone (by assumption) (by simp only [*]))))))) (FzL.refl _ _ _) ?_; try (simp only [go_sem, Int.reduceEq, Int.reduceAdd, Int.reduceSub, Int.reduceMul, Nat.reduceLT, Int.reduceLT, Int.reduceLE, Int.reduceToNat, Nat.reduceAdd, Nat.reduceSub, Nat.reduceMul, Nat.reduceLeDiff, reduceCtorEq]))
    rw [show 7 - i % 8 = j by omega]

theorem rright_spec (a : List Int) (ha : isA a) (n : Int) (h : AHeap) : PureA Tryd.prog 25 [.agg (pfx a n)] h (.bool (rightB a n)) := by
  have l17 := pfx_len (n := n) ha.1
  have t16 := pfx_take (n := n) ha.1
  have d16 := pfx_drop (n := n) ha.1
  rw [← right_eq a ha]
  (refine PureA.enter (ac := c25) (rs := r25) Tryd.func25 rfl (by decide) c25_ok r25_ok ?_; intro Q hQ; simp only [go_sem, Int.reduceEq, Int.reduceAdd, Int.reduceSub, Int.reduceMul, Nat.reduceLT, Int.reduceLT, Int.reduceLE, Int.reduceToNat, Nat.reduceAdd, Nat.reduceSub, Nat.reduceMul, Nat.reduceLeDiff, reduceCtorEq, c25, Tryd.ntmps25, d16])
  by_cases h0 : n < 0
  · have c1 : decide (n < 0) = true := decide_eq_true h0
    simp only [go_sem, Int.reduceEq, Int.reduceAdd, Int.reduceSub, Int.reduceMul, Nat.reduceLT, Int.reduceLT, Int.reduceLE, Int.reduceToNat, Nat.reduceAdd, Nat.reduceSub, Nat.reduceMul, Nat.reduceLeDiff, reduceCtorEq, c1]
    (refine hQ _ _ _ _ _ (by first | exact .inr rfl | exact .inl rfl) rfl (by first | exact FzH.refl _ | exact FzH.sub (by (repeat' (first | exact Sub.refl _ | assumption | (refine Sub.upd ?_ (by first | assumption | (simp only [*]; done) | exact Sub.isNone (by assumption) (by assumption) | exact Sub.isNone (by assumption) (by simp only [*]))))))) (FzL.refl _ _ _) ?_; try (simp only [go_sem, Int.reduceEq, Int.reduceAdd, Int.reduceSub, Int.reduceMul, Nat.reduceLT, Int.reduceLT, Int.reduceLE, Int.reduceToNat, Nat.reduceAdd, Nat.reduceSub, Nat.reduceMul, Nat.reduceLeDiff, reduceCtorEq]))
    simp [rightR, show ¬ (0 ≤ n) by omega]
  have c1 : decide (n < 0) = false := decide_eq_false h0
  by_cases h1 : 128 < n
  · have c2 : decide (128 < n) = true := decide_eq_true h1
    simp only [go_sem, Int.reduceEq, Int.reduceAdd, Int.reduceSub, Int.reduceMul, Nat.reduceLT, Int.reduceLT, Int.reduceLE, Int.reduceToNat, Nat.reduceAdd, Nat.reduceSub, Nat.reduceMul, Nat.reduceLeDiff, reduceCtorEq, c1, c2, d16]
    (refine hQ _ _ _ _ _ (by first | exact .inr rfl | exact .inl rfl) rfl (by first | exact FzH.refl _ | exact FzH.sub (by (repeat' (first | exact Sub.refl _ | assumption | (refine Sub.upd ?_ (by first | assumption | (simp only [*]; done) | exact Sub.isNone (by assumption) (by assumption) | exact Sub.isNone (by assumption) (by simp only [*]))))))) (FzL.refl _ _ _) ?_; try (simp only [go_sem, Int.reduceEq, Int.reduceAdd, Int.reduceSub, Int.reduceMul, Nat.reduceLT, Int.reduceLT, Int.reduceLE, Int.reduceToNat, Nat.reduceAdd, Nat.reduceSub, Nat.reduceMul, Nat.reduceLeDiff, reduceCtorEq]))
    simp [rightR, show ¬ (n ≤ 128) by omega]
  have c2 : decide (128 < n) = false := decide_eq_false h1
  simp only [go_sem, Int.reduceEq, Int.reduceAdd, Int.reduceSub, Int.reduceMul, Nat.reduceLT, Int.reduceLT, Int.reduceLE, Int.reduceToNat, Nat.reduceAdd, Nat.reduceSub, Nat.reduceMul, Nat.reduceLeDiff, reduceCtorEq, c1, c2, d16]
  obtain ⟨m, rfl⟩ := Int.eq_ofNat_of_zero_le (show 0 ≤ n by omega)
  have hR : rightR a (m : Int) = (List.range 128).all fun i => decide ((i : Int) < (m : Int)) || decide (bitI a i = 0) := by
    simp [rightR, show (m : Int) ≤ 128 by omega]
  refine loop_range d25_0 (128 - m) (fun j s => s.set 3 (.int .i64 ((m + j : Nat) : Int))) (fun j h' => h' = h ∧ ∀ i, m ≤ i → i < m + j → bitI a i = 0) ?_ ⟨rfl, fun i h1 h2 => by omega⟩ ?_
  · (simp only [go_sem, Int.reduceEq, Int.reduceAdd, Int.reduceSub, Int.reduceMul, Nat.reduceLT, Int.reduceLT, Int.reduceLE, Int.reduceToNat, Nat.reduceAdd, Nat.reduceSub, Nat.reduceMul, Nat.reduceLeDiff, reduceCtorEq, d25_0] <;> rfl)
  rintro N j h' hj ⟨rfl, hz⟩ hN
  have wadd : IntKind.i64.wrap (((m + j : Nat) : Int) + 1) = ((m + (j + 1) : Nat) : Int) := by rw [w64 (by omega) (by omega)]; omega
  by_cases hlt : m + j < 128
  · have c3 : decide (((m + j : Nat) : Int) < 128) = true := decide_eq_true (by omega)
    simp only [go_sem, Int.reduceEq, Int.reduceAdd, Int.reduceSub, Int.reduceMul, Nat.reduceLT, Int.reduceLT, Int.reduceLE, Int.reduceToNat, Nat.reduceAdd, Nat.reduceSub, Nat.reduceMul, Nat.reduceLeDiff, reduceCtorEq, d25_0, c3, l17, t16]
    refine (bit_spec a ha (m + j) hlt _).use ?_
    by_cases hb : bitI a (m + j) = 0
    · simp only [go_sem, Int.reduceEq, Int.reduceAdd, Int.reduceSub, Int.reduceMul, Nat.reduceLT, Int.reduceLT, Int.reduceLE, Int.reduceToNat, Nat.reduceAdd, Nat.reduceSub, Nat.reduceMul, Nat.reduceLeDiff, reduceCtorEq, hb, wadd]
      refine hN _ _ (by omega) ?_ ⟨rfl, fun i h1 h2 => ?_⟩
      · simp only [go_sem, Int.reduceEq, Int.reduceAdd, Int.reduceSub, Int.reduceMul, Nat.reduceLT, Int.reduceLT, Int.reduceLE, Int.reduceToNat, Nat.reduceAdd, Nat.reduceSub, Nat.reduceMul, Nat.reduceLeDiff, reduceCtorEq, d25_0]
      · by_cases e : i = m + j
        · rw [e]; exact hb
        · exact hz i h1 (by omega)
    · have c4 : decide (bitI a (m + j) = 0) = false := decide_eq_false hb
      simp only [go_sem, Int.reduceEq, Int.reduceAdd, Int.reduceSub, Int.reduceMul, Nat.reduceLT, Int.reduceLT, Int.reduceLE, Int.reduceToNat, Nat.reduceAdd, Nat.reduceSub, Nat.reduceMul, Nat.reduceLeDiff, reduceCtorEq, c4]
      (refine hQ _ _ _ _ _ (by first | exact .inr rfl | exact .inl rfl) rfl (by first | exact FzH.refl _ | exact FzH.sub (by (repeat' (first | exact Sub.refl _ | assumption | (refine Sub.upd ?_ (by first | assumption | (simp only [*]; done) | exact Sub.isNone (by assumption) (by assumption) | exact Sub.isNone (by assumption) (by simp only [*]))))))) (FzL.refl _ _ _) ?_; try (simp only [go_sem, Int.reduceEq, Int.reduceAdd, Int.reduceSub, Int.reduceMul, Nat.reduceLT, Int.reduceLT, Int.reduceLE, Int.reduceToNat, Nat.reduceAdd, Nat.reduceSub, Nat.reduceMul, Nat.reduceLeDiff, reduceCtorEq]))
      rw [hR]
      congr 1
      symm
      rw [List.all_eq_false]
      exact ⟨m + j, by simpa using hlt, by simp [hb]; omega⟩
  · have c3 : decide (((m + j : Nat) : Int) < 128) = false := decide_eq_false (by omega)
    simp only [go_sem, Int.reduceEq, Int.reduceAdd, Int.reduceSub, Int.reduceMul, Nat.reduceLT, Int.reduceLT, Int.reduceLE, Int.reduceToNat, Nat.reduceAdd, Nat.reduceSub, Nat.reduceMul, Nat.reduceLeDiff, reduceCtorEq, d25_0, c3]
    refine frz_id ?_
    simp only [go_sem, Int.reduceEq, Int.reduceAdd, Int.reduceSub, Int.reduceMul, Nat.reduceLT, Int.reduceLT, Int.reduceLE, Int.reduceToNat, Nat.reduceAdd, Nat.reduceSub, Nat.reduceMul, Nat.reduceLeDiff, reduceCtorEq]
    (refine hQ _ _ _ _ _ (by first | exact .inr rfl | exact .inl rfl) rfl (by first | exact FzH.refl _ | exact FzH.sub (by (repeat' (first | exact Sub.refl _ | assumption | (refine Sub.upd ?_ (by first | assumption | (simp only [*]; done) | exact Sub.isNone (by assumption) (by assumption) | exact Sub.isNone (by assumption) (by simp only [*]))))))) (FzL.refl _ _ _) ?_; try (simp only [go_sem, Int.reduceEq, Int.reduceAdd, Int.reduceSub, Int.reduceMul, Nat.reduceLT, Int.reduceLT, Int.reduceLE, Int.reduceToNat, Nat.reduceAdd, Nat.reduceSub, Nat.reduceMul, Nat.reduceLeDiff, reduceCtorEq]))
    rw [hR]
    congr 1
    symm
    rw [List.all_eq_true]
    intro i hi
    have hi' : i < 128 := by simpa using hi
    by_cases e : i < m
    · simp [e]
    · simp [hz i (by omega) (by omega)]

theorem rhas_spec (p : List Int) (hp : isA p) (n : Int) (a : List Int) (ha : isA a) (h : AHeap) : PureA Tryd.prog 27 [.agg (pfx p n), .agg (cat b1 a)] h (.bool (hasB p n a)) := by
  have la : (cat b1 a).length = 16 := by rw [cat_len b1_len, ha.1]
  have ta : (cat b1 a).take 16 = cat b1 a := List.take_of_length_le (by omega)
  have l17 := pfx_len (n := n) hp.1
  have t17 : (pfx p n).take 17 = pfx p n := List.take_of_length_le (by omega)
  have t16 := pfx_take (n := n) hp.1
  have d16 := pfx_drop (n := n) hp.1
  rw [← has_eq p hp n a ha]
  (refine PureA.enter (ac := c27) (rs := r27) Tryd.func27 rfl (by decide) c27_ok r27_ok ?_; intro Q hQ; simp only [go_sem, Int.reduceEq, Int.reduceAdd, Int.reduceSub, Int.reduceMul, Nat.reduceLT, Int.reduceLT, Int.reduceLE, Int.reduceToNat, Nat.reduceAdd, Nat.reduceSub, Nat.reduceMul, Nat.reduceLeDiff, reduceCtorEq, c27, Tryd.ntmps27, l17, t17, Nat.le_refl, if_true])
  refine (rright_spec p hp n _).use ?_
  cases hr : rightB p n
  · simp only [go_sem, Int.reduceEq, Int.reduceAdd, Int.reduceSub, Int.reduceMul, Nat.reduceLT, Int.reduceLT, Int.reduceLE, Int.reduceToNat, Nat.reduceAdd, Nat.reduceSub, Nat.reduceMul, Nat.reduceLeDiff, reduceCtorEq]
    (refine hQ _ _ _ _ _ (by first | exact .inr rfl | exact .inl rfl) rfl (by first | exact FzH.refl _ | exact FzH.sub (by (repeat' (first | exact Sub.refl _ | assumption | (refine Sub.upd ?_ (by first | assumption | (simp only [*]; done) | exact Sub.isNone (by assumption) (by assumption) | exact Sub.isNone (by assumption) (by simp only [*]))))))) (FzL.refl _ _ _) ?_; try (simp only [go_sem, Int.reduceEq, Int.reduceAdd, Int.reduceSub, Int.reduceMul, Nat.reduceLT, Int.reduceLT, Int.reduceLE, Int.reduceToNat, Nat.reduceAdd, Nat.reduceSub, Nat.reduceMul, Nat.reduceLeDiff, reduceCtorEq]))
    simp [hasR, right_eq p hp, hr]
  simp only [go_sem, Int.reduceEq, Int.reduceAdd, Int.reduceSub, Int.reduceMul, Nat.reduceLT, Int.reduceLT, Int.reduceLE, Int.reduceToNat, Nat.reduceAdd, Nat.reduceSub, Nat.reduceMul, Nat.reduceLeDiff, reduceCtorEq]
  have hn : 0 ≤ n ∧ n ≤ 128 := by
    simp only [rightB, Bool.and_eq_true, decide_eq_true_eq] at hr
    exact hr.1
  obtain ⟨m, rfl⟩ := Int.eq_ofNat_of_zero_le hn.1
  have hR : hasR p (m : Int) a = (List.range 128).all fun i => !decide ((i : Int) < (m : Int)) || decide (bitI p i = bitI a i) := by
    simp [hasR, right_eq p hp, hr]
  refine loop_range d27_0 m (fun j s => s.set 5 (.int .i64 (j : Int))) (fun j h' => h' = h ∧ ∀ i, i < j → bitI p i = bitI a i) ?_ ⟨rfl, fun i h1 => by omega⟩ ?_
  · (simp only [go_sem, Int.reduceEq, Int.reduceAdd, Int.reduceSub, Int.reduceMul, Nat.reduceLT, Int.reduceLT, Int.reduceLE, Int.reduceToNat, Nat.reduceAdd, Nat.reduceSub, Nat.reduceMul, Nat.reduceLeDiff, reduceCtorEq, d27_0] <;> rfl)
  rintro N j h' hj ⟨rfl, hz⟩ hN
  have wadd := wadd1 (k := j) (by omega)
  by_cases hlt : j < m
  · have c3 : decide (j < m) = true := decide_eq_true hlt
    simp only [go_sem, Int.reduceEq, Int.reduceAdd, Int.reduceSub, Int.reduceMul, Nat.reduceLT, Int.reduceLT, Int.reduceLE, Int.reduceToNat, Nat.reduceAdd, Nat.reduceSub, Nat.reduceMul, Nat.reduceLeDiff, reduceCtorEq, d27_0, c3, l17, t16, d16, la, ta, Nat.le_refl, if_true]
    refine (bit_spec p hp j (by omega) _).use ?_
    simp only [go_sem, Int.reduceEq, Int.reduceAdd, Int.reduceSub, Int.reduceMul, Nat.reduceLT, Int.reduceLT, Int.reduceLE, Int.reduceToNat, Nat.reduceAdd, Nat.reduceSub, Nat.reduceMul, Nat.reduceLeDiff, reduceCtorEq, la, ta, Nat.le_refl, if_true]
    refine (bit_spec a ha j (by omega) _).use ?_
    by_cases hb : bitI p j = bitI a j
    · have c4 : decide (bitI p j = bitI a j) = true := decide_eq_true hb
      simp only [go_sem, Int.reduceEq, Int.reduceAdd, Int.reduceSub, Int.reduceMul, Nat.reduceLT, Int.reduceLT, Int.reduceLE, Int.reduceToNat, Nat.reduceAdd, Nat.reduceSub, Nat.reduceMul, Nat.reduceLeDiff, reduceCtorEq, c4, wadd]
      refine hN _ _ hlt ?_ ⟨rfl, fun i h1 => ?_⟩
      · simp only [go_sem, Int.reduceEq, Int.reduceAdd, Int.reduceSub, Int.reduceMul, Nat.reduceLT, Int.reduceLT, Int.reduceLE, Int.reduceToNat, Nat.reduceAdd, Nat.reduceSub, Nat.reduceMul, Nat.reduceLeDiff, reduceCtorEq, d27_0]
      · by_cases e : i = j
        · rw [e]; exact hb
        · exact hz i (by omega)
    · have c4 : decide (bitI p j = bitI a j) = false := decide_eq_false hb
      simp only [go_sem, Int.reduceEq, Int.reduceAdd, Int.reduceSub, Int.reduceMul, Nat.reduceLT, Int.reduceLT, Int.reduceLE, Int.reduceToNat, Nat.reduceAdd, Nat.reduceSub, Nat.reduceMul, Nat.reduceLeDiff, reduceCtorEq, c4]
      (refine hQ _ _ _ _ _ (by first | exact .inr rfl | exact .inl rfl) rfl (by first | exact FzH.refl _ | exact FzH.sub (by (repeat' (first | exact Sub.refl _ | assumption | (refine Sub.upd ?_ (by first | assumption | (simp only [*]; done) | exact Sub.isNone (by assumption) (by assumption) | exact Sub.isNone (by assumption) (by simp only [*]))))))) (FzL.refl _ _ _) ?_; try (simp only [go_sem, Int.reduceEq, Int.reduceAdd, Int.reduceSub, Int.reduceMul, Nat.reduceLT, Int.reduceLT, Int.reduceLE, Int.reduceToNat, Nat.reduceAdd, Nat.reduceSub, Nat.reduceMul, Nat.reduceLeDiff, reduceCtorEq]))
      rw [hR]
      congr 1
      symm
      rw [List.all_eq_false]
      exact ⟨j, by simp; omega, by simp [hb, hlt]⟩
  · have c3 : decide (j < m) = false := decide_eq_false hlt
    simp only [go_sem, Int.reduceEq, Int.reduceAdd, Int.reduceSub, Int.reduceMul, Nat.reduceLT, Int.reduceLT, Int.reduceLE, Int.reduceToNat, Nat.reduceAdd, Nat.reduceSub, Nat.reduceMul, Nat.reduceLeDiff, reduceCtorEq, d27_0, c3, d16]
    refine frz_id ?_
    simp only [go_sem, Int.reduceEq, Int.reduceAdd, Int.reduceSub, Int.reduceMul, Nat.reduceLT, Int.reduceLT, Int.reduceLE, Int.reduceToNat, Nat.reduceAdd, Nat.reduceSub, Nat.reduceMul, Nat.reduceLeDiff, reduceCtorEq]
    (refine hQ _ _ _ _ _ (by first | exact .inr rfl | exact .inl rfl) rfl (by first | exact FzH.refl _ | exact FzH.sub (by (repeat' (first | exact Sub.refl _ | assumption | (refine Sub.upd ?_ (by first | assumption | (simp only [*]; done) | exact Sub.isNone (by assumption) (by assumption) | exact Sub.isNone (by assumption) (by simp only [*]))))))) (FzL.refl _ _ _) ?_; try (simp only [go_sem, Int.reduceEq, Int.reduceAdd, Int.reduceSub, Int.reduceMul, Nat.reduceLT, Int.reduceLT, Int.reduceLE, Int.reduceToNat, Nat.reduceAdd, Nat.reduceSub, Nat.reduceMul, Nat.reduceLeDiff, reduceCtorEq]))
    rw [hR]
    congr 1
    symm
    rw [List.all_eq_true]
    intro i hi
    by_cases e : i < m
    · simp [hz i (by omega)]
    · simp [e]

end Go.Proofs.YtdlghfekgecjjaaDoor
