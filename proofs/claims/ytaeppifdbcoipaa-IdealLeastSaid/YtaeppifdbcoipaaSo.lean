/-
  Short lists are sorted by insertion.
-/
import Derived.Test.YtaeppifdbcoipaaC1
import Derived.Test.YtaeppifdbcoipaaOw
namespace Go.Proofs.Ytaeppifdbcoipaa
open Go E
set_option linter.unusedVariables false
set_option linter.unusedSimpArgs false
set_option maxRecDepth 100000

/-- A candidate, and an offer or a way: it, and a number. -/
structure Cd where
  n : Int
  r : Int
  k : Int
  deriving DecidableEq
def encC (c : Cd) : List AV := [.int .i64 c.n, .int .i64 c.r, .int .i64 c.k]
structure Off where
  c : Cd
  v : Int
  deriving DecidableEq
def encO (o : Off) : List AV := [.int .i64 o.c.n, .int .i64 o.c.r, .int .i64 o.c.k, .int .i64 o.v]
theorem encC_len (c : Cd) : (encC c).length = 3 := rfl
theorem encC_sca (c : Cd) : (encC c).all scalar = true := rfl
theorem encO_len (c : Off) : (encO c).length = 4 := rfl
theorem encO_sca (c : Off) : (encO c).all scalar = true := rfl

theorem nan_spec (n : Int) (h : AHeap) : PureA Try.prog 144 [.int .i64 n] h (.bool false) := by
  (refine PureA.enter (ac := c144) (rs := r144) Try.func144 rfl (by decide) c144_ok r144_ok ?_; intro Q hQ; simp only [go_sem, Int.reduceEq, Int.reduceAdd, Int.reduceSub, Int.reduceMul, Nat.reduceLT, Int.reduceLT, Int.reduceLE, Int.reduceToNat, Nat.reduceAdd, Nat.reduceSub, Nat.reduceMul, Nat.reduceLeDiff, reduceCtorEq, c144, Try.ntmps144])
  refine hQ _ _ _ _ _ (by first | exact .inr rfl | exact .inl rfl) rfl (by first | exact FzH.refl _ | exact FzH.sub (by (repeat' (first | exact Sub.refl _ | assumption | (refine Sub.upd ?_ (by first | assumption | (simp only [*]; done) | exact Sub.isNone (by assumption) (by assumption) | exact Sub.isNone (by assumption) (by simp only [*]))))))) (FzL.refl _ _ _) ?_
  simp only [go_sem, Int.reduceEq, Int.reduceAdd, Int.reduceSub, Int.reduceMul, Nat.reduceLT, Int.reduceLT, Int.reduceLE, Int.reduceToNat, Nat.reduceAdd, Nat.reduceSub, Nat.reduceMul, Nat.reduceLeDiff, reduceCtorEq]

theorem cmp_spec (a b : Int) (h : AHeap) : PureA Try.prog 100 [.int .i64 a, .int .i64 b] h (.int .i64 (if a < b then -1 else if b < a then 1 else 0)) := by
  (refine PureA.enter (ac := c100) (rs := r100) Try.func100 rfl (by decide) c100_ok r100_ok ?_; intro Q hQ; simp only [go_sem, Int.reduceEq, Int.reduceAdd, Int.reduceSub, Int.reduceMul, Nat.reduceLT, Int.reduceLT, Int.reduceLE, Int.reduceToNat, Nat.reduceAdd, Nat.reduceSub, Nat.reduceMul, Nat.reduceLeDiff, reduceCtorEq, c100, Try.ntmps100])
  refine (nan_spec a h).use ?_
  simp only [go_sem, Int.reduceEq, Int.reduceAdd, Int.reduceSub, Int.reduceMul, Nat.reduceLT, Int.reduceLT, Int.reduceLE, Int.reduceToNat, Nat.reduceAdd, Nat.reduceSub, Nat.reduceMul, Nat.reduceLeDiff, reduceCtorEq]
  refine (nan_spec b h).use ?_
  simp only [go_sem, Int.reduceEq, Int.reduceAdd, Int.reduceSub, Int.reduceMul, Nat.reduceLT, Int.reduceLT, Int.reduceLE, Int.reduceToNat, Nat.reduceAdd, Nat.reduceSub, Nat.reduceMul, Nat.reduceLeDiff, reduceCtorEq]
  repeat' (first | (intro _ hf_; (try simp only [upd_none] at hf_); (try simp only [go_sem, Int.reduceEq, Int.reduceAdd, Int.reduceSub, Int.reduceMul, Nat.reduceLT, Int.reduceLT, Int.reduceLE, Int.reduceToNat, Nat.reduceAdd, Nat.reduceSub, Nat.reduceMul, Nat.reduceLeDiff, reduceCtorEq, upd_ne, ne_eq, not_false_eq_true, *])) | (refine guard_split (fun hb_ => ?_) (fun hb_ => ?_) <;> (try simp only [decide_eq_true_eq, decide_eq_false_iff_not, Bool.not_eq_true', Bool.not_eq_false'] at hb_) <;> (try simp only [go_sem, Int.reduceEq, Int.reduceAdd, Int.reduceSub, Int.reduceMul, Nat.reduceLT, Int.reduceLT, Int.reduceLE, Int.reduceToNat, Nat.reduceAdd, Nat.reduceSub, Nat.reduceMul, Nat.reduceLeDiff, reduceCtorEq, upd_ne, ne_eq, not_false_eq_true, *])) | (refine cond_split (fun hb_ => ?_) (fun hb_ => ?_) <;> (try simp only [decide_eq_true_eq, decide_eq_false_iff_not, Bool.not_eq_true', Bool.not_eq_false'] at hb_) <;> (try simp only [go_sem, Int.reduceEq, Int.reduceAdd, Int.reduceSub, Int.reduceMul, Nat.reduceLT, Int.reduceLT, Int.reduceLE, Int.reduceToNat, Nat.reduceAdd, Nat.reduceSub, Nat.reduceMul, Nat.reduceLeDiff, reduceCtorEq, upd_ne, ne_eq, not_false_eq_true, *])) | (refine readG_split (fun hb_ => ?_) (fun hb_ => ?_) <;> (try simp only [decide_eq_true_eq, decide_eq_false_iff_not, Bool.not_eq_true', Bool.not_eq_false'] at hb_) <;> (try simp only [go_sem, Int.reduceEq, Int.reduceAdd, Int.reduceSub, Int.reduceMul, Nat.reduceLT, Int.reduceLT, Int.reduceLE, Int.reduceToNat, Nat.reduceAdd, Nat.reduceSub, Nat.reduceMul, Nat.reduceLeDiff, reduceCtorEq, upd_ne, ne_eq, not_false_eq_true, *])) | (refine frz_id ?_ <;> (try simp only [go_sem, Int.reduceEq, Int.reduceAdd, Int.reduceSub, Int.reduceMul, Nat.reduceLT, Int.reduceLT, Int.reduceLE, Int.reduceToNat, Nat.reduceAdd, Nat.reduceSub, Nat.reduceMul, Nat.reduceLeDiff, reduceCtorEq, upd_ne, ne_eq, not_false_eq_true, *])))
  all_goals refine hQ _ _ _ _ _ (by first | exact .inr rfl | exact .inl rfl) rfl (by first | exact FzH.refl _ | exact FzH.sub (by (repeat' (first | exact Sub.refl _ | assumption | (refine Sub.upd ?_ (by first | assumption | (simp only [*]; done) | exact Sub.isNone (by assumption) (by assumption) | exact Sub.isNone (by assumption) (by simp only [*]))))))) (FzL.refl _ _ _) ?_
  all_goals simp [*, tupA_one]

def or0 : List Int → Int
  | [] => 0
  | n :: l => if n = 0 then or0 l else n

theorem or_spec (l : List Int) (ex : Bool) (h : AHeap) (hn : l.length ≤ 4611686018427387904) : PureA Try.prog 99 [.ro (cat i1 l) l.length ex] h (.int .i64 (or0 l)) := by
  (refine PureA.enter (ac := c99) (rs := r99) Try.func99 rfl (by decide) c99_ok r99_ok ?_; intro Q hQ; simp only [go_sem, Int.reduceEq, Int.reduceAdd, Int.reduceSub, Int.reduceMul, Nat.reduceLT, Int.reduceLT, Int.reduceLE, Int.reduceToNat, Nat.reduceAdd, Nat.reduceSub, Nat.reduceMul, Nat.reduceLeDiff, reduceCtorEq, c99, Try.ntmps99])
  refine loop_range d99_0 (l.length) (fun k s => s.set 8 (.int .i64 k)) (fun k h' => (or0 (l.drop k) = or0 l) ∧ h' = h) ?_ ⟨rfl, rfl⟩ ?_
  · (simp only [go_sem, Int.reduceEq, Int.reduceAdd, Int.reduceSub, Int.reduceMul, Nat.reduceLT, Int.reduceLT, Int.reduceLE, Int.reduceToNat, Nat.reduceAdd, Nat.reduceSub, Nat.reduceMul, Nat.reduceLeDiff, reduceCtorEq, d99_0] <;> rfl)
  rintro N k h' hk ⟨hall, rfl⟩ hN
  simp only [go_sem, Int.reduceEq, Int.reduceAdd, Int.reduceSub, Int.reduceMul, Nat.reduceLT, Int.reduceLT, Int.reduceLE, Int.reduceToNat, Nat.reduceAdd, Nat.reduceSub, Nat.reduceMul, Nat.reduceLeDiff, reduceCtorEq, d99_0]
  have hadd := wadd1 (k := k) (by omega)
  by_cases hlt : k < l.length
  · rw [List.drop_eq_getElem_cons hlt] at hall
    by_cases hz : l[k] = 0
    · simp only [go_sem, Int.reduceEq, Int.reduceAdd, Int.reduceSub, Int.reduceMul, Nat.reduceLT, Int.reduceLT, Int.reduceLE, Int.reduceToNat, Nat.reduceAdd, Nat.reduceSub, Nat.reduceMul, Nat.reduceLeDiff, reduceCtorEq, hlt, hadd, rdI hlt, hz]
      (refine hN _ _ hlt ?_ ⟨?_, rfl⟩; (simp only [go_sem, Int.reduceEq, Int.reduceAdd, Int.reduceSub, Int.reduceMul, Nat.reduceLT, Int.reduceLT, Int.reduceLE, Int.reduceToNat, Nat.reduceAdd, Nat.reduceSub, Nat.reduceMul, Nat.reduceLeDiff, reduceCtorEq, d99_0]))
      rw [← hall]; simp [or0, hz]
    · have : decide (l[k] = 0) = false := decide_eq_false hz
      simp only [go_sem, Int.reduceEq, Int.reduceAdd, Int.reduceSub, Int.reduceMul, Nat.reduceLT, Int.reduceLT, Int.reduceLE, Int.reduceToNat, Nat.reduceAdd, Nat.reduceSub, Nat.reduceMul, Nat.reduceLeDiff, reduceCtorEq, hlt, hadd, rdI hlt, this]
      refine hQ _ _ _ _ _ (by first | exact .inr rfl | exact .inl rfl) rfl (by first | exact FzH.refl _ | exact FzH.sub (by (repeat' (first | exact Sub.refl _ | assumption | (refine Sub.upd ?_ (by first | assumption | (simp only [*]; done) | exact Sub.isNone (by assumption) (by assumption) | exact Sub.isNone (by assumption) (by simp only [*]))))))) (FzL.refl _ _ _) ?_
      rw [← hall]; simp [or0, hz, tupA_one]
  · (simp only [go_sem, Int.reduceEq, Int.reduceAdd, Int.reduceSub, Int.reduceMul, Nat.reduceLT, Int.reduceLT, Int.reduceLE, Int.reduceToNat, Nat.reduceAdd, Nat.reduceSub, Nat.reduceMul, Nat.reduceLeDiff, reduceCtorEq, hlt]; refine frz_id ?_; simp only [go_sem, Int.reduceEq, Int.reduceAdd, Int.reduceSub, Int.reduceMul, Nat.reduceLT, Int.reduceLT, Int.reduceLE, Int.reduceToNat, Nat.reduceAdd, Nat.reduceSub, Nat.reduceMul, Nat.reduceLeDiff, reduceCtorEq])
    refine hQ _ _ _ _ _ (by first | exact .inr rfl | exact .inl rfl) rfl (by first | exact FzH.refl _ | exact FzH.sub (by (repeat' (first | exact Sub.refl _ | assumption | (refine Sub.upd ?_ (by first | assumption | (simp only [*]; done) | exact Sub.isNone (by assumption) (by assumption) | exact Sub.isNone (by assumption) (by simp only [*]))))))) (FzL.refl _ _ _) ?_
    rw [List.drop_of_length_le (by omega)] at hall
    simp only [go_sem, Int.reduceEq, Int.reduceAdd, Int.reduceSub, Int.reduceMul, Nat.reduceLT, Int.reduceLT, Int.reduceLE, Int.reduceToNat, Nat.reduceAdd, Nat.reduceSub, Nat.reduceMul, Nat.reduceLeDiff, reduceCtorEq, ← hall]
    rfl

theorem len64_spec (n : Nat) (hn : n ≤ 12) (h : AHeap) : CallsA Try.prog 175 [.int .u64 (n : Int)] h (fun r h' => ∃ v, r = .int .i64 v ∧ h' = h) := by
  have h1 : decide ((4294967296 : Int) ≤ (n : Int)) = false := decide_eq_false (by omega)
  have h2 : decide ((65536 : Int) ≤ (n : Int)) = false := decide_eq_false (by omega)
  have h3 : decide ((256 : Int) ≤ (n : Int)) = false := decide_eq_false (by omega)
  have h4 : IntKind.u8.wrap (n : Int) = (n : Int) := by rw [w8]; omega
  (refine CallsA.enterR (ac := c175) (rs := r175) Try.func175 rfl (by decide) c175_ok r175_ok ?_; intro Q hQ; simp only [go_sem, Int.reduceEq, Int.reduceAdd, Int.reduceSub, Int.reduceMul, Nat.reduceLT, Int.reduceLT, Int.reduceLE, Int.reduceToNat, Nat.reduceAdd, Nat.reduceSub, Nat.reduceMul, Nat.reduceLeDiff, reduceCtorEq, c175, Try.ntmps175, h1, h2, h3, h4])
  refine ⟨_, getElem?_pos _ _ (by show n < 256; omega), ?_⟩
  exact hQ _ _ _ _ _ _ (.inr rfl) rfl (FzH.refl _) (FzL.refl _ _ _) ⟨_, rfl, rfl⟩

theorem len_spec (n : Nat) (hn : n ≤ 12) (h : AHeap) : CallsA Try.prog 143 [.int .u64 (n : Int)] h (fun r h' => ∃ v, r = .int .i64 v ∧ h' = h) := by
  (refine CallsA.enterR (ac := c143) (rs := r143) Try.func143 rfl (by decide) c143_ok r143_ok ?_; intro Q hQ; simp only [go_sem, Int.reduceEq, Int.reduceAdd, Int.reduceSub, Int.reduceMul, Nat.reduceLT, Int.reduceLT, Int.reduceLE, Int.reduceToNat, Nat.reduceAdd, Nat.reduceSub, Nat.reduceMul, Nat.reduceLeDiff, reduceCtorEq, c143, Try.ntmps143])
  refine (len64_spec n hn h).use ?_
  rintro r h' ⟨v, rfl, rfl⟩
  simp only [go_sem, Int.reduceEq, Int.reduceAdd, Int.reduceSub, Int.reduceMul, Nat.reduceLT, Int.reduceLT, Int.reduceLE, Int.reduceToNat, Nat.reduceAdd, Nat.reduceSub, Nat.reduceMul, Nat.reduceLeDiff, reduceCtorEq]
  exact hQ _ _ _ _ _ _ (.inr rfl) rfl (FzH.refl _) (FzL.refl _ _ _) ⟨_, rfl, rfl⟩

theorem O_ins (c : Off → Off → Int) (l : List Off) (junk caps : List AV) (g : FuncId) (h0 : AHeap) (id cap tot : Nat) (hid : h0 id = none) (hn : l.length ≤ 4611686018427387904)
    (hc : ∀ a ∈ l, ∀ b ∈ l, ∀ h, PureA Try.prog g (.agg (encO a) :: .agg (encO b) :: caps) h (.int .i64 (c a b))) :
    CallsA Try.prog 166 [.sl id 0 l.length cap, .int .i64 0, .int .i64 (l.length : Int), .fn g caps] (upd h0 id (.cells (cat encO l ++ junk) tot)) (fun r h' => r = .tup [] ∧ h' = upd h0 id (.cells (cat encO (isort c l) ++ junk) tot)) := by
  (refine CallsA.enterR (ac := c166) (rs := r166) Try.func166 rfl (by decide) c166_ok r166_ok ?_; intro Q hQ; simp only [go_sem, Int.reduceEq, Int.reduceAdd, Int.reduceSub, Int.reduceMul, Nat.reduceLT, Int.reduceLT, Int.reduceLE, Int.reduceToNat, Nat.reduceAdd, Nat.reduceSub, Nat.reduceMul, Nat.reduceLeDiff, reduceCtorEq, c166, Try.ntmps166])
  refine loop_rh d166_0 l.length (fun k s => s.set 8 (.int .i64 ((k + 1 : Nat) : Int))) (fun k H => H = upd h0 id (.cells (cat encO (isort c (l.take (k + 1)) ++ l.drop (k + 1)) ++ junk) tot)) ?_ ?_ ?_
  · (simp only [go_sem, Int.reduceEq, Int.reduceAdd, Int.reduceSub, Int.reduceMul, Nat.reduceLT, Int.reduceLT, Int.reduceLE, Int.reduceToNat, Nat.reduceAdd, Nat.reduceSub, Nat.reduceMul, Nat.reduceLeDiff, reduceCtorEq, d166_0] <;> rfl)
  · cases l with
    | nil => rfl
    | cons x l => simp [isort, insR, insRev]
  intro N k H hk hH hN
  subst hH
  simp only [go_sem, Int.reduceEq, Int.reduceAdd, Int.reduceSub, Int.reduceMul, Nat.reduceLT, Int.reduceLT, Int.reduceLE, Int.reduceToNat, Nat.reduceAdd, Nat.reduceSub, Nat.reduceMul, Nat.reduceLeDiff, reduceCtorEq, d166_0]
  by_cases hlt : k + 1 < l.length
  · have hP : (isort c (l.take (k + 1))).length = k + 1 := by rw [isort_len, List.length_take]; omega
    have hdr : l.drop (k + 1) = l[k + 1] :: l.drop (k + 2) := List.drop_eq_getElem_cons hlt
    have hmem : ∀ y ∈ isort c (l.take (k + 1)), y ∈ l := fun y hy => List.mem_of_mem_take (mem_isort.1 hy)
    have hx : l[k + 1] ∈ l := List.getElem_mem hlt
    have hadd := wadd1 (k := k + 1) (by omega)
    rw [hdr]
    simp only [go_sem, Int.reduceEq, Int.reduceAdd, Int.reduceSub, Int.reduceMul, Nat.reduceLT, Int.reduceLT, Int.reduceLE, Int.reduceToNat, Nat.reduceAdd, Nat.reduceSub, Nat.reduceMul, Nat.reduceLeDiff, reduceCtorEq, hlt]
    refine loop_sh d166_1 (fun j => j) (fun j s => s.set 9 (.int .i64 ((j : Nat) : Int))) (fun j H => ∃ A B, A.length = j ∧ isort c (l.take (k + 1)) = A ++ B ∧ insR c A l[k + 1] ++ B = insR c (isort c (l.take (k + 1))) l[k + 1] ∧
      H = upd h0 id (.cells (cat encO (A ++ l[k + 1] :: (B ++ l.drop (k + 2))) ++ junk) tot)) (k + 1) ?_ ⟨_, [], hP, by simp, by simp, by simp⟩ ?_
    · (simp only [go_sem, Int.reduceEq, Int.reduceAdd, Int.reduceSub, Int.reduceMul, Nat.reduceLT, Int.reduceLT, Int.reduceLE, Int.reduceToNat, Nat.reduceAdd, Nat.reduceSub, Nat.reduceMul, Nat.reduceLeDiff, reduceCtorEq, d166_1] <;> rfl)
    rintro N2 j H ⟨A, B, hA, hAB, hins, rfl⟩ hN2
    simp only [go_sem, Int.reduceEq, Int.reduceAdd, Int.reduceSub, Int.reduceMul, Nat.reduceLT, Int.reduceLT, Int.reduceLE, Int.reduceToNat, Nat.reduceAdd, Nat.reduceSub, Nat.reduceMul, Nat.reduceLeDiff, reduceCtorEq, d166_1]
    have done : insR c A l[k + 1] = A ++ [l[k + 1]] → upd h0 id (.cells (cat encO (A ++ l[k + 1] :: (B ++ l.drop (k + 2))) ++ junk) tot) = upd h0 id (.cells (cat encO (isort c (l.take (k + 1 + 1)) ++ l.drop (k + 1 + 1)) ++ junk) tot) := fun e => by
      rw [List.take_succ_eq_append_getElem hlt, isort_snoc, ← hins, e]; simp
    rcases List.eq_nil_or_concat A with rfl | ⟨A', y, rfl⟩
    · simp at hA; subst hA
      simp only [go_sem, Int.reduceEq, Int.reduceAdd, Int.reduceSub, Int.reduceMul, Nat.reduceLT, Int.reduceLT, Int.reduceLE, Int.reduceToNat, Nat.reduceAdd, Nat.reduceSub, Nat.reduceMul, Nat.reduceLeDiff, reduceCtorEq]
      refine frz_id ?_
      simp only [go_sem, Int.reduceEq, Int.reduceAdd, Int.reduceSub, Int.reduceMul, Nat.reduceLT, Int.reduceLT, Int.reduceLE, Int.reduceToNat, Nat.reduceAdd, Nat.reduceSub, Nat.reduceMul, Nat.reduceLeDiff, reduceCtorEq, hadd]
      refine hN _ _ _ (by omega) ?_ (FzH.refl _) (done rfl)
      simp only [go_sem, Int.reduceEq, Int.reduceAdd, Int.reduceSub, Int.reduceMul, Nat.reduceLT, Int.reduceLT, Int.reduceLE, Int.reduceToNat, Nat.reduceAdd, Nat.reduceSub, Nat.reduceMul, Nat.reduceLeDiff, reduceCtorEq, d166_0]
    · simp only [List.concat_eq_append, List.length_append, List.length_cons, List.length_nil] at hA hAB hins done ⊢
      have hlen : A'.length + 1 + B.length = k + 1 := by
        have := congrArg List.length hAB
        rw [hP] at this; simp at this; omega
      have hjlt : j < l.length := by omega
      have hj : j = A'.length + 1 := by omega
      subst hj
      have hj0 : A'.length < l.length := by omega
      have hy : y ∈ l := hmem y (by rw [hAB]; simp)
      have hpos : decide ((0 : Int) < ((A'.length + 1 : Nat) : Int)) = true := decide_eq_true (by omega)
      have hsub : IntKind.i64.wrap (((A'.length + 1 : Nat) : Int) - 1) = ((A'.length : Nat) : Int) := by rw [w64 (by omega) (by omega)]; omega
      have hL : (A' ++ [y]).length = A'.length + 1 := by simp
      have e1 : A' ++ [y] ++ l[k + 1] :: (B ++ l.drop (k + 2)) = A' ++ y :: (l[k + 1] :: (B ++ l.drop (k + 2))) := by simp
      have l1 := own_at (enc := encO) (h0 := h0) (id := id) (tot := tot) (junk := junk) encO_len (A := A') (B := l[k + 1] :: (B ++ l.drop (k + 2))) (x := y)
      have l2 := own_at (enc := encO) (h0 := h0) (id := id) (tot := tot) (junk := junk) encO_len (A := A' ++ [y]) (B := B ++ l.drop (k + 2)) (x := l[k + 1])
      have w1 := own_put (enc := encO) (h0 := h0) (id := id) (tot := tot) (junk := junk) encO_len (A := A' ++ [y]) (B := B ++ l.drop (k + 2)) (x := l[k + 1]) (y := y)
      have w2 := own_put (enc := encO) (h0 := h0) (id := id) (tot := tot) (junk := junk) encO_len (A := A') (B := y :: (B ++ l.drop (k + 2))) (x := y) (y := l[k + 1])
      rw [hL] at l2 w1
      rw [e1] at l2 w1 done
      have e2 : A' ++ [y] ++ y :: (B ++ l.drop (k + 2)) = A' ++ y :: (y :: (B ++ l.drop (k + 2))) := by simp
      rw [e2] at w1
      rw [e1]
      by_cases hcc : c l[k + 1] y < 0
      · simp only [go_sem, Int.reduceEq, Int.reduceAdd, Int.reduceSub, Int.reduceMul, Nat.reduceLT, Int.reduceLT, Int.reduceLE, Int.reduceToNat, Nat.reduceAdd, Nat.reduceSub, Nat.reduceMul, Nat.reduceLeDiff, reduceCtorEq, hpos, hsub, hjlt, hj0, l1, l2, w1, w2, encO_len, encO_sca]
        refine (hc _ hx _ hy _).use ?_
        simp only [go_sem, Int.reduceEq, Int.reduceAdd, Int.reduceSub, Int.reduceMul, Nat.reduceLT, Int.reduceLT, Int.reduceLE, Int.reduceToNat, Nat.reduceAdd, Nat.reduceSub, Nat.reduceMul, Nat.reduceLeDiff, reduceCtorEq, hpos, hsub, hjlt, hj0, l1, l2, w1, w2, encO_len, encO_sca, hcc]
        refine hN2 A'.length _ _ _ (Nat.lt_succ_self _) ?_ (FzH.refl _) ⟨A', y :: B, rfl, by rw [hAB]; simp, by rw [← hins, insR_lt hcc]; simp, by simp⟩
        simp only [go_sem, Int.reduceEq, Int.reduceAdd, Int.reduceSub, Int.reduceMul, Nat.reduceLT, Int.reduceLT, Int.reduceLE, Int.reduceToNat, Nat.reduceAdd, Nat.reduceSub, Nat.reduceMul, Nat.reduceLeDiff, reduceCtorEq, d166_1]
      · simp only [go_sem, Int.reduceEq, Int.reduceAdd, Int.reduceSub, Int.reduceMul, Nat.reduceLT, Int.reduceLT, Int.reduceLE, Int.reduceToNat, Nat.reduceAdd, Nat.reduceSub, Nat.reduceMul, Nat.reduceLeDiff, reduceCtorEq, hpos, hsub, hjlt, hj0, l1, l2, w1, w2, encO_len, encO_sca]
        refine (hc _ hx _ hy _).use ?_
        simp only [go_sem, Int.reduceEq, Int.reduceAdd, Int.reduceSub, Int.reduceMul, Nat.reduceLT, Int.reduceLT, Int.reduceLE, Int.reduceToNat, Nat.reduceAdd, Nat.reduceSub, Nat.reduceMul, Nat.reduceLeDiff, reduceCtorEq, hpos, hsub, hjlt, hj0, l1, l2, w1, w2, encO_len, encO_sca, hcc]
        refine frz_id ?_
        simp only [go_sem, Int.reduceEq, Int.reduceAdd, Int.reduceSub, Int.reduceMul, Nat.reduceLT, Int.reduceLT, Int.reduceLE, Int.reduceToNat, Nat.reduceAdd, Nat.reduceSub, Nat.reduceMul, Nat.reduceLeDiff, reduceCtorEq, hadd]
        refine hN _ _ _ (by omega) ?_ (FzH.refl _) (done (insR_ge hcc))
        simp only [go_sem, Int.reduceEq, Int.reduceAdd, Int.reduceSub, Int.reduceMul, Nat.reduceLT, Int.reduceLT, Int.reduceLE, Int.reduceToNat, Nat.reduceAdd, Nat.reduceSub, Nat.reduceMul, Nat.reduceLeDiff, reduceCtorEq, d166_0]
  · simp only [go_sem, Int.reduceEq, Int.reduceAdd, Int.reduceSub, Int.reduceMul, Nat.reduceLT, Int.reduceLT, Int.reduceLE, Int.reduceToNat, Nat.reduceAdd, Nat.reduceSub, Nat.reduceMul, Nat.reduceLeDiff, reduceCtorEq, hlt]
    refine frz_id ?_
    refine hQ _ _ _ _ _ _ (.inl rfl) rfl (FzH.refl _) (FzL.refl _ _ _) ⟨rfl, ?_⟩
    rw [List.take_of_length_le (by omega), List.drop_of_length_le (by omega), List.append_nil]

theorem O_pdq (c : Off → Off → Int) (l : List Off) (junk caps : List AV) (g : FuncId) (lim : Int) (h0 : AHeap) (id cap tot : Nat) (hid : h0 id = none) (hn : l.length ≤ 12)
    (hc : ∀ a ∈ l, ∀ b ∈ l, ∀ h, PureA Try.prog g (.agg (encO a) :: .agg (encO b) :: caps) h (.int .i64 (c a b))) :
    CallsA Try.prog 142 [.sl id 0 l.length cap, .int .i64 0, .int .i64 (l.length : Int), .int .i64 lim, .fn g caps] (upd h0 id (.cells (cat encO l ++ junk) tot)) (fun r h' => r = .tup [] ∧ h' = upd h0 id (.cells (cat encO (isort c l) ++ junk) tot)) := by
  have hs : IntKind.i64.wrap ((l.length : Int) - 0) = (l.length : Int) := by rw [w64 (by omega) (by omega)]; omega
  have hd : decide ((l.length : Int) ≤ 12) = true := decide_eq_true (by omega)
  (refine CallsA.enterR (ac := c142) (rs := r142) Try.func142 rfl (by decide) c142_ok r142_ok ?_; intro Q hQ; simp only [go_sem, Int.reduceEq, Int.reduceAdd, Int.reduceSub, Int.reduceMul, Nat.reduceLT, Int.reduceLT, Int.reduceLE, Int.reduceToNat, Nat.reduceAdd, Nat.reduceSub, Nat.reduceMul, Nat.reduceLeDiff, reduceCtorEq, c142, Try.ntmps142])
  refine loop_n 1 ?_
  simp only [go_sem, Int.reduceEq, Int.reduceAdd, Int.reduceSub, Int.reduceMul, Nat.reduceLT, Int.reduceLT, Int.reduceLE, Int.reduceToNat, Nat.reduceAdd, Nat.reduceSub, Nat.reduceMul, Nat.reduceLeDiff, reduceCtorEq, loopN, hs, hd]
  refine (O_ins c l junk caps g h0 id cap tot hid (by omega) hc).use ?_
  rintro r h' ⟨rfl, rfl⟩
  simp only [go_sem, Int.reduceEq, Int.reduceAdd, Int.reduceSub, Int.reduceMul, Nat.reduceLT, Int.reduceLT, Int.reduceLE, Int.reduceToNat, Nat.reduceAdd, Nat.reduceSub, Nat.reduceMul, Nat.reduceLeDiff, reduceCtorEq]
  refine hQ _ _ _ _ _ _ (.inr rfl) rfl (FzH.refl _) (FzL.refl _ _ _) ⟨rfl, rfl⟩

theorem O_sort (c : Off → Off → Int) (l : List Off) (junk caps : List AV) (g : FuncId) (h0 : AHeap) (id cap tot : Nat) (hid : h0 id = none) (hn : l.length ≤ 12)
    (hc : ∀ a ∈ l, ∀ b ∈ l, ∀ h, PureA Try.prog g (.agg (encO a) :: .agg (encO b) :: caps) h (.int .i64 (c a b))) :
    CallsA Try.prog 97 [.sl id 0 l.length cap, .fn g caps] (upd h0 id (.cells (cat encO l ++ junk) tot)) (fun r h' => r = .tup [] ∧ h' = upd h0 id (.cells (cat encO (isort c l) ++ junk) tot)) := by
  have hw : IntKind.u64.wrap (l.length : Int) = (l.length : Int) := by rw [wu64]; omega
  (refine CallsA.enterR (ac := c97) (rs := r97) Try.func97 rfl (by decide) c97_ok r97_ok ?_; intro Q hQ; simp only [go_sem, Int.reduceEq, Int.reduceAdd, Int.reduceSub, Int.reduceMul, Nat.reduceLT, Int.reduceLT, Int.reduceLE, Int.reduceToNat, Nat.reduceAdd, Nat.reduceSub, Nat.reduceMul, Nat.reduceLeDiff, reduceCtorEq, c97, Try.ntmps97, hw])
  refine (len_spec l.length hn _).use ?_
  rintro r h' ⟨v, rfl, rfl⟩
  simp only [go_sem, Int.reduceEq, Int.reduceAdd, Int.reduceSub, Int.reduceMul, Nat.reduceLT, Int.reduceLT, Int.reduceLE, Int.reduceToNat, Nat.reduceAdd, Nat.reduceSub, Nat.reduceMul, Nat.reduceLeDiff, reduceCtorEq]
  refine (O_pdq c l junk caps g v h0 id cap tot hid hn hc).use ?_
  rintro r h' ⟨rfl, rfl⟩
  simp only [go_sem, Int.reduceEq, Int.reduceAdd, Int.reduceSub, Int.reduceMul, Nat.reduceLT, Int.reduceLT, Int.reduceLE, Int.reduceToNat, Nat.reduceAdd, Nat.reduceSub, Nat.reduceMul, Nat.reduceLeDiff, reduceCtorEq]
  refine hQ _ _ _ _ _ _ (.inl rfl) rfl (FzH.refl _) (FzL.refl _ _ _) ⟨rfl, rfl⟩

theorem O_ins0 (caps : List AV) (g : FuncId) (h : AHeap) : CallsA Try.prog 166 [.nils, .int .i64 0, .int .i64 0, .fn g caps] h (fun r h' => r = .tup [] ∧ h' = h) := by
  (refine CallsA.enterR (ac := c166) (rs := r166) Try.func166 rfl (by decide) c166_ok r166_ok ?_; intro Q hQ; simp only [go_sem, Int.reduceEq, Int.reduceAdd, Int.reduceSub, Int.reduceMul, Nat.reduceLT, Int.reduceLT, Int.reduceLE, Int.reduceToNat, Nat.reduceAdd, Nat.reduceSub, Nat.reduceMul, Nat.reduceLeDiff, reduceCtorEq, c166, Try.ntmps166])
  refine loop_n 1 ?_
  simp only [go_sem, Int.reduceEq, Int.reduceAdd, Int.reduceSub, Int.reduceMul, Nat.reduceLT, Int.reduceLT, Int.reduceLE, Int.reduceToNat, Nat.reduceAdd, Nat.reduceSub, Nat.reduceMul, Nat.reduceLeDiff, reduceCtorEq, loopN_succ]
  refine frz_id ?_
  refine hQ _ _ _ _ _ _ (.inl rfl) rfl (FzH.refl _) (FzL.refl _ _ _) ⟨rfl, rfl⟩

theorem O_pdq0 (caps : List AV) (g : FuncId) (lim : Int) (h : AHeap) : CallsA Try.prog 142 [.nils, .int .i64 0, .int .i64 0, .int .i64 lim, .fn g caps] h (fun r h' => r = .tup [] ∧ h' = h) := by
  (refine CallsA.enterR (ac := c142) (rs := r142) Try.func142 rfl (by decide) c142_ok r142_ok ?_; intro Q hQ; simp only [go_sem, Int.reduceEq, Int.reduceAdd, Int.reduceSub, Int.reduceMul, Nat.reduceLT, Int.reduceLT, Int.reduceLE, Int.reduceToNat, Nat.reduceAdd, Nat.reduceSub, Nat.reduceMul, Nat.reduceLeDiff, reduceCtorEq, c142, Try.ntmps142])
  refine loop_n 1 ?_
  simp only [go_sem, Int.reduceEq, Int.reduceAdd, Int.reduceSub, Int.reduceMul, Nat.reduceLT, Int.reduceLT, Int.reduceLE, Int.reduceToNat, Nat.reduceAdd, Nat.reduceSub, Nat.reduceMul, Nat.reduceLeDiff, reduceCtorEq, loopN_succ]
  refine (O_ins0 caps g h).use ?_
  rintro r h' ⟨rfl, rfl⟩
  simp only [go_sem, Int.reduceEq, Int.reduceAdd, Int.reduceSub, Int.reduceMul, Nat.reduceLT, Int.reduceLT, Int.reduceLE, Int.reduceToNat, Nat.reduceAdd, Nat.reduceSub, Nat.reduceMul, Nat.reduceLeDiff, reduceCtorEq]
  refine hQ _ _ _ _ _ _ (.inr rfl) rfl (FzH.refl _) (FzL.refl _ _ _) ⟨rfl, rfl⟩

theorem O_sort0 (caps : List AV) (g : FuncId) (h : AHeap) : CallsA Try.prog 97 [.nils, .fn g caps] h (fun r h' => r = .tup [] ∧ h' = h) := by
  (refine CallsA.enterR (ac := c97) (rs := r97) Try.func97 rfl (by decide) c97_ok r97_ok ?_; intro Q hQ; simp only [go_sem, Int.reduceEq, Int.reduceAdd, Int.reduceSub, Int.reduceMul, Nat.reduceLT, Int.reduceLT, Int.reduceLE, Int.reduceToNat, Nat.reduceAdd, Nat.reduceSub, Nat.reduceMul, Nat.reduceLeDiff, reduceCtorEq, c97, Try.ntmps97, show IntKind.u64.wrap 0 = 0 from rfl])
  refine (len_spec 0 (by omega) _).use ?_
  rintro r h' ⟨v, rfl, rfl⟩
  simp only [go_sem, Int.reduceEq, Int.reduceAdd, Int.reduceSub, Int.reduceMul, Nat.reduceLT, Int.reduceLT, Int.reduceLE, Int.reduceToNat, Nat.reduceAdd, Nat.reduceSub, Nat.reduceMul, Nat.reduceLeDiff, reduceCtorEq]
  refine (O_pdq0 caps g v _).use ?_
  rintro r h' ⟨rfl, rfl⟩
  simp only [go_sem, Int.reduceEq, Int.reduceAdd, Int.reduceSub, Int.reduceMul, Nat.reduceLT, Int.reduceLT, Int.reduceLE, Int.reduceToNat, Nat.reduceAdd, Nat.reduceSub, Nat.reduceMul, Nat.reduceLeDiff, reduceCtorEq]
  refine hQ _ _ _ _ _ _ (.inl rfl) rfl (FzH.refl _) (FzL.refl _ _ _) ⟨rfl, rfl⟩

theorem O_sortG (c : Off → Off → Int) (l : List Off) (caps : List AV) (g : FuncId) (h0 H : AHeap) (v : AV) (n : Nat) (he : n = l.length) (gr : Grow h0 4 v (cat encO l) n H) (hw : Wr v) (hn : l.length ≤ 12)
    (hc : ∀ a ∈ l, ∀ b ∈ l, ∀ h, PureA Try.prog g (.agg (encO a) :: .agg (encO b) :: caps) h (.int .i64 (c a b))) :
    CallsA Try.prog 97 [v, .fn g caps] H (fun r h' => r = .tup [] ∧ Grow h0 4 v (cat encO (isort c l)) n h') := by
  subst he
  have hs := gr.sca
  rcases gr.how with ⟨rfl, hl, rfl⟩ | ⟨rfl, _⟩ | ⟨id, cap, junk, tot, rfl, hcap, hT, hid, rfl⟩
  · rw [List.length_eq_zero_iff] at hl; subst hl
    refine (O_sort0 caps g _).mono ?_
    rintro r h' ⟨rfl, rfl⟩
    exact ⟨rfl, gr⟩
  · exact absurd rfl (hw _ _ _)
  · refine (O_sort c l junk caps g h0 id cap _ hid hn hc).mono ?_
    rintro r h' ⟨rfl, rfl⟩
    exact ⟨rfl, by rw [cat_len encO_len, isort_len], cat_sca encO_sca _, .inr (.inr ⟨id, cap, junk, tot, rfl, hcap, hT, hid, rfl⟩)⟩


theorem W_ins (c : Off → Off → Int) (l : List Off) (junk caps : List AV) (g : FuncId) (h0 : AHeap) (id cap tot : Nat) (hid : h0 id = none) (hn : l.length ≤ 4611686018427387904)
    (hc : ∀ a ∈ l, ∀ b ∈ l, ∀ h, PureA Try.prog g (.agg (encO a) :: .agg (encO b) :: caps) h (.int .i64 (c a b))) :
    CallsA Try.prog 181 [.sl id 0 l.length cap, .int .i64 0, .int .i64 (l.length : Int), .fn g caps] (upd h0 id (.cells (cat encO l ++ junk) tot)) (fun r h' => r = .tup [] ∧ h' = upd h0 id (.cells (cat encO (isort c l) ++ junk) tot)) := by
  (refine CallsA.enterR (ac := c181) (rs := r181) Try.func181 rfl (by decide) c181_ok r181_ok ?_; intro Q hQ; simp only [go_sem, Int.reduceEq, Int.reduceAdd, Int.reduceSub, Int.reduceMul, Nat.reduceLT, Int.reduceLT, Int.reduceLE, Int.reduceToNat, Nat.reduceAdd, Nat.reduceSub, Nat.reduceMul, Nat.reduceLeDiff, reduceCtorEq, c181, Try.ntmps181])
  refine loop_rh d181_0 l.length (fun k s => s.set 8 (.int .i64 ((k + 1 : Nat) : Int))) (fun k H => H = upd h0 id (.cells (cat encO (isort c (l.take (k + 1)) ++ l.drop (k + 1)) ++ junk) tot)) ?_ ?_ ?_
  · (simp only [go_sem, Int.reduceEq, Int.reduceAdd, Int.reduceSub, Int.reduceMul, Nat.reduceLT, Int.reduceLT, Int.reduceLE, Int.reduceToNat, Nat.reduceAdd, Nat.reduceSub, Nat.reduceMul, Nat.reduceLeDiff, reduceCtorEq, d181_0] <;> rfl)
  · cases l with
    | nil => rfl
    | cons x l => simp [isort, insR, insRev]
  intro N k H hk hH hN
  subst hH
  simp only [go_sem, Int.reduceEq, Int.reduceAdd, Int.reduceSub, Int.reduceMul, Nat.reduceLT, Int.reduceLT, Int.reduceLE, Int.reduceToNat, Nat.reduceAdd, Nat.reduceSub, Nat.reduceMul, Nat.reduceLeDiff, reduceCtorEq, d181_0]
  by_cases hlt : k + 1 < l.length
  · have hP : (isort c (l.take (k + 1))).length = k + 1 := by rw [isort_len, List.length_take]; omega
    have hdr : l.drop (k + 1) = l[k + 1] :: l.drop (k + 2) := List.drop_eq_getElem_cons hlt
    have hmem : ∀ y ∈ isort c (l.take (k + 1)), y ∈ l := fun y hy => List.mem_of_mem_take (mem_isort.1 hy)
    have hx : l[k + 1] ∈ l := List.getElem_mem hlt
    have hadd := wadd1 (k := k + 1) (by omega)
    rw [hdr]
    simp only [go_sem, Int.reduceEq, Int.reduceAdd, Int.reduceSub, Int.reduceMul, Nat.reduceLT, Int.reduceLT, Int.reduceLE, Int.reduceToNat, Nat.reduceAdd, Nat.reduceSub, Nat.reduceMul, Nat.reduceLeDiff, reduceCtorEq, hlt]
    refine loop_sh d181_1 (fun j => j) (fun j s => s.set 9 (.int .i64 ((j : Nat) : Int))) (fun j H => ∃ A B, A.length = j ∧ isort c (l.take (k + 1)) = A ++ B ∧ insR c A l[k + 1] ++ B = insR c (isort c (l.take (k + 1))) l[k + 1] ∧
      H = upd h0 id (.cells (cat encO (A ++ l[k + 1] :: (B ++ l.drop (k + 2))) ++ junk) tot)) (k + 1) ?_ ⟨_, [], hP, by simp, by simp, by simp⟩ ?_
    · (simp only [go_sem, Int.reduceEq, Int.reduceAdd, Int.reduceSub, Int.reduceMul, Nat.reduceLT, Int.reduceLT, Int.reduceLE, Int.reduceToNat, Nat.reduceAdd, Nat.reduceSub, Nat.reduceMul, Nat.reduceLeDiff, reduceCtorEq, d181_1] <;> rfl)
    rintro N2 j H ⟨A, B, hA, hAB, hins, rfl⟩ hN2
    simp only [go_sem, Int.reduceEq, Int.reduceAdd, Int.reduceSub, Int.reduceMul, Nat.reduceLT, Int.reduceLT, Int.reduceLE, Int.reduceToNat, Nat.reduceAdd, Nat.reduceSub, Nat.reduceMul, Nat.reduceLeDiff, reduceCtorEq, d181_1]
    have done : insR c A l[k + 1] = A ++ [l[k + 1]] → upd h0 id (.cells (cat encO (A ++ l[k + 1] :: (B ++ l.drop (k + 2))) ++ junk) tot) = upd h0 id (.cells (cat encO (isort c (l.take (k + 1 + 1)) ++ l.drop (k + 1 + 1)) ++ junk) tot) := fun e => by
      rw [List.take_succ_eq_append_getElem hlt, isort_snoc, ← hins, e]; simp
    rcases List.eq_nil_or_concat A with rfl | ⟨A', y, rfl⟩
    · simp at hA; subst hA
      simp only [go_sem, Int.reduceEq, Int.reduceAdd, Int.reduceSub, Int.reduceMul, Nat.reduceLT, Int.reduceLT, Int.reduceLE, Int.reduceToNat, Nat.reduceAdd, Nat.reduceSub, Nat.reduceMul, Nat.reduceLeDiff, reduceCtorEq]
      refine frz_id ?_
      simp only [go_sem, Int.reduceEq, Int.reduceAdd, Int.reduceSub, Int.reduceMul, Nat.reduceLT, Int.reduceLT, Int.reduceLE, Int.reduceToNat, Nat.reduceAdd, Nat.reduceSub, Nat.reduceMul, Nat.reduceLeDiff, reduceCtorEq, hadd]
      refine hN _ _ _ (by omega) ?_ (FzH.refl _) (done rfl)
      simp only [go_sem, Int.reduceEq, Int.reduceAdd, Int.reduceSub, Int.reduceMul, Nat.reduceLT, Int.reduceLT, Int.reduceLE, Int.reduceToNat, Nat.reduceAdd, Nat.reduceSub, Nat.reduceMul, Nat.reduceLeDiff, reduceCtorEq, d181_0]
    · simp only [List.concat_eq_append, List.length_append, List.length_cons, List.length_nil] at hA hAB hins done ⊢
      have hlen : A'.length + 1 + B.length = k + 1 := by
        have := congrArg List.length hAB
        rw [hP] at this; simp at this; omega
      have hjlt : j < l.length := by omega
      have hj : j = A'.length + 1 := by omega
      subst hj
      have hj0 : A'.length < l.length := by omega
      have hy : y ∈ l := hmem y (by rw [hAB]; simp)
      have hpos : decide ((0 : Int) < ((A'.length + 1 : Nat) : Int)) = true := decide_eq_true (by omega)
      have hsub : IntKind.i64.wrap (((A'.length + 1 : Nat) : Int) - 1) = ((A'.length : Nat) : Int) := by rw [w64 (by omega) (by omega)]; omega
      have hL : (A' ++ [y]).length = A'.length + 1 := by simp
      have e1 : A' ++ [y] ++ l[k + 1] :: (B ++ l.drop (k + 2)) = A' ++ y :: (l[k + 1] :: (B ++ l.drop (k + 2))) := by simp
      have l1 := own_at (enc := encO) (h0 := h0) (id := id) (tot := tot) (junk := junk) encO_len (A := A') (B := l[k + 1] :: (B ++ l.drop (k + 2))) (x := y)
      have l2 := own_at (enc := encO) (h0 := h0) (id := id) (tot := tot) (junk := junk) encO_len (A := A' ++ [y]) (B := B ++ l.drop (k + 2)) (x := l[k + 1])
      have w1 := own_put (enc := encO) (h0 := h0) (id := id) (tot := tot) (junk := junk) encO_len (A := A' ++ [y]) (B := B ++ l.drop (k + 2)) (x := l[k + 1]) (y := y)
      have w2 := own_put (enc := encO) (h0 := h0) (id := id) (tot := tot) (junk := junk) encO_len (A := A') (B := y :: (B ++ l.drop (k + 2))) (x := y) (y := l[k + 1])
      rw [hL] at l2 w1
      rw [e1] at l2 w1 done
      have e2 : A' ++ [y] ++ y :: (B ++ l.drop (k + 2)) = A' ++ y :: (y :: (B ++ l.drop (k + 2))) := by simp
      rw [e2] at w1
      rw [e1]
      by_cases hcc : c l[k + 1] y < 0
      · simp only [go_sem, Int.reduceEq, Int.reduceAdd, Int.reduceSub, Int.reduceMul, Nat.reduceLT, Int.reduceLT, Int.reduceLE, Int.reduceToNat, Nat.reduceAdd, Nat.reduceSub, Nat.reduceMul, Nat.reduceLeDiff, reduceCtorEq, hpos, hsub, hjlt, hj0, l1, l2, w1, w2, encO_len, encO_sca]
        refine (hc _ hx _ hy _).use ?_
        simp only [go_sem, Int.reduceEq, Int.reduceAdd, Int.reduceSub, Int.reduceMul, Nat.reduceLT, Int.reduceLT, Int.reduceLE, Int.reduceToNat, Nat.reduceAdd, Nat.reduceSub, Nat.reduceMul, Nat.reduceLeDiff, reduceCtorEq, hpos, hsub, hjlt, hj0, l1, l2, w1, w2, encO_len, encO_sca, hcc]
        refine hN2 A'.length _ _ _ (Nat.lt_succ_self _) ?_ (FzH.refl _) ⟨A', y :: B, rfl, by rw [hAB]; simp, by rw [← hins, insR_lt hcc]; simp, by simp⟩
        simp only [go_sem, Int.reduceEq, Int.reduceAdd, Int.reduceSub, Int.reduceMul, Nat.reduceLT, Int.reduceLT, Int.reduceLE, Int.reduceToNat, Nat.reduceAdd, Nat.reduceSub, Nat.reduceMul, Nat.reduceLeDiff, reduceCtorEq, d181_1]
      · simp only [go_sem, Int.reduceEq, Int.reduceAdd, Int.reduceSub, Int.reduceMul, Nat.reduceLT, Int.reduceLT, Int.reduceLE, Int.reduceToNat, Nat.reduceAdd, Nat.reduceSub, Nat.reduceMul, Nat.reduceLeDiff, reduceCtorEq, hpos, hsub, hjlt, hj0, l1, l2, w1, w2, encO_len, encO_sca]
        refine (hc _ hx _ hy _).use ?_
        simp only [go_sem, Int.reduceEq, Int.reduceAdd, Int.reduceSub, Int.reduceMul, Nat.reduceLT, Int.reduceLT, Int.reduceLE, Int.reduceToNat, Nat.reduceAdd, Nat.reduceSub, Nat.reduceMul, Nat.reduceLeDiff, reduceCtorEq, hpos, hsub, hjlt, hj0, l1, l2, w1, w2, encO_len, encO_sca, hcc]
        refine frz_id ?_
        simp only [go_sem, Int.reduceEq, Int.reduceAdd, Int.reduceSub, Int.reduceMul, Nat.reduceLT, Int.reduceLT, Int.reduceLE, Int.reduceToNat, Nat.reduceAdd, Nat.reduceSub, Nat.reduceMul, Nat.reduceLeDiff, reduceCtorEq, hadd]
        refine hN _ _ _ (by omega) ?_ (FzH.refl _) (done (insR_ge hcc))
        simp only [go_sem, Int.reduceEq, Int.reduceAdd, Int.reduceSub, Int.reduceMul, Nat.reduceLT, Int.reduceLT, Int.reduceLE, Int.reduceToNat, Nat.reduceAdd, Nat.reduceSub, Nat.reduceMul, Nat.reduceLeDiff, reduceCtorEq, d181_0]
  · simp only [go_sem, Int.reduceEq, Int.reduceAdd, Int.reduceSub, Int.reduceMul, Nat.reduceLT, Int.reduceLT, Int.reduceLE, Int.reduceToNat, Nat.reduceAdd, Nat.reduceSub, Nat.reduceMul, Nat.reduceLeDiff, reduceCtorEq, hlt]
    refine frz_id ?_
    refine hQ _ _ _ _ _ _ (.inl rfl) rfl (FzH.refl _) (FzL.refl _ _ _) ⟨rfl, ?_⟩
    rw [List.take_of_length_le (by omega), List.drop_of_length_le (by omega), List.append_nil]

theorem W_pdq (c : Off → Off → Int) (l : List Off) (junk caps : List AV) (g : FuncId) (lim : Int) (h0 : AHeap) (id cap tot : Nat) (hid : h0 id = none) (hn : l.length ≤ 12)
    (hc : ∀ a ∈ l, ∀ b ∈ l, ∀ h, PureA Try.prog g (.agg (encO a) :: .agg (encO b) :: caps) h (.int .i64 (c a b))) :
    CallsA Try.prog 165 [.sl id 0 l.length cap, .int .i64 0, .int .i64 (l.length : Int), .int .i64 lim, .fn g caps] (upd h0 id (.cells (cat encO l ++ junk) tot)) (fun r h' => r = .tup [] ∧ h' = upd h0 id (.cells (cat encO (isort c l) ++ junk) tot)) := by
  have hs : IntKind.i64.wrap ((l.length : Int) - 0) = (l.length : Int) := by rw [w64 (by omega) (by omega)]; omega
  have hd : decide ((l.length : Int) ≤ 12) = true := decide_eq_true (by omega)
  (refine CallsA.enterR (ac := c165) (rs := r165) Try.func165 rfl (by decide) c165_ok r165_ok ?_; intro Q hQ; simp only [go_sem, Int.reduceEq, Int.reduceAdd, Int.reduceSub, Int.reduceMul, Nat.reduceLT, Int.reduceLT, Int.reduceLE, Int.reduceToNat, Nat.reduceAdd, Nat.reduceSub, Nat.reduceMul, Nat.reduceLeDiff, reduceCtorEq, c165, Try.ntmps165])
  refine loop_n 1 ?_
  simp only [go_sem, Int.reduceEq, Int.reduceAdd, Int.reduceSub, Int.reduceMul, Nat.reduceLT, Int.reduceLT, Int.reduceLE, Int.reduceToNat, Nat.reduceAdd, Nat.reduceSub, Nat.reduceMul, Nat.reduceLeDiff, reduceCtorEq, loopN, hs, hd]
  refine (W_ins c l junk caps g h0 id cap tot hid (by omega) hc).use ?_
  rintro r h' ⟨rfl, rfl⟩
  simp only [go_sem, Int.reduceEq, Int.reduceAdd, Int.reduceSub, Int.reduceMul, Nat.reduceLT, Int.reduceLT, Int.reduceLE, Int.reduceToNat, Nat.reduceAdd, Nat.reduceSub, Nat.reduceMul, Nat.reduceLeDiff, reduceCtorEq]
  refine hQ _ _ _ _ _ _ (.inr rfl) rfl (FzH.refl _) (FzL.refl _ _ _) ⟨rfl, rfl⟩

theorem W_sort (c : Off → Off → Int) (l : List Off) (junk caps : List AV) (g : FuncId) (h0 : AHeap) (id cap tot : Nat) (hid : h0 id = none) (hn : l.length ≤ 12)
    (hc : ∀ a ∈ l, ∀ b ∈ l, ∀ h, PureA Try.prog g (.agg (encO a) :: .agg (encO b) :: caps) h (.int .i64 (c a b))) :
    CallsA Try.prog 138 [.sl id 0 l.length cap, .fn g caps] (upd h0 id (.cells (cat encO l ++ junk) tot)) (fun r h' => r = .tup [] ∧ h' = upd h0 id (.cells (cat encO (isort c l) ++ junk) tot)) := by
  have hw : IntKind.u64.wrap (l.length : Int) = (l.length : Int) := by rw [wu64]; omega
  (refine CallsA.enterR (ac := c138) (rs := r138) Try.func138 rfl (by decide) c138_ok r138_ok ?_; intro Q hQ; simp only [go_sem, Int.reduceEq, Int.reduceAdd, Int.reduceSub, Int.reduceMul, Nat.reduceLT, Int.reduceLT, Int.reduceLE, Int.reduceToNat, Nat.reduceAdd, Nat.reduceSub, Nat.reduceMul, Nat.reduceLeDiff, reduceCtorEq, c138, Try.ntmps138, hw])
  refine (len_spec l.length hn _).use ?_
  rintro r h' ⟨v, rfl, rfl⟩
  simp only [go_sem, Int.reduceEq, Int.reduceAdd, Int.reduceSub, Int.reduceMul, Nat.reduceLT, Int.reduceLT, Int.reduceLE, Int.reduceToNat, Nat.reduceAdd, Nat.reduceSub, Nat.reduceMul, Nat.reduceLeDiff, reduceCtorEq]
  refine (W_pdq c l junk caps g v h0 id cap tot hid hn hc).use ?_
  rintro r h' ⟨rfl, rfl⟩
  simp only [go_sem, Int.reduceEq, Int.reduceAdd, Int.reduceSub, Int.reduceMul, Nat.reduceLT, Int.reduceLT, Int.reduceLE, Int.reduceToNat, Nat.reduceAdd, Nat.reduceSub, Nat.reduceMul, Nat.reduceLeDiff, reduceCtorEq]
  refine hQ _ _ _ _ _ _ (.inl rfl) rfl (FzH.refl _) (FzL.refl _ _ _) ⟨rfl, rfl⟩

theorem W_ins0 (caps : List AV) (g : FuncId) (h : AHeap) : CallsA Try.prog 181 [.nils, .int .i64 0, .int .i64 0, .fn g caps] h (fun r h' => r = .tup [] ∧ h' = h) := by
  (refine CallsA.enterR (ac := c181) (rs := r181) Try.func181 rfl (by decide) c181_ok r181_ok ?_; intro Q hQ; simp only [go_sem, Int.reduceEq, Int.reduceAdd, Int.reduceSub, Int.reduceMul, Nat.reduceLT, Int.reduceLT, Int.reduceLE, Int.reduceToNat, Nat.reduceAdd, Nat.reduceSub, Nat.reduceMul, Nat.reduceLeDiff, reduceCtorEq, c181, Try.ntmps181])
  refine loop_n 1 ?_
  simp only [go_sem, Int.reduceEq, Int.reduceAdd, Int.reduceSub, Int.reduceMul, Nat.reduceLT, Int.reduceLT, Int.reduceLE, Int.reduceToNat, Nat.reduceAdd, Nat.reduceSub, Nat.reduceMul, Nat.reduceLeDiff, reduceCtorEq, loopN_succ]
  refine frz_id ?_
  refine hQ _ _ _ _ _ _ (.inl rfl) rfl (FzH.refl _) (FzL.refl _ _ _) ⟨rfl, rfl⟩

theorem W_pdq0 (caps : List AV) (g : FuncId) (lim : Int) (h : AHeap) : CallsA Try.prog 165 [.nils, .int .i64 0, .int .i64 0, .int .i64 lim, .fn g caps] h (fun r h' => r = .tup [] ∧ h' = h) := by
  (refine CallsA.enterR (ac := c165) (rs := r165) Try.func165 rfl (by decide) c165_ok r165_ok ?_; intro Q hQ; simp only [go_sem, Int.reduceEq, Int.reduceAdd, Int.reduceSub, Int.reduceMul, Nat.reduceLT, Int.reduceLT, Int.reduceLE, Int.reduceToNat, Nat.reduceAdd, Nat.reduceSub, Nat.reduceMul, Nat.reduceLeDiff, reduceCtorEq, c165, Try.ntmps165])
  refine loop_n 1 ?_
  simp only [go_sem, Int.reduceEq, Int.reduceAdd, Int.reduceSub, Int.reduceMul, Nat.reduceLT, Int.reduceLT, Int.reduceLE, Int.reduceToNat, Nat.reduceAdd, Nat.reduceSub, Nat.reduceMul, Nat.reduceLeDiff, reduceCtorEq, loopN_succ]
  refine (W_ins0 caps g h).use ?_
  rintro r h' ⟨rfl, rfl⟩
  simp only [go_sem, Int.reduceEq, Int.reduceAdd, Int.reduceSub, Int.reduceMul, Nat.reduceLT, Int.reduceLT, Int.reduceLE, Int.reduceToNat, Nat.reduceAdd, Nat.reduceSub, Nat.reduceMul, Nat.reduceLeDiff, reduceCtorEq]
  refine hQ _ _ _ _ _ _ (.inr rfl) rfl (FzH.refl _) (FzL.refl _ _ _) ⟨rfl, rfl⟩

theorem W_sort0 (caps : List AV) (g : FuncId) (h : AHeap) : CallsA Try.prog 138 [.nils, .fn g caps] h (fun r h' => r = .tup [] ∧ h' = h) := by
  (refine CallsA.enterR (ac := c138) (rs := r138) Try.func138 rfl (by decide) c138_ok r138_ok ?_; intro Q hQ; simp only [go_sem, Int.reduceEq, Int.reduceAdd, Int.reduceSub, Int.reduceMul, Nat.reduceLT, Int.reduceLT, Int.reduceLE, Int.reduceToNat, Nat.reduceAdd, Nat.reduceSub, Nat.reduceMul, Nat.reduceLeDiff, reduceCtorEq, c138, Try.ntmps138, show IntKind.u64.wrap 0 = 0 from rfl])
  refine (len_spec 0 (by omega) _).use ?_
  rintro r h' ⟨v, rfl, rfl⟩
  simp only [go_sem, Int.reduceEq, Int.reduceAdd, Int.reduceSub, Int.reduceMul, Nat.reduceLT, Int.reduceLT, Int.reduceLE, Int.reduceToNat, Nat.reduceAdd, Nat.reduceSub, Nat.reduceMul, Nat.reduceLeDiff, reduceCtorEq]
  refine (W_pdq0 caps g v _).use ?_
  rintro r h' ⟨rfl, rfl⟩
  simp only [go_sem, Int.reduceEq, Int.reduceAdd, Int.reduceSub, Int.reduceMul, Nat.reduceLT, Int.reduceLT, Int.reduceLE, Int.reduceToNat, Nat.reduceAdd, Nat.reduceSub, Nat.reduceMul, Nat.reduceLeDiff, reduceCtorEq]
  refine hQ _ _ _ _ _ _ (.inl rfl) rfl (FzH.refl _) (FzL.refl _ _ _) ⟨rfl, rfl⟩

theorem W_sortG (c : Off → Off → Int) (l : List Off) (caps : List AV) (g : FuncId) (h0 H : AHeap) (v : AV) (n : Nat) (he : n = l.length) (gr : Grow h0 4 v (cat encO l) n H) (hw : Wr v) (hn : l.length ≤ 12)
    (hc : ∀ a ∈ l, ∀ b ∈ l, ∀ h, PureA Try.prog g (.agg (encO a) :: .agg (encO b) :: caps) h (.int .i64 (c a b))) :
    CallsA Try.prog 138 [v, .fn g caps] H (fun r h' => r = .tup [] ∧ Grow h0 4 v (cat encO (isort c l)) n h') := by
  subst he
  have hs := gr.sca
  rcases gr.how with ⟨rfl, hl, rfl⟩ | ⟨rfl, _⟩ | ⟨id, cap, junk, tot, rfl, hcap, hT, hid, rfl⟩
  · rw [List.length_eq_zero_iff] at hl; subst hl
    refine (W_sort0 caps g _).mono ?_
    rintro r h' ⟨rfl, rfl⟩
    exact ⟨rfl, gr⟩
  · exact absurd rfl (hw _ _ _)
  · refine (W_sort c l junk caps g h0 id cap _ hid hn hc).mono ?_
    rintro r h' ⟨rfl, rfl⟩
    exact ⟨rfl, by rw [cat_len encO_len, isort_len], cat_sca encO_sca _, .inr (.inr ⟨id, cap, junk, tot, rfl, hcap, hT, hid, rfl⟩)⟩


end Go.Proofs.Ytaeppifdbcoipaa
