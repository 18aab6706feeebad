/-
  addr.Text.
-/
import Derived.Test.YtdlghfekgecjjaaDoorAf
namespace Go.Proofs.YtdlghfekgecjjaaDoor
open Go E
set_option linter.unusedVariables false
set_option linter.unusedSimpArgs false
set_option maxRecDepth 100000

def textG (g : List Int) : List Int :=
  if (runI g).2 = 0 then joinS g else joinS (g.take (runI g).1.toNat) ++ [58, 58] ++ joinS (g.drop ((runI g).1.toNat + (runI g).2.toNat))
def textL (a : List Int) : List Int := textG (grps a)

theorem nums_app (x y : List Int) : strOfNums x ++ strOfNums y = strOfNums (x ++ y) := by
  apply ByteArray.ext
  simp [strOfNums, ByteArray.data_append]

theorem k58' : (ByteArray.mk (Array.mk [58, 58])) = strOfNums [58, 58] := rfl
theorem mx' : IntKind.i64.max = 9223372036854775807 := rfl

section
variable {g : List Int} {m : Nat}
theorem arr_all (h8 : g.length = 8) : arrA 8 1 (.rp (cat i1 g)) none none none = some (.ro (cat i1 g) g.length true) := by
  have hl : (cat i1 g).length = 8 := by rw [cat_len i1_len]; omega
  have e : (cat i1 g).take 8 = cat i1 g := List.take_of_length_le (by omega)
  simp [arrA, bnd, e, h8]
theorem arr_hi (h8 : g.length = 8) (hm : m ≤ 8) {k : IntKind} : arrA 8 1 (.rp (cat i1 g)) none (some (.int k (m : Int))) none = some (.ro (cat i1 (g.take m)) (g.take m).length (m == 8)) := by
  have e : (cat i1 g).take m = cat i1 (g.take m) := by have := cat_take i1_len g m; simpa using this
  have e2 : (g.take m).length = m := by rw [List.length_take]; omega
  have e3 : (0 : Int) ≤ m ∧ (m : Int) ≤ (8 : Nat) := by omega
  simp only [arrA, bnd, Option.isSome_none, Bool.false_and, Bool.false_eq_true, if_false, if_pos e3, Int.toNat_natCast, Nat.zero_mul, List.drop_zero, Nat.sub_zero, Nat.mul_one, e, e2]
theorem arr_lo (h8 : g.length = 8) (hm : m ≤ 8) {k : IntKind} : arrA 8 1 (.rp (cat i1 g)) (some (.int k (m : Int))) none none = some (.ro (cat i1 (g.drop m)) (g.drop m).length true) := by
  have e : (cat i1 g).drop m = cat i1 (g.drop m) := by have := cat_drop i1_len g m; simpa using this
  have e2 : (g.drop m).length = 8 - m := by rw [List.length_drop]; omega
  have e3 : (0 : Int) ≤ m ∧ (m : Int) ≤ (8 : Nat) := by omega
  have hl : (cat i1 (g.drop m)).length = 8 - m := by rw [cat_len i1_len]; omega
  have e4 : (cat i1 (g.drop m)).take (8 - m) = cat i1 (g.drop m) := List.take_of_length_le (by omega)
  simp only [arrA, bnd, Option.isSome_none, Bool.false_and, Bool.false_eq_true, if_false, if_pos e3, Int.toNat_natCast, Nat.mul_one, e, e2, e4, beq_self_eq_true]
end

theorem text_spec (a : List Int) (ha : isA a) (h : AHeap) : PureA Tryd.prog 11 [.agg (cat b1 a)] h (.str (strOfNums (textL a))) := by
  have h8 := grps_len a
  have hg : gOk (grps a) := grps_bound ha
  have hl : (cat i1 (grps a)).length = 8 := by rw [cat_len i1_len]; omega
  have hsc := cat_sca i1_sca (grps a)
  have hla : (cat b1 a).length = 16 := by rw [cat_len b1_len, ha.1]
  have htk : (cat b1 a).take 16 = cat b1 a := List.take_of_length_le (by omega)
  obtain ⟨rb1, rb2, rb3⟩ := runI_bound _ h8
  obtain ⟨m, hm⟩ := Int.eq_ofNat_of_zero_le rb1
  obtain ⟨n, hn⟩ := Int.eq_ofNat_of_zero_le rb2
  have gs := groups_spec a ha
  have tx : textL a = textG (grps a) := rfl
  rw [tx]
  generalize grps a = g at *
  have r := run_spec g h8
  have tk8 : (cat i1 g).take 8 = cat i1 g := List.take_of_length_le (by omega)
  have hj : ∀ g' : List Int, (strOfNums (joinS g')).size ≤ 5 * g'.length := fun g' => by rw [strOfNums_size]; exact joinS_le g'
  (refine PureA.enter (ac := c11) (rs := r11) Tryd.func11 rfl (by decide) c11_ok r11_ok ?_; intro Q hQ; simp only [go_sem, Int.reduceEq, Int.reduceAdd, Int.reduceSub, Int.reduceMul, Nat.reduceLT, Int.reduceLT, Int.reduceLE, Int.reduceToNat, Nat.reduceAdd, Nat.reduceSub, Nat.reduceMul, Nat.reduceLeDiff, reduceCtorEq, c11, Tryd.ntmps11, hla, htk, Nat.le_refl])
  refine (gs _).use ?_
  simp only [go_sem, Int.reduceEq, Int.reduceAdd, Int.reduceSub, Int.reduceMul, Nat.reduceLT, Int.reduceLT, Int.reduceLE, Int.reduceToNat, Nat.reduceAdd, Nat.reduceSub, Nat.reduceMul, Nat.reduceLeDiff, reduceCtorEq]
  intro p hp
  simp only [go_sem, Int.reduceEq, Int.reduceAdd, Int.reduceSub, Int.reduceMul, Nat.reduceLT, Int.reduceLT, Int.reduceLE, Int.reduceToNat, Nat.reduceAdd, Nat.reduceSub, Nat.reduceMul, Nat.reduceLeDiff, reduceCtorEq, del_same, del_none hp, hl, hsc, tk8, Nat.le_refl, if_true]
  refine (r _).use ?_
  simp only [go_sem, Int.reduceEq, Int.reduceAdd, Int.reduceSub, Int.reduceMul, Nat.reduceLT, Int.reduceLT, Int.reduceLE, Int.reduceToNat, Nat.reduceAdd, Nat.reduceSub, Nat.reduceMul, Nat.reduceLeDiff, reduceCtorEq]
  by_cases hz : (runI g).2 = 0
  · simp only [go_sem, Int.reduceEq, Int.reduceAdd, Int.reduceSub, Int.reduceMul, Nat.reduceLT, Int.reduceLT, Int.reduceLE, Int.reduceToNat, Nat.reduceAdd, Nat.reduceSub, Nat.reduceMul, Nat.reduceLeDiff, reduceCtorEq, hz, arr_all h8]
    refine (joined_spec g true _ hg (by omega)).use ?_
    simp only [go_sem, Int.reduceEq, Int.reduceAdd, Int.reduceSub, Int.reduceMul, Nat.reduceLT, Int.reduceLT, Int.reduceLE, Int.reduceToNat, Nat.reduceAdd, Nat.reduceSub, Nat.reduceMul, Nat.reduceLeDiff, reduceCtorEq]
    (refine hQ _ _ _ _ _ (by first | exact .inr rfl | exact .inl rfl) rfl (by first | exact FzH.refl _ | exact FzH.sub (by (repeat' (first | exact Sub.refl _ | assumption | (refine Sub.upd ?_ (by first | assumption | (simp only [*]; done) | exact Sub.isNone (by assumption) (by assumption) | exact Sub.isNone (by assumption) (by simp only [*]))))))) (FzL.refl _ _ _) ?_; try (simp only [go_sem, Int.reduceEq, Int.reduceAdd, Int.reduceSub, Int.reduceMul, Nat.reduceLT, Int.reduceLT, Int.reduceLE, Int.reduceToNat, Nat.reduceAdd, Nat.reduceSub, Nat.reduceMul, Nat.reduceLeDiff, reduceCtorEq]))
    simp [textG, hz]
  · have e1 : decide ((n : Int) = 0) = false := decide_eq_false (by omega)
    have e2 : IntKind.i64.wrap ((m : Int) + (n : Int)) = ((m + n : Nat) : Int) := by rw [w64 (by omega) (by omega)]; omega
    have l1 := hj (g.take m)
    have l2 := hj (g.drop (m + n))
    rw [List.length_take] at l1
    rw [List.length_drop] at l2
    have sz2 : (strOfNums [58, 58]).size = 2 := strOfNums_size _
    have mx := mx'
    have q1 := binA_cat (x := strOfNums (joinS (g.take m))) (y := strOfNums [58, 58]) (by rw [sz2, mx]; omega)
    have q2 := binA_cat (x := strOfNums (joinS (g.take m) ++ [58, 58])) (y := strOfNums (joinS (g.drop (m + n)))) (by rw [strOfNums_size, List.length_append, ← strOfNums_size (joinS _), mx]; simp only [List.length_cons, List.length_nil]; omega)
    rw [nums_app] at q1 q2
    rw [← k58'] at q1
    simp only [go_sem, Int.reduceEq, Int.reduceAdd, Int.reduceSub, Int.reduceMul, Nat.reduceLT, Int.reduceLT, Int.reduceLE, Int.reduceToNat, Nat.reduceAdd, Nat.reduceSub, Nat.reduceMul, Nat.reduceLeDiff, reduceCtorEq, hm, hn, e1, e2, arr_hi h8 (show m ≤ 8 by omega), arr_lo h8 (show m + n ≤ 8 by omega)]
    refine (joined_spec (g.take m) _ _ (fun x hx => hg x (List.mem_of_mem_take hx)) (by rw [List.length_take]; omega)).use ?_
    simp only [go_sem, Int.reduceEq, Int.reduceAdd, Int.reduceSub, Int.reduceMul, Nat.reduceLT, Int.reduceLT, Int.reduceLE, Int.reduceToNat, Nat.reduceAdd, Nat.reduceSub, Nat.reduceMul, Nat.reduceLeDiff, reduceCtorEq, q1]
    refine (joined_spec (g.drop (m + n)) _ _ (fun x hx => hg x (List.mem_of_mem_drop hx)) (by rw [List.length_drop]; omega)).use ?_
    simp only [go_sem, Int.reduceEq, Int.reduceAdd, Int.reduceSub, Int.reduceMul, Nat.reduceLT, Int.reduceLT, Int.reduceLE, Int.reduceToNat, Nat.reduceAdd, Nat.reduceSub, Nat.reduceMul, Nat.reduceLeDiff, reduceCtorEq, q2]
    (refine hQ _ _ _ _ _ (by first | exact .inr rfl | exact .inl rfl) rfl (by first | exact FzH.refl _ | exact FzH.sub (by (repeat' (first | exact Sub.refl _ | assumption | (refine Sub.upd ?_ (by first | assumption | (simp only [*]; done) | exact Sub.isNone (by assumption) (by assumption) | exact Sub.isNone (by assumption) (by simp only [*]))))))) (FzL.refl _ _ _) ?_; try (simp only [go_sem, Int.reduceEq, Int.reduceAdd, Int.reduceSub, Int.reduceMul, Nat.reduceLT, Int.reduceLT, Int.reduceLE, Int.reduceToNat, Nat.reduceAdd, Nat.reduceSub, Nat.reduceMul, Nat.reduceLeDiff, reduceCtorEq]))
    have e9 : textG g = joinS (g.take m) ++ [58, 58] ++ joinS (g.drop (m + n)) := by
      unfold textG
      rw [if_neg hz, hm, hn, Int.toNat_natCast, Int.toNat_natCast]
    rw [e9]

end Go.Proofs.YtdlghfekgecjjaaDoor
