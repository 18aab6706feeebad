/-
  addr.joined, addr.run, addr.Text.
-/
import Derived.Test.YtdlghfekgecjjaaDoorAd
namespace Go.Proofs.YtdlghfekgecjjaaDoor
open Go E
set_option linter.unusedVariables false
set_option linter.unusedSimpArgs false
set_option maxRecDepth 100000

theorem hexL_len (n : Int) : 1 ≤ (hexL n).length ∧ (hexL n).length ≤ 4 := by
  unfold hexL; split
  · simp
  · split
    · simp
    · split <;> simp

theorem joinL_le : ∀ (ls : List (List Int)), (∀ l ∈ ls, l.length ≤ 4) → (joinL ls).length ≤ 5 * ls.length
  | [], _ => by simp [joinL]
  | x :: r, h => by
    have hx := h x (by simp)
    have hr : ∀ r : List (List Int), (∀ l ∈ r, l.length ≤ 4) → (r.flatMap fun y => (58 : Int) :: y).length ≤ 5 * r.length := by
      intro r
      induction r with
      | nil => simp
      | cons y r ih =>
        intro h
        have := ih fun l hl => h l (by simp [hl])
        have := h y (by simp)
        simp only [List.flatMap_cons, List.length_append, List.length_cons]
        omega
    have := hr r fun l hl => h l (by simp [hl])
    simp only [joinL, List.length_append, List.length_cons]
    omega

theorem joinS_le (g : List Int) : (joinS g).length ≤ 5 * g.length := by
  have := joinL_le (g.map hexL) fun l hl => by
    obtain ⟨n, _, rfl⟩ := List.mem_map.1 hl
    exact (hexL_len n).2
  simpa [joinS] using this

theorem join_nums (g : List Int) : (ByteArray.mk (Lib.join ((g.map hexS).map (·.data.toList)) (ByteArray.mk (Array.mk [58])).data.toList).toArray) = strOfNums (joinS g) := by
  have key : Lib.join ((g.map hexS).map (·.data.toList)) [58] = (joinS g).map fun n => UInt8.ofNat n.toNat := by
    cases g with
    | nil => rfl
    | cons x r =>
      have hd : ∀ n, (hexS n).data.toList = (hexL n).map fun n => UInt8.ofNat n.toNat := fun n => rfl
      simp only [List.map_cons, Lib.join_cons, joinS, joinL, List.map_append, hd]
      congr 1
      induction r with
      | nil => rfl
      | cons y r ih =>
        simp only [Lib.joinTail, List.map_cons, List.flatten_cons, List.flatMap_cons, List.map_append, hd] at ih ⊢
        rw [ih]
        rfl
  show ByteArray.mk (Lib.join ((g.map hexS).map (·.data.toList)) [58]).toArray = _
  rw [key]; rfl

def gOk (g : List Int) : Prop := ∀ x ∈ g, 0 ≤ x ∧ x ≤ 65535

theorem joined_spec (g : List Int) (ex : Bool) (h : AHeap) (hg : gOk g) (hn : g.length ≤ 8) : PureA Tryd.prog 32 [.ro (cat i1 g) g.length ex] h (.str (strOfNums (joinS g))) := by
  (refine PureA.enter (ac := c32) (rs := r32) Tryd.func32 rfl (by decide) c32_ok r32_ok ?_; intro Q hQ; simp only [go_sem, Int.reduceEq, Int.reduceAdd, Int.reduceSub, Int.reduceMul, Nat.reduceLT, Int.reduceLT, Int.reduceLE, Int.reduceToNat, Nat.reduceAdd, Nat.reduceSub, Nat.reduceMul, Nat.reduceLeDiff, reduceCtorEq, c32, Tryd.ntmps32])
  refine loop_st d32_0 (fun x : Nat × AV => g.length - x.1) (fun x s => (s.set 3 x.2).set 8 (.int .i64 (x.1 : Int))) (fun x H => x.1 ≤ g.length ∧ Grow h 1 x.2 (cat s1 ((g.take x.1).map hexS)) x.1 H ∧ Wr x.2) (0, .nils) ?_ ⟨Nat.zero_le _, Grow.nil, Wr.nils⟩ ?_
  · (simp only [go_sem, Int.reduceEq, Int.reduceAdd, Int.reduceSub, Int.reduceMul, Nat.reduceLT, Int.reduceLT, Int.reduceLE, Int.reduceToNat, Nat.reduceAdd, Nat.reduceSub, Nat.reduceMul, Nat.reduceLeDiff, reduceCtorEq, d32_0] <;> rfl)
  rintro N ⟨k, v⟩ H ⟨hk, g0, hw⟩ hN
  simp only at hk g0 hw
  simp only [go_sem, Int.reduceEq, Int.reduceAdd, Int.reduceSub, Int.reduceMul, Nat.reduceLT, Int.reduceLT, Int.reduceLE, Int.reduceToNat, Nat.reduceAdd, Nat.reduceSub, Nat.reduceMul, Nat.reduceLeDiff, reduceCtorEq, d32_0]
  have hadd := wadd1 (k := k) (by omega)
  by_cases hlt : k < g.length
  · have hb := hg _ (List.getElem_mem hlt)
    simp only [go_sem, Int.reduceEq, Int.reduceAdd, Int.reduceSub, Int.reduceMul, Nat.reduceLT, Int.reduceLT, Int.reduceLE, Int.reduceToNat, Nat.reduceAdd, Nat.reduceSub, Nat.reduceMul, Nat.reduceLeDiff, reduceCtorEq, hlt, hadd, rdI hlt]
    refine (fi_spec g[k] hb.1 (by omega) _).use ?_
    simp only [go_sem, Int.reduceEq, Int.reduceAdd, Int.reduceSub, Int.reduceMul, Nat.reduceLT, Int.reduceLT, Int.reduceLE, Int.reduceToNat, Nat.reduceAdd, Nat.reduceSub, Nat.reduceMul, Nat.reduceLeDiff, reduceCtorEq]
    refine g0.add1W (x := s1 (hexS g[k])) rfl rfl (by omega) fun v' H' g' hw' => ?_
    simp only [go_sem, Int.reduceEq, Int.reduceAdd, Int.reduceSub, Int.reduceMul, Nat.reduceLT, Int.reduceLT, Int.reduceLE, Int.reduceToNat, Nat.reduceAdd, Nat.reduceSub, Nat.reduceMul, Nat.reduceLeDiff, reduceCtorEq, hadd]
    refine hN (k + 1, v') _ _ (by simp only; omega) ?_ ⟨hlt, ?_, hw'⟩
    · simp only [go_sem, Int.reduceEq, Int.reduceAdd, Int.reduceSub, Int.reduceMul, Nat.reduceLT, Int.reduceLT, Int.reduceLE, Int.reduceToNat, Nat.reduceAdd, Nat.reduceSub, Nat.reduceMul, Nat.reduceLeDiff, reduceCtorEq, d32_0]
    · rw [List.take_succ_eq_append_getElem hlt, List.map_append, cat_append]
      exact g'
  · have hk' : k = g.length := by omega
    subst hk'
    rw [List.take_length] at g0
    (simp only [go_sem, Int.reduceEq, Int.reduceAdd, Int.reduceSub, Int.reduceMul, Nat.reduceLT, Int.reduceLT, Int.reduceLE, Int.reduceToNat, Nat.reduceAdd, Nat.reduceSub, Nat.reduceMul, Nat.reduceLeDiff, reduceCtorEq, hlt]; refine frz_id ?_; simp only [go_sem, Int.reduceEq, Int.reduceAdd, Int.reduceSub, Int.reduceMul, Nat.reduceLT, Int.reduceLT, Int.reduceLE, Int.reduceToNat, Nat.reduceAdd, Nat.reduceSub, Nat.reduceMul, Nat.reduceLeDiff, reduceCtorEq])
    have e : (g.map hexS).length = g.length := by simp
    refine (join_spec (ByteArray.mk (Array.mk [58])) (xs := g.map hexS) (by rw [e]; exact g0) hw (by omega) ?_).use ?_
    · have e2 := join_nums g
      have e3 := congrArg ByteArray.size e2
      have := joinS_le g
      rw [strOfNums_size] at e3
      simp only [ByteArray.size, List.size_toArray] at e3
      change (Lib.join ((g.map hexS).map (·.data.toList)) [58]).length = _ at e3
      change (Lib.join ((g.map hexS).map (·.data.toList)) [58]).length ≤ _
      omega
    · rw [join_nums]
      simp only [go_sem, Int.reduceEq, Int.reduceAdd, Int.reduceSub, Int.reduceMul, Nat.reduceLT, Int.reduceLT, Int.reduceLE, Int.reduceToNat, Nat.reduceAdd, Nat.reduceSub, Nat.reduceMul, Nat.reduceLeDiff, reduceCtorEq]
      refine hQ _ _ _ _ _ (by first | exact .inr rfl | exact .inl rfl) rfl g0.fzH (FzL.refl _ _ _) ?_
      simp only [go_sem, Int.reduceEq, Int.reduceAdd, Int.reduceSub, Int.reduceMul, Nat.reduceLT, Int.reduceLT, Int.reduceLE, Int.reduceToNat, Nat.reduceAdd, Nat.reduceSub, Nat.reduceMul, Nat.reduceLeDiff, reduceCtorEq]

/-! ### The longest run -/

/-- How many zeros stand in front. -/
def zr : List Int → Nat
  | [] => 0
  | x :: l => if x = 0 then zr l + 1 else 0
theorem zr_le : ∀ l : List Int, zr l ≤ l.length
  | [] => Nat.le_refl _
  | x :: l => by have := zr_le l; unfold zr; split <;> simp <;> omega
theorem zr_more : ∀ (l : List Int) (n : Nat) (h : n < l.length), n ≤ zr l → l[n] = 0 → n + 1 ≤ zr l
  | x :: l, 0, h, _, e => by simp at e; simp [zr, e]
  | x :: l, n + 1, h, hz, e => by
    unfold zr at hz ⊢
    split at hz
    · rename_i hx
      rw [if_pos hx]
      have := zr_more l n (by simpa using h) (by omega) (by simpa using e)
      omega
    · omega
theorem zr_stop : ∀ (l : List Int) (n : Nat) (h : n < l.length), n ≤ zr l → l[n] ≠ 0 → zr l = n
  | x :: l, 0, h, _, e => by simp at e; simp [zr, e]
  | x :: l, n + 1, h, hz, e => by
    unfold zr at hz ⊢
    split at hz
    · rename_i hx
      rw [if_pos hx]
      have := zr_stop l n (by simpa using h) (by omega) (by simpa using e)
      omega
    · omega

/-- The run behind place i, given the best so far. -/
def runF (g : List Int) : Nat → Nat → Int → Int → Int × Int
  | 0, _, a, z => (a, z)
  | f + 1, i, a, z => if i < 8 then
      (if z < zr (g.drop i) then runF g f (i + zr (g.drop i) + 1) i (zr (g.drop i)) else runF g f (i + zr (g.drop i) + 1) a z)
    else (a, z)
theorem runF_ge (g : List Int) (f i : Nat) (a z : Int) (h : 8 ≤ i) : runF g f i a z = (a, z) := by
  cases f with
  | zero => rfl
  | succ f => unfold runF; rw [if_neg (by omega)]
theorem runF_fuel (g : List Int) : ∀ (f1 f2 i : Nat) (a z : Int), 8 ≤ f1 + i → 8 ≤ f2 + i → runF g f1 i a z = runF g f2 i a z
  | 0, f2, i, a, z, h1, h2 => by rw [runF_ge g f2 i a z (by omega)]; rfl
  | f1 + 1, 0, i, a, z, h1, h2 => by rw [runF_ge g (f1 + 1) i a z (by omega)]; rfl
  | f1 + 1, f2 + 1, i, a, z, h1, h2 => by
    unfold runF
    split
    · split
      · exact runF_fuel g f1 f2 _ _ _ (by omega) (by omega)
      · exact runF_fuel g f1 f2 _ _ _ (by omega) (by omega)
    · rfl
def runI (g : List Int) : Int × Int := let r := runF g 8 0 0 0; if r.2 < 2 then (0, 0) else r

theorem runF_bound (g : List Int) (h8 : g.length = 8) : ∀ (f i : Nat) (a z : Int), 0 ≤ a → 0 ≤ z → a + z ≤ 8 → 0 ≤ (runF g f i a z).1 ∧ 0 ≤ (runF g f i a z).2 ∧ (runF g f i a z).1 + (runF g f i a z).2 ≤ 8
  | 0, i, a, z, h1, h2, h3 => ⟨h1, h2, h3⟩
  | f + 1, i, a, z, h1, h2, h3 => by
    unfold runF
    have hz := zr_le (g.drop i)
    rw [List.length_drop, h8] at hz
    split
    · split
      · exact runF_bound g h8 f _ _ _ (by omega) (by omega) (by omega)
      · exact runF_bound g h8 f _ _ _ h1 h2 h3
    · exact ⟨h1, h2, h3⟩
theorem runI_bound (g : List Int) (h8 : g.length = 8) : 0 ≤ (runI g).1 ∧ 0 ≤ (runI g).2 ∧ (runI g).1 + (runI g).2 ≤ 8 := by
  have := runF_bound g h8 8 0 0 0 (by omega) (by omega) (by omega)
  unfold runI
  simp only
  split
  · omega
  · exact this

def ks : List Nat := [12, 13, 14, 15, 16, 17, 18, 19, 20, 21, 22, 23, 24, 25, 26, 27, 28, 29, 30, 31, 32, 33]

set_option maxHeartbeats 2000000 in
theorem run_spec (g : List Int) (h8 : g.length = 8) (h : AHeap) : PureA Tryd.prog 31 [.agg (cat i1 g)] h (.tup [.int .i64 (runI g).1, .int .i64 (runI g).2]) := by
  (refine PureA.enter (ac := c31) (rs := r31) Tryd.func31 rfl (by decide) c31_ok r31_ok ?_; intro Q hQ; simp only [go_sem, Int.reduceEq, Int.reduceAdd, Int.reduceSub, Int.reduceMul, Nat.reduceLT, Int.reduceLT, Int.reduceLE, Int.reduceToNat, Nat.reduceAdd, Nat.reduceSub, Nat.reduceMul, Nat.reduceLeDiff, reduceCtorEq, c31, Tryd.ntmps31])
  refine loop_st d31_0 (fun x : Nat × Int × Int => 9 - x.1) (fun x s => ((s.set 4 (.int .i64 x.2.1)).set 5 (.int .i64 x.2.2)).set 6 (.int .i64 (x.1 : Int))) (fun x H => x.1 ≤ 9 ∧ H = h ∧ runF g 9 x.1 x.2.1 x.2.2 = runF g 8 0 0 0) (0, 0, 0) ?_ ⟨by simp, rfl, runF_fuel g _ _ _ _ _ (by omega) (by omega)⟩ ?_
  · (simp only [go_sem, Int.reduceEq, Int.reduceAdd, Int.reduceSub, Int.reduceMul, Nat.reduceLT, Int.reduceLT, Int.reduceLE, Int.reduceToNat, Nat.reduceAdd, Nat.reduceSub, Nat.reduceMul, Nat.reduceLeDiff, reduceCtorEq, d31_0] <;> rfl)
  rintro N ⟨i, a, z⟩ H ⟨hi, rfl, hr⟩ hN
  simp only at hi hr
  by_cases hlt : i < 8
  · have c1 : decide ((i : Int) < 8) = true := decide_eq_true (by omega)
    simp only [go_sem, Int.reduceEq, Int.reduceAdd, Int.reduceSub, Int.reduceMul, Nat.reduceLT, Int.reduceLT, Int.reduceLE, Int.reduceToNat, Nat.reduceAdd, Nat.reduceSub, Nat.reduceMul, Nat.reduceLeDiff, reduceCtorEq, d31_0, c1]
    refine loop_st ks (fun n : Nat => 9 - n) (fun n s => s.set 7 (.int .i64 (n : Int))) (fun n H' => H' = H ∧ i + n ≤ 8 ∧ n ≤ zr (g.drop i)) 0 ?_ ⟨rfl, by omega, by omega⟩ ?_
    · (simp only [go_sem, Int.reduceEq, Int.reduceAdd, Int.reduceSub, Int.reduceMul, Nat.reduceLT, Int.reduceLT, Int.reduceLE, Int.reduceToNat, Nat.reduceAdd, Nat.reduceSub, Nat.reduceMul, Nat.reduceLeDiff, reduceCtorEq, ks] <;> rfl)
    rintro N2 n H2 ⟨rfl, hin, hnz⟩ hN2
    have w1 : IntKind.i64.wrap ((i : Int) + (n : Int)) = ((i + n : Nat) : Int) := by rw [w64 (by omega) (by omega)]; omega
    have w2 : IntKind.i64.wrap (((i + n : Nat) : Int) + 1) = ((i + n + 1 : Nat) : Int) := by rw [w64 (by omega) (by omega)]; omega
    have hdl : (g.drop i).length = 8 - i := by rw [List.length_drop, h8]
    have hnext : ∀ a' z', (a', z') = (if z < (zr (g.drop i) : Int) then ((i : Int), (zr (g.drop i) : Int)) else (a, z)) → zr (g.drop i) = n → runF g 9 (i + n + 1) a' z' = runF g 8 0 0 0 := by
      intro a' z' e hz
      have e9 : runF g 9 i a z = (if z < (zr (g.drop i) : Int) then runF g 8 (i + zr (g.drop i) + 1) i (zr (g.drop i)) else runF g 8 (i + zr (g.drop i) + 1) a z) := by
        show (if i < 8 then _ else _) = _
        rw [if_pos hlt]
      rw [← hr, e9, hz]
      rw [hz] at e
      split at e
      · rename_i hc
        cases e
        rw [if_pos hc]
        exact runF_fuel g _ _ _ _ _ (by omega) (by omega)
      · rename_i hc
        cases e
        rw [if_neg hc]
        exact runF_fuel g _ _ _ _ _ (by omega) (by omega)
    by_cases hend : i + n = 8
    · have hz : zr (g.drop i) = n := by have := zr_le (g.drop i); omega
      have c2 : decide (((i + n : Nat) : Int) = 8) = true := decide_eq_true (by omega)
      have hnx := hnext
      rw [hz] at hnx
      by_cases hgt : z < (n : Int)
      · have c3 : decide (z < (n : Int)) = true := decide_eq_true hgt
        rw [if_pos hgt] at hnx
        simp only [go_sem, Int.reduceEq, Int.reduceAdd, Int.reduceSub, Int.reduceMul, Nat.reduceLT, Int.reduceLT, Int.reduceLE, Int.reduceToNat, Nat.reduceAdd, Nat.reduceSub, Nat.reduceMul, Nat.reduceLeDiff, reduceCtorEq, ks, w1, w2, c2, c3]
        refine hN (i + n + 1, (i : Int), (n : Int)) _ _ (by simp only; omega) (by simp only [go_sem, Int.reduceEq, Int.reduceAdd, Int.reduceSub, Int.reduceMul, Nat.reduceLT, Int.reduceLT, Int.reduceLE, Int.reduceToNat, Nat.reduceAdd, Nat.reduceSub, Nat.reduceMul, Nat.reduceLeDiff, reduceCtorEq, d31_0]) ⟨by simp only; omega, rfl, hnx _ _ rfl rfl⟩
      · have c3 : decide (z < (n : Int)) = false := decide_eq_false hgt
        rw [if_neg hgt] at hnx
        simp only [go_sem, Int.reduceEq, Int.reduceAdd, Int.reduceSub, Int.reduceMul, Nat.reduceLT, Int.reduceLT, Int.reduceLE, Int.reduceToNat, Nat.reduceAdd, Nat.reduceSub, Nat.reduceMul, Nat.reduceLeDiff, reduceCtorEq, ks, w1, w2, c2, c3]
        refine hN (i + n + 1, a, z) _ _ (by simp only; omega) (by simp only [go_sem, Int.reduceEq, Int.reduceAdd, Int.reduceSub, Int.reduceMul, Nat.reduceLT, Int.reduceLT, Int.reduceLE, Int.reduceToNat, Nat.reduceAdd, Nat.reduceSub, Nat.reduceMul, Nat.reduceLeDiff, reduceCtorEq, d31_0]) ⟨by simp only; omega, rfl, hnx _ _ rfl rfl⟩
    · have c2 : decide (((i + n : Nat) : Int) = 8) = false := decide_eq_false (by omega)
      have hdn : n < (g.drop i).length := by omega
      have hgn : i + n < g.length := by omega
      have hge : (g.drop i)[n] = g[i + n] := by rw [List.getElem_drop]
      by_cases h0 : g[i + n] = 0
      · have c4 : decide (g[i + n] = 0) = true := decide_eq_true h0
        have hm := zr_more (g.drop i) n hdn hnz (by rw [hge]; exact h0)
        have w3 : IntKind.i64.wrap ((n : Int) + 1) = ((n + 1 : Nat) : Int) := by rw [w64 (by omega) (by omega)]; omega
        simp only [go_sem, Int.reduceEq, Int.reduceAdd, Int.reduceSub, Int.reduceMul, Nat.reduceLT, Int.reduceLT, Int.reduceLE, Int.reduceToNat, Nat.reduceAdd, Nat.reduceSub, Nat.reduceMul, Nat.reduceLeDiff, reduceCtorEq, ks, w1, c2, c4, w3, rdI hgn]
        refine ⟨by omega, hN2 (n + 1) _ _ (by omega) (by simp only [go_sem, Int.reduceEq, Int.reduceAdd, Int.reduceSub, Int.reduceMul, Nat.reduceLT, Int.reduceLT, Int.reduceLE, Int.reduceToNat, Nat.reduceAdd, Nat.reduceSub, Nat.reduceMul, Nat.reduceLeDiff, reduceCtorEq, ks]) ⟨rfl, by omega, hm⟩⟩
      · have c4 : decide (g[i + n] = 0) = false := decide_eq_false h0
        have hz := zr_stop (g.drop i) n hdn hnz (by rw [hge]; exact h0)
        have hnx := hnext
        rw [hz] at hnx
        by_cases hgt : z < (n : Int)
        · have c3 : decide (z < (n : Int)) = true := decide_eq_true hgt
          rw [if_pos hgt] at hnx
          simp only [go_sem, Int.reduceEq, Int.reduceAdd, Int.reduceSub, Int.reduceMul, Nat.reduceLT, Int.reduceLT, Int.reduceLE, Int.reduceToNat, Nat.reduceAdd, Nat.reduceSub, Nat.reduceMul, Nat.reduceLeDiff, reduceCtorEq, ks, w1, w2, c2, c3, c4, rdI hgn]
          refine ⟨by omega, ?_⟩
          refine hN (i + n + 1, (i : Int), (n : Int)) _ _ (by simp only; omega) (by simp only [go_sem, Int.reduceEq, Int.reduceAdd, Int.reduceSub, Int.reduceMul, Nat.reduceLT, Int.reduceLT, Int.reduceLE, Int.reduceToNat, Nat.reduceAdd, Nat.reduceSub, Nat.reduceMul, Nat.reduceLeDiff, reduceCtorEq, d31_0]) ⟨by simp only; omega, rfl, hnx _ _ rfl rfl⟩
        · have c3 : decide (z < (n : Int)) = false := decide_eq_false hgt
          rw [if_neg hgt] at hnx
          simp only [go_sem, Int.reduceEq, Int.reduceAdd, Int.reduceSub, Int.reduceMul, Nat.reduceLT, Int.reduceLT, Int.reduceLE, Int.reduceToNat, Nat.reduceAdd, Nat.reduceSub, Nat.reduceMul, Nat.reduceLeDiff, reduceCtorEq, ks, w1, w2, c2, c3, c4, rdI hgn]
          refine ⟨by omega, ?_⟩
          refine hN (i + n + 1, a, z) _ _ (by simp only; omega) (by simp only [go_sem, Int.reduceEq, Int.reduceAdd, Int.reduceSub, Int.reduceMul, Nat.reduceLT, Int.reduceLT, Int.reduceLE, Int.reduceToNat, Nat.reduceAdd, Nat.reduceSub, Nat.reduceMul, Nat.reduceLeDiff, reduceCtorEq, d31_0]) ⟨by simp only; omega, rfl, hnx _ _ rfl rfl⟩
  · have c1 : decide ((i : Int) < 8) = false := decide_eq_false (by omega)
    rw [runF_ge g 9 i a z (by omega)] at hr
    simp only [go_sem, Int.reduceEq, Int.reduceAdd, Int.reduceSub, Int.reduceMul, Nat.reduceLT, Int.reduceLT, Int.reduceLE, Int.reduceToNat, Nat.reduceAdd, Nat.reduceSub, Nat.reduceMul, Nat.reduceLeDiff, reduceCtorEq, d31_0, c1]
    refine frz_id ?_
    by_cases h2 : z < 2
    · have c2 : decide (z < 2) = true := decide_eq_true h2
      simp only [go_sem, Int.reduceEq, Int.reduceAdd, Int.reduceSub, Int.reduceMul, Nat.reduceLT, Int.reduceLT, Int.reduceLE, Int.reduceToNat, Nat.reduceAdd, Nat.reduceSub, Nat.reduceMul, Nat.reduceLeDiff, reduceCtorEq, c2]
      (refine hQ _ _ _ _ _ (by first | exact .inr rfl | exact .inl rfl) rfl (by first | exact FzH.refl _ | exact FzH.sub (by (repeat' (first | exact Sub.refl _ | assumption | (refine Sub.upd ?_ (by first | assumption | (simp only [*]; done) | exact Sub.isNone (by assumption) (by assumption) | exact Sub.isNone (by assumption) (by simp only [*]))))))) (FzL.refl _ _ _) ?_; try (simp only [go_sem, Int.reduceEq, Int.reduceAdd, Int.reduceSub, Int.reduceMul, Nat.reduceLT, Int.reduceLT, Int.reduceLE, Int.reduceToNat, Nat.reduceAdd, Nat.reduceSub, Nat.reduceMul, Nat.reduceLeDiff, reduceCtorEq]))
      simp [runI, ← hr, h2]
    · have c2 : decide (z < 2) = false := decide_eq_false h2
      simp only [go_sem, Int.reduceEq, Int.reduceAdd, Int.reduceSub, Int.reduceMul, Nat.reduceLT, Int.reduceLT, Int.reduceLE, Int.reduceToNat, Nat.reduceAdd, Nat.reduceSub, Nat.reduceMul, Nat.reduceLeDiff, reduceCtorEq, c2]
      (refine hQ _ _ _ _ _ (by first | exact .inr rfl | exact .inl rfl) rfl (by first | exact FzH.refl _ | exact FzH.sub (by (repeat' (first | exact Sub.refl _ | assumption | (refine Sub.upd ?_ (by first | assumption | (simp only [*]; done) | exact Sub.isNone (by assumption) (by assumption) | exact Sub.isNone (by assumption) (by simp only [*]))))))) (FzL.refl _ _ _) ?_; try (simp only [go_sem, Int.reduceEq, Int.reduceAdd, Int.reduceSub, Int.reduceMul, Nat.reduceLT, Int.reduceLT, Int.reduceLE, Int.reduceToNat, Nat.reduceAdd, Nat.reduceSub, Nat.reduceMul, Nat.reduceLeDiff, reduceCtorEq]))
      simp [runI, ← hr, h2]

end Go.Proofs.YtdlghfekgecjjaaDoor
