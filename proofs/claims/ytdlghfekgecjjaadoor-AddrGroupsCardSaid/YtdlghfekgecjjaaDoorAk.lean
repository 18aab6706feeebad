/-
  AddrGroups on abstract values.
-/
import Derived.Test.YtdlghfekgecjjaaDoorAe
import Derived.Test.YtdlghfekgecjjaaDoorAi
namespace Go.Proofs.YtdlghfekgecjjaaDoor
open Go E
set_option linter.unusedVariables false
set_option linter.unusedSimpArgs false
set_option maxRecDepth 100000

set_option maxHeartbeats 4000000 in
theorem rof_spec (g : List Int) (h8 : g.length = 8) (hg : inG g = true) (h : AHeap) : PureA Tryd.prog 15 [.agg (cat i1 g)] h (.agg (cat b1 (ofG g))) := by
  obtain ⟨x0, x1, x2, x3, x4, x5, x6, x7, rfl⟩ := len8 h8
  have hb : ∀ x ∈ [x0, x1, x2, x3, x4, x5, x6, x7], 0 ≤ x ∧ x ≤ 65535 := fun x hx => of_decide_eq_true (List.all_eq_true.1 hg x hx)
  simp only [List.mem_cons, List.mem_nil_iff, or_false, forall_eq_or_imp, forall_eq] at hb
  obtain ⟨k0, k1, k2, k3, k4, k5, k6, k7⟩ := hb
  have f1 : ∀ {x : Int}, 0 ≤ x ∧ x ≤ 65535 → IntKind.i64.wrap (x.tdiv 256) = x / 256 := fun hx => IntWalk.i64_quo _ _ (by omega)
  have f2 : ∀ {x : Int}, 0 ≤ x ∧ x ≤ 65535 → x.tmod 256 = x % 256 := fun hx => Int.tmod_eq_emod_of_nonneg (by omega)
  have f3 : ∀ {x : Int}, 0 ≤ x ∧ x ≤ 65535 → IntKind.u8.wrap (x / 256) = x / 256 := fun hx => by rw [w8]; omega
  have f4 : ∀ {x : Int}, 0 ≤ x ∧ x ≤ 65535 → IntKind.u8.wrap (x % 256) = x % 256 := fun hx => by rw [w8]; omega
  have r1' : ∀ x, binA .rem (.int .i64 x) (.int .i64 256) = some (.int .i64 (x.tmod 256)) := fun x => rfl
  have r2' : ∀ x, binA .quo (.int .i64 x) (.int .i64 256) = some (.int .i64 (IntKind.i64.wrap (x.tdiv 256))) := fun x => rfl
  (refine PureA.enter (ac := c15) (rs := r15) Tryd.func15 rfl (by decide) c15_ok r15_ok ?_; intro Q hQ; simp only [go_sem, Int.reduceEq, Int.reduceAdd, Int.reduceSub, Int.reduceMul, Nat.reduceLT, Int.reduceLT, Int.reduceLE, Int.reduceToNat, Nat.reduceAdd, Nat.reduceSub, Nat.reduceMul, Nat.reduceLeDiff, reduceCtorEq, c15, Tryd.ntmps15, cati8])
  intro p hp q hq
  obtain ⟨hpq, hq2⟩ := two_ne hq
  have hqp : q ≠ p := fun e => hpq e.symm
  refine loop_n 9 ?_
  simp only [go_sem, Int.reduceEq, Int.reduceAdd, Int.reduceSub, Int.reduceMul, Nat.reduceLT, Int.reduceLT, Int.reduceLE, Int.reduceToNat, Nat.reduceAdd, Nat.reduceSub, Nat.reduceMul, Nat.reduceLeDiff, reduceCtorEq, loopN_succ, wl, r1', r2', decide_true, Bool.and_self, upd_ne hpq, upd_ne hqp, f1 k0, f2 k0, f3 k0, f4 k0, f1 k1, f2 k1, f3 k1, f4 k1, f1 k2, f2 k2, f3 k2, f4 k2, f1 k3, f2 k3, f3 k3, f4 k3, f1 k4, f2 k4, f3 k4, f4 k4, f1 k5, f2 k5, f3 k5, f4 k5, f1 k6, f2 k6, f3 k6, f4 k6, f1 k7, f2 k7, f3 k7, f4 k7]
  refine frz_id ?_
  simp only [go_sem, Int.reduceEq, Int.reduceAdd, Int.reduceSub, Int.reduceMul, Nat.reduceLT, Int.reduceLT, Int.reduceLE, Int.reduceToNat, Nat.reduceAdd, Nat.reduceSub, Nat.reduceMul, Nat.reduceLeDiff, reduceCtorEq, upd_ne hpq, upd_ne hqp]
  refine hQ _ _ _ _ _ (by first | exact .inr rfl | exact .inl rfl) rfl (FzH.sub (Sub.del0 hp (by (repeat' (first | exact Sub.refl _ | assumption | (refine Sub.upd ?_ (by first | assumption | (simp only [*]; done) | exact Sub.isNone (by assumption) (by assumption) | exact Sub.isNone (by assumption) (by simp only [*])))))))) (FzL.refl _ _ _) ?_
  simp only [go_sem, Int.reduceEq, Int.reduceAdd, Int.reduceSub, Int.reduceMul, Nat.reduceLT, Int.reduceLT, Int.reduceLE, Int.reduceToNat, Nat.reduceAdd, Nat.reduceSub, Nat.reduceMul, Nat.reduceLeDiff, reduceCtorEq]
  rfl

theorem G_len {l : List Int} {k : Nat} (h : k ≤ l.length) (h8 : k ≤ 8) : (l.take k ++ List.replicate (8 - k) 0).length = 8 := by
  rw [List.length_append, List.length_take, List.length_replicate]; omega
theorem G_set {l : List Int} {k : Nat} (h : k < l.length) (h8 : k < 8) : splice (cat i1 (l.take k ++ List.replicate (8 - k) 0)) k [.int .i64 l[k]] = cat i1 (l.take (k + 1) ++ List.replicate (8 - (k + 1)) 0) := by
  have e1 : (cat i1 (l.take k)).length = k := by rw [cat_len i1_len, List.length_take]; omega
  have e2 : List.replicate (8 - k) (0 : Int) = 0 :: List.replicate (8 - (k + 1)) 0 := by
    rw [← List.replicate_succ]; congr 1; omega
  unfold splice
  rw [cat_append, List.take_append_of_le_length (by omega), List.take_of_length_le (by omega), List.drop_append, List.drop_of_length_le (by simp; omega), List.nil_append, e1]
  rw [List.take_succ_eq_append_getElem h, cat_append, cat_append, e2]
  have e3 : k + [AV.int .i64 l[k]].length - k = 1 := by simp
  rw [e3]
  rfl

def okTo (l : List Int) (k : Nat) : Bool := decide ((l.length : Int) = 8) && (l.take k).all fun n => decide (0 ≤ n ∧ n ≤ 65535)
theorem okTo_next {l : List Int} {k : Nat} (h : k < l.length) : okTo l (k + 1) = (okTo l k && decide (0 ≤ l[k] ∧ l[k] ≤ 65535)) := by
  unfold okTo
  rw [List.take_succ_eq_append_getElem h, List.all_append]
  simp [Bool.and_assoc]

theorem okTo_all (l : List Int) : okTo l (min l.length 8) = ofOk l := by
  unfold okTo ofOk inG
  by_cases h8 : l.length = 8
  · have e : l.take (min l.length 8) = l := List.take_of_length_le (by omega)
    rw [e]
    simp [h8]
  · have e1 : ¬ ((l.length : Int) = 8) := by omega
    simp [h8, e1]

set_option maxHeartbeats 4000000 in
theorem grp_walk (l0 : List Int) (hl : l0.length ≤ maxLen) : PureA Tryd.prog 4 [.ro (cat i1 l0) l0.length false] emp (.bool true) := by
  have hm := maxLen_le
  have e0 : (if (20 : Int) < (l0.length : Int) then (20 : Int) else (l0.length : Int)) = ((min 20 l0.length : Nat) : Int) := by split <;> omega
  have e1 := sl_hi (l := l0) (ex := false) (k1 := .i64) i1_len (Nat.min_le_right 20 l0.length)
  have hl20 : (l0.take (min 20 l0.length)).length ≤ 20 := by rw [List.length_take]; omega
  have hlm : min 20 l0.length = (l0.take (min 20 l0.length)).length := by rw [List.length_take]; omega
  (refine PureA.enter (ac := c4) (rs := r4) Tryd.func4 rfl (by decide) c4_ok r4_ok ?_; intro Q hQ; simp only [go_sem, Int.reduceEq, Int.reduceAdd, Int.reduceSub, Int.reduceMul, Nat.reduceLT, Int.reduceLT, Int.reduceLE, Int.reduceToNat, Nat.reduceAdd, Nat.reduceSub, Nat.reduceMul, Nat.reduceLeDiff, reduceCtorEq, c4, Tryd.ntmps4, e0, Option.map_none, Option.map_some, e1])
  generalize l0.take (min 20 l0.length) = l at *
  have hof := of_spec l
  have hA : ∃ A k, isA A ∧ ofV l = .tup [.agg (cat b1 A), .int .i64 k] ∧ (ofOk l = true → A = ofG l ∧ k = 0) ∧ (ofOk l = false → A = zeroA ∧ k = 1) := by
    unfold ofV
    cases e : ofOk l
    · exact ⟨zeroA, 1, by decide, rfl, by simp, fun _ => ⟨rfl, rfl⟩⟩
    · exact ⟨ofG l, 0, ofG_is e, rfl, fun _ => ⟨rfl, rfl⟩, by simp⟩
  obtain ⟨A, kk, hA, hV, hok, hbad⟩ := hA
  rw [hV] at hof
  have la : (cat b1 A).length = 16 := by rw [cat_len b1_len, hA.1]
  have ta : (cat b1 A).take 16 = cat b1 A := List.take_of_length_le (by omega)
  have sa := cat_sca b1_sca A
  refine (hof false _ (by omega)).use ?_
  simp only [go_sem, Int.reduceEq, Int.reduceAdd, Int.reduceSub, Int.reduceMul, Nat.reduceLT, Int.reduceLT, Int.reduceLE, Int.reduceToNat, Nat.reduceAdd, Nat.reduceSub, Nat.reduceMul, Nat.reduceLeDiff, reduceCtorEq]
  intro p hp
  simp only [go_sem, Int.reduceEq, Int.reduceAdd, Int.reduceSub, Int.reduceMul, Nat.reduceLT, Int.reduceLT, Int.reduceLE, Int.reduceToNat, Nat.reduceAdd, Nat.reduceSub, Nat.reduceMul, Nat.reduceLeDiff, reduceCtorEq, del_same, del_none hp, la, ta, sa]
  intro q hq
  refine loop_range d4_0 (min l.length 8) (fun k s => (s.set 5 (.bool (okTo l k))).set 7 (.int .i64 (k : Int))) (fun k H => H = upd emp q (.cells (cat i1 (l.take k ++ List.replicate (8 - k) 0)) 8)) ?_ ?_ ?_
  · (simp only [go_sem, Int.reduceEq, Int.reduceAdd, Int.reduceSub, Int.reduceMul, Nat.reduceLT, Int.reduceLT, Int.reduceLE, Int.reduceToNat, Nat.reduceAdd, Nat.reduceSub, Nat.reduceMul, Nat.reduceLeDiff, reduceCtorEq, d4_0] <;> simp [okTo])
  · simp; rfl
  rintro N k H hk rfl hN
  have hadd := wadd1 (k := k) (by omega)
  by_cases hgo : k < l.length ∧ k < 8
  · obtain ⟨hlt, h8⟩ := hgo
    have c2 : decide ((k : Int) < 8) = true := decide_eq_true (by omega)
    have b2 : (0 : Int) ≤ (k : Int) ∧ (k : Int) < 8 := by omega
    have hGl : (cat i1 (l.take k ++ List.replicate (8 - k) 0)).length = 8 := by rw [cat_len i1_len, G_len (by omega) (by omega)]
    have hset := G_set hlt h8
    unfold splice at hset
    simp only [List.length_cons, List.length_nil, Nat.zero_add] at hset
    have hnx := okTo_next hlt
    have hi : ∀ s', kill d4_0 s' = _ → N s' _ := fun s' e => hN s' _ (by omega) e rfl
    have k9 : k + 1 ≤ 8 := h8
    cases hb : okTo l k
    · rw [hb, Bool.false_and] at hnx
      rw [hnx] at hi
      simp only [go_sem, Int.reduceEq, Int.reduceAdd, Int.reduceSub, Int.reduceMul, Nat.reduceLT, Int.reduceLT, Int.reduceLE, Int.reduceToNat, Nat.reduceAdd, Nat.reduceSub, Nat.reduceMul, Nat.reduceLeDiff, reduceCtorEq, d4_0, hlt, c2, b2, hadd, rdI hlt, hGl, k9, Nat.mul_one, Int.toNat_natCast, if_true, hset, upd_twice, true_and]
      refine hi _ ?_
      simp only [go_sem, Int.reduceEq, Int.reduceAdd, Int.reduceSub, Int.reduceMul, Nat.reduceLT, Int.reduceLT, Int.reduceLE, Int.reduceToNat, Nat.reduceAdd, Nat.reduceSub, Nat.reduceMul, Nat.reduceLeDiff, reduceCtorEq, d4_0]
    · rw [hb, Bool.true_and] at hnx
      by_cases x0 : 0 ≤ l[k]
      · have d0 : decide (0 ≤ l[k]) = true := decide_eq_true x0
        by_cases x1 : l[k] ≤ 65535
        · have d1 : decide (l[k] ≤ 65535) = true := decide_eq_true x1
          rw [hnx, decide_eq_true (show 0 ≤ l[k] ∧ l[k] ≤ 65535 from ⟨x0, x1⟩)] at hi
          simp only [go_sem, Int.reduceEq, Int.reduceAdd, Int.reduceSub, Int.reduceMul, Nat.reduceLT, Int.reduceLT, Int.reduceLE, Int.reduceToNat, Nat.reduceAdd, Nat.reduceSub, Nat.reduceMul, Nat.reduceLeDiff, reduceCtorEq, d4_0, hlt, c2, b2, hadd, rdI hlt, hGl, k9, Nat.mul_one, Int.toNat_natCast, if_true, hset, upd_twice, true_and, d0, d1]
          refine hi _ ?_
          simp only [go_sem, Int.reduceEq, Int.reduceAdd, Int.reduceSub, Int.reduceMul, Nat.reduceLT, Int.reduceLT, Int.reduceLE, Int.reduceToNat, Nat.reduceAdd, Nat.reduceSub, Nat.reduceMul, Nat.reduceLeDiff, reduceCtorEq, d4_0]
        · have d1 : decide (l[k] ≤ 65535) = false := decide_eq_false x1
          rw [hnx, decide_eq_false (show ¬ (0 ≤ l[k] ∧ l[k] ≤ 65535) from fun h => x1 h.2)] at hi
          simp only [go_sem, Int.reduceEq, Int.reduceAdd, Int.reduceSub, Int.reduceMul, Nat.reduceLT, Int.reduceLT, Int.reduceLE, Int.reduceToNat, Nat.reduceAdd, Nat.reduceSub, Nat.reduceMul, Nat.reduceLeDiff, reduceCtorEq, d4_0, hlt, c2, b2, hadd, rdI hlt, hGl, k9, Nat.mul_one, Int.toNat_natCast, if_true, hset, upd_twice, true_and, d0, d1]
          refine hi _ ?_
          simp only [go_sem, Int.reduceEq, Int.reduceAdd, Int.reduceSub, Int.reduceMul, Nat.reduceLT, Int.reduceLT, Int.reduceLE, Int.reduceToNat, Nat.reduceAdd, Nat.reduceSub, Nat.reduceMul, Nat.reduceLeDiff, reduceCtorEq, d4_0]
      · have d0 : decide (0 ≤ l[k]) = false := decide_eq_false x0
        rw [hnx, decide_eq_false (show ¬ (0 ≤ l[k] ∧ l[k] ≤ 65535) from fun h => x0 h.1)] at hi
        simp only [go_sem, Int.reduceEq, Int.reduceAdd, Int.reduceSub, Int.reduceMul, Nat.reduceLT, Int.reduceLT, Int.reduceLE, Int.reduceToNat, Nat.reduceAdd, Nat.reduceSub, Nat.reduceMul, Nat.reduceLeDiff, reduceCtorEq, d4_0, hlt, c2, b2, hadd, rdI hlt, hGl, k9, Nat.mul_one, Int.toNat_natCast, if_true, hset, upd_twice, true_and, d0]
        refine hi _ ?_
        simp only [go_sem, Int.reduceEq, Int.reduceAdd, Int.reduceSub, Int.reduceMul, Nat.reduceLT, Int.reduceLT, Int.reduceLE, Int.reduceToNat, Nat.reduceAdd, Nat.reduceSub, Nat.reduceMul, Nat.reduceLeDiff, reduceCtorEq, d4_0]
  · have hkm : k = min l.length 8 := by omega
    have hall := okTo_all l
    rw [← hkm] at hall
    have eZ : eqCells [.i, .i, .i, .i, .i, .i, .i, .i, .i, .i, .i, .i, .i, .i, .i, .i] (cat b1 A) [.int .u8 0, .int .u8 0, .int .u8 0, .int .u8 0, .int .u8 0, .int .u8 0, .int .u8 0, .int .u8 0, .int .u8 0, .int .u8 0, .int .u8 0, .int .u8 0, .int .u8 0, .int .u8 0, .int .u8 0, .int .u8 0] = some (decide (A = zeroA)) := eq16 hA.1 (b := zeroA) rfl
    cases ho : ofOk l
    · obtain ⟨rfl, rfl⟩ := hbad ho
      rw [ho] at hall
      have dz : decide (zeroA = zeroA) = true := by decide
      by_cases hlt : k < l.length
      · have h8 : ¬ k < 8 := fun h => hgo ⟨hlt, h⟩
        have c2 : decide ((k : Int) < 8) = false := decide_eq_false (by omega)
        simp only [go_sem, Int.reduceEq, Int.reduceAdd, Int.reduceSub, Int.reduceMul, Nat.reduceLT, Int.reduceLT, Int.reduceLE, Int.reduceToNat, Nat.reduceAdd, Nat.reduceSub, Nat.reduceMul, Nat.reduceLeDiff, reduceCtorEq, d4_0, hlt, c2, hall]
        refine frz_id ?_
        simp only [go_sem, Int.reduceEq, Int.reduceAdd, Int.reduceSub, Int.reduceMul, Nat.reduceLT, Int.reduceLT, Int.reduceLE, Int.reduceToNat, Nat.reduceAdd, Nat.reduceSub, Nat.reduceMul, Nat.reduceLeDiff, reduceCtorEq]
        refine (known_spec _).use ?_
        simp only [go_sem, Int.reduceEq, Int.reduceAdd, Int.reduceSub, Int.reduceMul, Nat.reduceLT, Int.reduceLT, Int.reduceLE, Int.reduceToNat, Nat.reduceAdd, Nat.reduceSub, Nat.reduceMul, Nat.reduceLeDiff, reduceCtorEq, la, ta, eZ, dz, Nat.le_refl, if_true]
        (refine hQ _ _ _ _ _ (by first | exact .inr rfl | exact .inl rfl) rfl (by first | exact FzH.refl _ | exact FzH.sub (by (repeat' (first | exact Sub.refl _ | assumption | (refine Sub.upd ?_ (by first | assumption | (simp only [*]; done) | exact Sub.isNone (by assumption) (by assumption) | exact Sub.isNone (by assumption) (by simp only [*]))))))) (FzL.refl _ _ _) ?_; try (simp only [go_sem, Int.reduceEq, Int.reduceAdd, Int.reduceSub, Int.reduceMul, Nat.reduceLT, Int.reduceLT, Int.reduceLE, Int.reduceToNat, Nat.reduceAdd, Nat.reduceSub, Nat.reduceMul, Nat.reduceLeDiff, reduceCtorEq]))
      · simp only [go_sem, Int.reduceEq, Int.reduceAdd, Int.reduceSub, Int.reduceMul, Nat.reduceLT, Int.reduceLT, Int.reduceLE, Int.reduceToNat, Nat.reduceAdd, Nat.reduceSub, Nat.reduceMul, Nat.reduceLeDiff, reduceCtorEq, d4_0, hlt, hall]
        refine frz_id ?_
        simp only [go_sem, Int.reduceEq, Int.reduceAdd, Int.reduceSub, Int.reduceMul, Nat.reduceLT, Int.reduceLT, Int.reduceLE, Int.reduceToNat, Nat.reduceAdd, Nat.reduceSub, Nat.reduceMul, Nat.reduceLeDiff, reduceCtorEq]
        refine (known_spec _).use ?_
        simp only [go_sem, Int.reduceEq, Int.reduceAdd, Int.reduceSub, Int.reduceMul, Nat.reduceLT, Int.reduceLT, Int.reduceLE, Int.reduceToNat, Nat.reduceAdd, Nat.reduceSub, Nat.reduceMul, Nat.reduceLeDiff, reduceCtorEq, la, ta, eZ, dz, Nat.le_refl, if_true]
        (refine hQ _ _ _ _ _ (by first | exact .inr rfl | exact .inl rfl) rfl (by first | exact FzH.refl _ | exact FzH.sub (by (repeat' (first | exact Sub.refl _ | assumption | (refine Sub.upd ?_ (by first | assumption | (simp only [*]; done) | exact Sub.isNone (by assumption) (by assumption) | exact Sub.isNone (by assumption) (by simp only [*]))))))) (FzL.refl _ _ _) ?_; try (simp only [go_sem, Int.reduceEq, Int.reduceAdd, Int.reduceSub, Int.reduceMul, Nat.reduceLT, Int.reduceLT, Int.reduceLE, Int.reduceToNat, Nat.reduceAdd, Nat.reduceSub, Nat.reduceMul, Nat.reduceLeDiff, reduceCtorEq]))
    · obtain ⟨rfl, rfl⟩ := hok ho
      rw [ho] at hall
      have ho2 := ho
      simp only [ofOk, Bool.and_eq_true, beq_iff_eq] at ho2
      have h8 : l.length = 8 := ho2.1
      have hk8 : k = 8 := by omega
      subst hk8
      have hlt : ¬ 8 < l.length := by omega
      have c9 : decide ((8 : Int) < (l.length : Int)) = false := decide_eq_false (by omega)
      have c8 : ((8 : Nat) : Int) = 8 := rfl
      have c7 : ¬ ((8 : Int) < (l.length : Int)) := by omega
      have eG : cat i1 (l.take 8 ++ List.replicate (8 - 8) 0) = cat i1 l := by
        rw [List.take_of_length_le (by omega)]; simp
      have eE : eqCells [.i, .i, .i, .i, .i, .i, .i, .i, .i, .i, .i, .i, .i, .i, .i, .i] (cat b1 (ofG l)) (cat b1 (ofG l)) = some (decide (ofG l = ofG l)) := eq16 hA.1 hA.1
      have dz : decide (ofG l = ofG l) = true := decide_eq_true rfl
      have li : (cat i1 l).length = 8 := by rw [cat_len i1_len]; omega
      have ti : (cat i1 l).take 8 = cat i1 l := List.take_of_length_le (by omega)
      rw [eG]
      simp only [go_sem, Int.reduceEq, Int.reduceAdd, Int.reduceSub, Int.reduceMul, Nat.reduceLT, Int.reduceLT, Int.reduceLE, Int.reduceToNat, Nat.reduceAdd, Nat.reduceSub, Nat.reduceMul, Nat.reduceLeDiff, reduceCtorEq, d4_0, c8, c9, c7, hlt, hall]
      refine frz_id ?_
      simp only [go_sem, Int.reduceEq, Int.reduceAdd, Int.reduceSub, Int.reduceMul, Nat.reduceLT, Int.reduceLT, Int.reduceLE, Int.reduceToNat, Nat.reduceAdd, Nat.reduceSub, Nat.reduceMul, Nat.reduceLeDiff, reduceCtorEq]
      refine (known_spec _).use ?_
      simp only [go_sem, Int.reduceEq, Int.reduceAdd, Int.reduceSub, Int.reduceMul, Nat.reduceLT, Int.reduceLT, Int.reduceLE, Int.reduceToNat, Nat.reduceAdd, Nat.reduceSub, Nat.reduceMul, Nat.reduceLeDiff, reduceCtorEq, la, ta, li, ti, Nat.le_refl, if_true]
      refine (rof_spec l h8 ho2.2 _).use ?_
      simp only [go_sem, Int.reduceEq, Int.reduceAdd, Int.reduceSub, Int.reduceMul, Nat.reduceLT, Int.reduceLT, Int.reduceLE, Int.reduceToNat, Nat.reduceAdd, Nat.reduceSub, Nat.reduceMul, Nat.reduceLeDiff, reduceCtorEq, eE, dz, la, ta, Nat.le_refl, if_true]
      (refine hQ _ _ _ _ _ (by first | exact .inr rfl | exact .inl rfl) rfl (by first | exact FzH.refl _ | exact FzH.sub (by (repeat' (first | exact Sub.refl _ | assumption | (refine Sub.upd ?_ (by first | assumption | (simp only [*]; done) | exact Sub.isNone (by assumption) (by assumption) | exact Sub.isNone (by assumption) (by simp only [*]))))))) (FzL.refl _ _ _) ?_; try (simp only [go_sem, Int.reduceEq, Int.reduceAdd, Int.reduceSub, Int.reduceMul, Nat.reduceLT, Int.reduceLT, Int.reduceLE, Int.reduceToNat, Nat.reduceAdd, Nat.reduceSub, Nat.reduceMul, Nat.reduceLeDiff, reduceCtorEq]))

/-- Whole numbers that come in. -/
theorem sh_ints {n : Nat} {t : TypeId} {els : List (List AV)} (ht : Tryd.prog.underlying t = some (.int .i64)) (h : ∀ el ∈ els, el.length = Tryd.prog.cellsOf t ∧ ShC Tryd.prog (n + 1) t el) : ∃ l : List Int, els.flatten = cat i1 l ∧ els.length = l.length := by
  obtain ⟨l, e1, e2, _⟩ := sh_list (enc := i1) (R := fun _ => True) (els := els) fun el hel => by
    have := (h el hel).2
    simp only [ShC, ht] at this
    obtain ⟨i, rfl, _⟩ := this
    exact ⟨i, rfl, trivial⟩
  exact ⟨l, e1, e2⟩

theorem grp_law (xs : List AV) (h : ArgsSh Tryd.prog 6 Tryd.f4.params.toList xs) : PureA Tryd.prog 4 xs emp (.bool true) := by
  rw [Tryd.params4] at h
  simp only [ArgsSh, ArgSh, Tryd.underlying29] at h
  obtain ⟨_, _, rfl, hx, rfl⟩ := h
  rw [ShC] at hx
  simp only [Tryd.underlying29] at hx
  obtain ⟨els, e, hl, hels⟩ := hx
  cases e
  obtain ⟨l, e1, e2⟩ := sh_ints Tryd.underlying3 hels
  rw [e1, e2]
  exact grp_walk l (by omega)

end Go.Proofs.YtdlghfekgecjjaaDoor
