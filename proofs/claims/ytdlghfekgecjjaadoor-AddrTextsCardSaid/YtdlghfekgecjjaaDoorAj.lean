/-
  AddrCuts on abstract values.
-/
import Derived.Test.YtdlghfekgecjjaaDoorAe
import Derived.Test.YtdlghfekgecjjaaDoorAi
namespace Go.Proofs.YtdlghfekgecjjaaDoor
open Go E
set_option linter.unusedVariables false
set_option linter.unusedSimpArgs false
set_option maxRecDepth 100000

theorem cutB_nat : ∀ k1 : Nat, k1 < 9 → ∀ k2 : Nat, k2 < 9 → ∀ m : Nat, m < 256 → cutB (cutB (m : Int) (k1 : Int)) (k2 : Int) = cutB (m : Int) ((min k1 k2 : Nat) : Int) := by decide +kernel
theorem cutB_cutB {x k1 k2 : Int} (hx : 0 ≤ x ∧ x ≤ 255) (h1 : 0 ≤ k1 ∧ k1 ≤ 8) (h2 : 0 ≤ k2 ∧ k2 ≤ 8) : cutB (cutB x k1) k2 = cutB x (min k1 k2) := by
  obtain ⟨m, rfl⟩ := Int.eq_ofNat_of_zero_le hx.1
  obtain ⟨a, rfl⟩ := Int.eq_ofNat_of_zero_le h1.1
  obtain ⟨b, rfl⟩ := Int.eq_ofNat_of_zero_le h2.1
  rw [cutB_nat a (by omega) b (by omega) m (by omega)]
  congr 1
  omega
theorem keep_min (n m c : Int) : min (keepI n c) (keepI m c) = keepI (if m < n then m else n) c := by
  unfold keepI
  (repeat' split) <;> omega
theorem cutL_at (a : List Int) (n : Int) (i : Nat) (h : i < 16) : (cutL a n).getD i 0 = cutB (a.getD i 0) (keepI n (8 * i)) := by
  simp [cutL, List.getD_eq_getElem?_getD, h]
theorem getD_byte {a : List Int} (ha : isA a) (i : Nat) (h : i < 16) : 0 ≤ a.getD i 0 ∧ a.getD i 0 ≤ 255 := by
  have hi16 : i < a.length := by rw [ha.1]; exact h
  have : a.getD i 0 = a[i] := by simp [hi16]
  rw [this]
  exact ha.2 _ (List.getElem_mem hi16)
theorem cutL_cutL {a : List Int} (ha : isA a) (n m : Int) : cutL (cutL a n) m = cutL a (if m < n then m else n) := by
  unfold cutL
  refine List.map_congr_left fun i hi => ?_
  have h : i < 16 := by simpa using hi
  have e := cutL_at a n i h
  unfold cutL at e
  rw [e, cutB_cutB (getD_byte ha i h) (keep_bound _ _) (keep_bound _ _), keep_min]
theorem cutL_same {a : List Int} (ha : isA a) (n : Int) : cutL (cutL a n) n = cutL a n := by
  rw [cutL_cutL ha]; simp

theorem cutp_ok (a : List Int) (ha : isA a) (n : Int) (h0 : 0 ≤ n) (h1 : n ≤ 128) (h : AHeap) : PureA Tryd.prog 16 [.agg (cat b1 a), .int .i64 n] h (.tup [.agg (pfx (cutL a n) n), .int .i64 0]) := by
  have := cutp_spec a ha n h
  unfold cutV at this
  rw [if_pos (by simp [h0, h1])] at this
  exact this

theorem right_cut {a : List Int} (ha : isA a) {n : Int} (h0 : 0 ≤ n) (h1 : n ≤ 128) : rightB (cutL a n) n = true := by
  simp [rightB, h0, h1, cutL_same ha]
theorem has_cut {a : List Int} (ha : isA a) {n : Int} (h0 : 0 ≤ n) (h1 : n ≤ 128) : hasB (cutL a n) n a = true := by
  simp [hasB, right_cut ha h0 h1]

set_option maxHeartbeats 4000000 in
theorem cuts_walk (a : List Int) (ha : isA a) (n m : Int) : PureA Tryd.prog 5 [.agg (cat b1 a), .int .i64 n, .int .i64 m] emp (.bool true) := by
  have hN : ∀ n : Int, 0 ≤ IntKind.i64.wrap ((IntKind.u64.wrap n).tmod 129) ∧ IntKind.i64.wrap ((IntKind.u64.wrap n).tmod 129) ≤ 128 := fun n => by
    have h1 : 0 ≤ IntKind.u64.wrap n := by rw [wu64]; omega
    have h2 := Int.tmod_nonneg 129 h1
    have h3 := Int.tmod_lt_of_pos (IntKind.u64.wrap n) (show (0 : Int) < 129 by decide)
    rw [w64 (by omega) (by omega)]
    omega
  have hn := hN n
  have hm := hN m
  generalize eN : IntKind.i64.wrap ((IntKind.u64.wrap n).tmod 129) = N at hn
  generalize eM : IntKind.i64.wrap ((IntKind.u64.wrap m).tmod 129) = M at hm
  have la : (cat b1 a).length = 16 := by rw [cat_len b1_len, ha.1]
  have ta : (cat b1 a).take 16 = cat b1 a := List.take_of_length_le (by omega)
  have fl : ∀ (x : List Int) (k : Int), isA x → (pfx x k).length = 17 ∧ (pfx x k).all scalar = true ∧ (pfx x k).take 16 = cat b1 x ∧ (pfx x k).drop 16 = [.int .i64 k] ∧ (pfx x k).take 17 = pfx x k := fun x k hx =>
    ⟨pfx_len hx.1, by rw [pfx, List.all_append, cat_sca b1_sca]; rfl, pfx_take hx.1, pfx_drop hx.1, List.take_of_length_le (by rw [pfx_len hx.1]; omega)⟩
  have hA1 := cutL_is ha N
  have hA2 := cutL_is hA1 M
  have hK : 0 ≤ (if M < N then M else N) ∧ (if M < N then M else N) ≤ 128 := by split <;> omega
  generalize eK : (if M < N then M else N) = K at hK
  have hA3 := cutL_is ha K
  obtain ⟨u1, u2, u3, u4, u5⟩ := fl _ N hA1
  obtain ⟨v1, v2, v3, v4, v5⟩ := fl _ M hA2
  obtain ⟨t1, t2, t3, t4, t5⟩ := fl _ K hA3
  have eq23 : cutL (cutL a N) M = cutL a K := by rw [cutL_cutL ha, eK]
  have hr : ∀ x, binA .rem (.int .u64 x) (.int .u64 129) = some (.int .u64 (x.tmod 129)) := fun x => rfl
  (refine PureA.enter (ac := c5) (rs := r5) Tryd.func5 rfl (by decide) c5_ok r5_ok ?_; intro Q hQ; simp only [go_sem, Int.reduceEq, Int.reduceAdd, Int.reduceSub, Int.reduceMul, Nat.reduceLT, Int.reduceLT, Int.reduceLE, Int.reduceToNat, Nat.reduceAdd, Nat.reduceSub, Nat.reduceMul, Nat.reduceLeDiff, reduceCtorEq, c5, Tryd.ntmps5, hr, eN, eM, la, ta, Nat.le_refl, if_true])
  refine (cutp_ok a ha N hn.1 hn.2 _).use ?_
  simp only [go_sem, Int.reduceEq, Int.reduceAdd, Int.reduceSub, Int.reduceMul, Nat.reduceLT, Int.reduceLT, Int.reduceLE, Int.reduceToNat, Nat.reduceAdd, Nat.reduceSub, Nat.reduceMul, Nat.reduceLeDiff, reduceCtorEq]
  intro p hp
  simp only [go_sem, Int.reduceEq, Int.reduceAdd, Int.reduceSub, Int.reduceMul, Nat.reduceLT, Int.reduceLT, Int.reduceLE, Int.reduceToNat, Nat.reduceAdd, Nat.reduceSub, Nat.reduceMul, Nat.reduceLeDiff, reduceCtorEq, del_same, del_none hp, u1, u2, u3, u4, u5]
  refine (cutp_ok _ hA1 M hm.1 hm.2 _).use ?_
  simp only [go_sem, Int.reduceEq, Int.reduceAdd, Int.reduceSub, Int.reduceMul, Nat.reduceLT, Int.reduceLT, Int.reduceLE, Int.reduceToNat, Nat.reduceAdd, Nat.reduceSub, Nat.reduceMul, Nat.reduceLeDiff, reduceCtorEq]
  intro q hq
  simp only [go_sem, Int.reduceEq, Int.reduceAdd, Int.reduceSub, Int.reduceMul, Nat.reduceLT, Int.reduceLT, Int.reduceLE, Int.reduceToNat, Nat.reduceAdd, Nat.reduceSub, Nat.reduceMul, Nat.reduceLeDiff, reduceCtorEq, del_same, del_none hq, v1, v2, v3, v4, v5, eK, la, ta, Nat.le_refl, if_true]
  refine (cutp_ok a ha K hK.1 hK.2 _).use ?_
  simp only [go_sem, Int.reduceEq, Int.reduceAdd, Int.reduceSub, Int.reduceMul, Nat.reduceLT, Int.reduceLT, Int.reduceLE, Int.reduceToNat, Nat.reduceAdd, Nat.reduceSub, Nat.reduceMul, Nat.reduceLeDiff, reduceCtorEq]
  intro r hr2
  simp only [go_sem, Int.reduceEq, Int.reduceAdd, Int.reduceSub, Int.reduceMul, Nat.reduceLT, Int.reduceLT, Int.reduceLE, Int.reduceToNat, Nat.reduceAdd, Nat.reduceSub, Nat.reduceMul, Nat.reduceLeDiff, reduceCtorEq, del_same, del_none hr2, t1, t2, t3, t4, t5]
  refine (known_spec _).use ?_
  simp only [go_sem, Int.reduceEq, Int.reduceAdd, Int.reduceSub, Int.reduceMul, Nat.reduceLT, Int.reduceLT, Int.reduceLE, Int.reduceToNat, Nat.reduceAdd, Nat.reduceSub, Nat.reduceMul, Nat.reduceLeDiff, reduceCtorEq, eq16 hA2.1 hA3.1, decide_eq_true eq23, u1, u2, u3, u4, u5, v1, v2, v3, v4, v5, t1, t2, t3, t4, t5, la, ta, Nat.le_refl, if_true]
  refine (right_spec _ hA1 N _).use ?_
  simp only [go_sem, Int.reduceEq, Int.reduceAdd, Int.reduceSub, Int.reduceMul, Nat.reduceLT, Int.reduceLT, Int.reduceLE, Int.reduceToNat, Nat.reduceAdd, Nat.reduceSub, Nat.reduceMul, Nat.reduceLeDiff, reduceCtorEq, right_cut ha hn.1 hn.2, v5]
  refine (right_spec _ hA2 M _).use ?_
  simp only [go_sem, Int.reduceEq, Int.reduceAdd, Int.reduceSub, Int.reduceMul, Nat.reduceLT, Int.reduceLT, Int.reduceLE, Int.reduceToNat, Nat.reduceAdd, Nat.reduceSub, Nat.reduceMul, Nat.reduceLeDiff, reduceCtorEq, right_cut hA1 hm.1 hm.2, u5, la, ta, Nat.le_refl, if_true]
  refine (has_spec _ hA1 N a ha _).use ?_
  simp only [go_sem, Int.reduceEq, Int.reduceAdd, Int.reduceSub, Int.reduceMul, Nat.reduceLT, Int.reduceLT, Int.reduceLE, Int.reduceToNat, Nat.reduceAdd, Nat.reduceSub, Nat.reduceMul, Nat.reduceLeDiff, reduceCtorEq, has_cut ha hn.1 hn.2, t5, la, ta, Nat.le_refl, if_true]
  refine (has_spec _ hA3 K a ha _).use ?_
  simp only [go_sem, Int.reduceEq, Int.reduceAdd, Int.reduceSub, Int.reduceMul, Nat.reduceLT, Int.reduceLT, Int.reduceLE, Int.reduceToNat, Nat.reduceAdd, Nat.reduceSub, Nat.reduceMul, Nat.reduceLeDiff, reduceCtorEq, has_cut ha hK.1 hK.2]
  (refine hQ _ _ _ _ _ (by first | exact .inr rfl | exact .inl rfl) rfl (by first | exact FzH.refl _ | exact FzH.sub (by (repeat' (first | exact Sub.refl _ | assumption | (refine Sub.upd ?_ (by first | assumption | (simp only [*]; done) | exact Sub.isNone (by assumption) (by assumption) | exact Sub.isNone (by assumption) (by simp only [*]))))))) (FzL.refl _ _ _) ?_; try (simp only [go_sem, Int.reduceEq, Int.reduceAdd, Int.reduceSub, Int.reduceMul, Nat.reduceLT, Int.reduceLT, Int.reduceLE, Int.reduceToNat, Nat.reduceAdd, Nat.reduceSub, Nat.reduceMul, Nat.reduceLeDiff, reduceCtorEq]))

/-- An address that comes in. -/
theorem sh_addr {n : Nat} {t e : TypeId} {xs : List AV} (ht : Tryd.prog.underlying t = some (.array 16 e)) (he : Tryd.prog.underlying e = some (.int .u8)) (h : ShC Tryd.prog (n + 2) t xs) : ∃ a, xs = cat b1 a ∧ isA a := by
  simp only [ShC, ht] at h
  obtain ⟨els, rfl, hl, hx⟩ := h
  obtain ⟨l, e1, e2, e3⟩ := sh_list (enc := b1) (R := fun x => 0 ≤ x ∧ x ≤ 255) (els := els) fun el hel => by
    have := (hx el hel).2
    simp only [ShC, he] at this
    obtain ⟨i, rfl, hi⟩ := this
    have := wf_u8 hi
    exact ⟨i, rfl, by omega⟩
  exact ⟨l, e1, by omega, e3⟩

theorem cuts_law (xs : List AV) (h : ArgsSh Tryd.prog 6 Tryd.f5.params.toList xs) : PureA Tryd.prog 5 xs emp (.bool true) := by
  rw [Tryd.params5] at h
  simp only [ArgsSh, ArgSh, Tryd.underlying22, Tryd.underlying3] at h
  obtain ⟨_, _, rfl, ⟨ys, rfl, hy⟩, _, _, rfl, hn, _, _, rfl, hm, rfl⟩ := h
  obtain ⟨a, rfl, ha⟩ := sh_addr Tryd.underlying22 Tryd.underlying5 hy
  simp only [ShC, Tryd.underlying3] at hn hm
  obtain ⟨n, e1, _⟩ := hn
  obtain ⟨m, e2, _⟩ := hm
  cases e1; cases e2
  exact cuts_walk a ha n m

end Go.Proofs.YtdlghfekgecjjaaDoor
