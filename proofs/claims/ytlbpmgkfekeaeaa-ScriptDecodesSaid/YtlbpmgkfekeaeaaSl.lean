/-
  Package script: what is written and read; the laws.
-/
import Derived.Test.YtlbpmgkfekeaeaaSd
import Derived.Test.YtlbpmgkfekeaeaaEY
namespace Go.Proofs.Ytlbpmgkfekeaeaa
open Go E
set_option linter.unusedVariables false
set_option linter.unusedSimpArgs false
set_option maxRecDepth 100000

def ticksM (n : Int) : Nat := (max (min n 1000) 0).toNat

theorem if_min (a b : Int) : (if b < a then b else a) = min a b := by omega
theorem if_max (a b : Int) : (if a < b then b else a) = max a b := by omega

theorem ticks_spec (n d : Int) (h : AHeap) : CallsA Try.prog 25 [.int .i64 n, .int .i64 d] h fun r h' => ∃ cs, Grow h 6 r cs (2 * ticksM n) h' := by
  have hm : max (min n 1000) 0 = (ticksM n : Int) := by unfold ticksM; omega
  have hm2 : ticksM n ≤ 1000 := by unfold ticksM; omega
  (refine CallsA.enterR (ac := c25) (rs := r25) Try.func25 rfl (by decide) c25_ok r25_ok ?_; intro Q hQ; simp only [go_sem, w64, Int.cast_ofNat_Int, Int.reduceEq, Int.reduceAdd, Int.reduceSub, Int.reduceMul, Int.natCast_zero, Int.natCast_inj, Int.ofNat_lt, Int.ofNat_le, Int.natCast_nonneg, Int.toNat_natCast, Nat.mul_one, Nat.reduceLT, Int.reduceLT, Int.reduceLE, Int.reduceToNat, Nat.reduceAdd, Nat.reduceSub, Nat.reduceMul, Nat.reduceLeDiff, decide_true, decide_false, Bool.not_true, Bool.not_false, Bool.false_eq_true, if_true, if_false, true_and, and_true, and_self, reduceCtorEq, Bool.and_true, Bool.true_and, Bool.and_self, upd_upd, c25, Try.ntmps25, if_min, if_max, hm])
  refine loop_st d25_0 (fun x : Nat × AV => ticksM n - x.1) (fun x s => (s.set 5 x.2).set 9 (.int .i64 x.1)) (fun x h' => x.1 ≤ ticksM n ∧ ∃ cs, Grow h 6 x.2 cs (2 * x.1) h') (0, .nils) ?_ ⟨Nat.zero_le _, [], Grow.nil⟩ ?_
  · (simp only [go_sem, w64, Int.cast_ofNat_Int, Int.reduceEq, Int.reduceAdd, Int.reduceSub, Int.reduceMul, Int.natCast_zero, Int.natCast_inj, Int.ofNat_lt, Int.ofNat_le, Int.natCast_nonneg, Int.toNat_natCast, Nat.mul_one, Nat.reduceLT, Int.reduceLT, Int.reduceLE, Int.reduceToNat, Nat.reduceAdd, Nat.reduceSub, Nat.reduceMul, Nat.reduceLeDiff, decide_true, decide_false, Bool.not_true, Bool.not_false, Bool.false_eq_true, if_true, if_false, true_and, and_true, and_self, reduceCtorEq, Bool.and_true, Bool.true_and, Bool.and_self, upd_upd, d25_0] <;> rfl)
  rintro N ⟨k, v1⟩ h1 ⟨hk, cs, g⟩ hN
  dsimp only at hk g hN
  simp only [go_sem, w64, Int.cast_ofNat_Int, Int.reduceEq, Int.reduceAdd, Int.reduceSub, Int.reduceMul, Int.natCast_zero, Int.natCast_inj, Int.ofNat_lt, Int.ofNat_le, Int.natCast_nonneg, Int.toNat_natCast, Nat.mul_one, Nat.reduceLT, Int.reduceLT, Int.reduceLE, Int.reduceToNat, Nat.reduceAdd, Nat.reduceSub, Nat.reduceMul, Nat.reduceLeDiff, decide_true, decide_false, Bool.not_true, Bool.not_false, Bool.false_eq_true, if_true, if_false, true_and, and_true, and_self, reduceCtorEq, Bool.and_true, Bool.true_and, Bool.and_self, upd_upd, d25_0]
  have hadd := wadd1 (k := k) (by omega)
  by_cases hlt : k < ticksM n
  · simp only [go_sem, w64, Int.cast_ofNat_Int, Int.reduceEq, Int.reduceAdd, Int.reduceSub, Int.reduceMul, Int.natCast_zero, Int.natCast_inj, Int.ofNat_lt, Int.ofNat_le, Int.natCast_nonneg, Int.toNat_natCast, Nat.mul_one, Nat.reduceLT, Int.reduceLT, Int.reduceLE, Int.reduceToNat, Nat.reduceAdd, Nat.reduceSub, Nat.reduceMul, Nat.reduceLeDiff, decide_true, decide_false, Bool.not_true, Bool.not_false, Bool.false_eq_true, if_true, if_false, true_and, and_true, and_self, reduceCtorEq, Bool.and_true, Bool.true_and, Bool.and_self, upd_upd, hlt]
    refine g.addN (m := 2) rfl rfl (by omega) fun v' h' g' => ?_
    simp only [go_sem, w64, Int.cast_ofNat_Int, Int.reduceEq, Int.reduceAdd, Int.reduceSub, Int.reduceMul, Int.natCast_zero, Int.natCast_inj, Int.ofNat_lt, Int.ofNat_le, Int.natCast_nonneg, Int.toNat_natCast, Nat.mul_one, Nat.reduceLT, Int.reduceLT, Int.reduceLE, Int.reduceToNat, Nat.reduceAdd, Nat.reduceSub, Nat.reduceMul, Nat.reduceLeDiff, decide_true, decide_false, Bool.not_true, Bool.not_false, Bool.false_eq_true, if_true, if_false, true_and, and_true, and_self, reduceCtorEq, Bool.and_true, Bool.true_and, Bool.and_self, upd_upd, hadd]
    refine hN (k + 1, v') _ _ (by dsimp only; omega) ?_ ⟨hlt, _, g'⟩
    simp only [go_sem, w64, Int.cast_ofNat_Int, Int.reduceEq, Int.reduceAdd, Int.reduceSub, Int.reduceMul, Int.natCast_zero, Int.natCast_inj, Int.ofNat_lt, Int.ofNat_le, Int.natCast_nonneg, Int.toNat_natCast, Nat.mul_one, Nat.reduceLT, Int.reduceLT, Int.reduceLE, Int.reduceToNat, Nat.reduceAdd, Nat.reduceSub, Nat.reduceMul, Nat.reduceLeDiff, decide_true, decide_false, Bool.not_true, Bool.not_false, Bool.false_eq_true, if_true, if_false, true_and, and_true, and_self, reduceCtorEq, Bool.and_true, Bool.true_and, Bool.and_self, upd_upd, d25_0]
  · obtain rfl : k = ticksM n := by omega
    (simp only [go_sem, w64, Int.cast_ofNat_Int, Int.reduceEq, Int.reduceAdd, Int.reduceSub, Int.reduceMul, Int.natCast_zero, Int.natCast_inj, Int.ofNat_lt, Int.ofNat_le, Int.natCast_nonneg, Int.toNat_natCast, Nat.mul_one, Nat.reduceLT, Int.reduceLT, Int.reduceLE, Int.reduceToNat, Nat.reduceAdd, Nat.reduceSub, Nat.reduceMul, Nat.reduceLeDiff, decide_true, decide_false, Bool.not_true, Bool.not_false, Bool.false_eq_true, if_true, if_false, true_and, and_true, and_self, reduceCtorEq, Bool.and_true, Bool.true_and, Bool.and_self, upd_upd, hlt]; refine frz_id ?_; simp only [go_sem, w64, Int.cast_ofNat_Int, Int.reduceEq, Int.reduceAdd, Int.reduceSub, Int.reduceMul, Int.natCast_zero, Int.natCast_inj, Int.ofNat_lt, Int.ofNat_le, Int.natCast_nonneg, Int.toNat_natCast, Nat.mul_one, Nat.reduceLT, Int.reduceLT, Int.reduceLE, Int.reduceToNat, Nat.reduceAdd, Nat.reduceSub, Nat.reduceMul, Nat.reduceLeDiff, decide_true, decide_false, Bool.not_true, Bool.not_false, Bool.false_eq_true, if_true, if_false, true_and, and_true, and_self, reduceCtorEq, Bool.and_true, Bool.true_and, Bool.and_self, upd_upd])
    exact hQ _ _ _ _ _ [_] (by first | exact .inr rfl | exact .inl rfl) rfl (.refl _) (.refl _ _ _) ⟨_, g⟩

theorem known28_spec (h : AHeap) : PureA Try.prog 28 [] h (.bool true) := by
  (refine PureA.enter (ac := c28) (rs := r28) Try.func28 rfl (by decide) c28_ok r28_ok ?_; intro Q hQ; simp only [go_sem, w64, Int.cast_ofNat_Int, Int.reduceEq, Int.reduceAdd, Int.reduceSub, Int.reduceMul, Int.natCast_zero, Int.natCast_inj, Int.ofNat_lt, Int.ofNat_le, Int.natCast_nonneg, Int.toNat_natCast, Nat.mul_one, Nat.reduceLT, Int.reduceLT, Int.reduceLE, Int.reduceToNat, Nat.reduceAdd, Nat.reduceSub, Nat.reduceMul, Nat.reduceLeDiff, decide_true, decide_false, Bool.not_true, Bool.not_false, Bool.false_eq_true, if_true, if_false, true_and, and_true, and_self, reduceCtorEq, Bool.and_true, Bool.true_and, Bool.and_self, upd_upd, c28, Try.ntmps28])
  refine (encode_spec [⟨0, 3, 0, 0, 0, []⟩] true h (by simp)).useZ (by (repeat' (first | exact FzL.nil | exact Fz.refl _ | exact FzL.refl _ _ _ | exact Fz.nils | exact Grow.fz (by assumption) | refine FzL.cons ?_ ?_ | refine Fz.agg ?_ | refine Fz.tup ?_ | refine Fz.ro ?_ (by simp)))) ?_
  have e0 : ([⟨0, 3, 0, 0, 0, []⟩] : List St).all St.fits = true := by decide
  have e1 : linesL [⟨0, 3, 0, 0, 0, []⟩] = [0, 10, 128, 3, 128, 0, 0, 0, 0, 0, 128, 0] := by decide
  rw [if_pos e0, e1]
  simp only [go_sem, w64, Int.cast_ofNat_Int, Int.reduceEq, Int.reduceAdd, Int.reduceSub, Int.reduceMul, Int.natCast_zero, Int.natCast_inj, Int.ofNat_lt, Int.ofNat_le, Int.natCast_nonneg, Int.toNat_natCast, Nat.mul_one, Nat.reduceLT, Int.reduceLT, Int.reduceLE, Int.reduceToNat, Nat.reduceAdd, Nat.reduceSub, Nat.reduceMul, Nat.reduceLeDiff, decide_true, decide_false, Bool.not_true, Bool.not_false, Bool.false_eq_true, if_true, if_false, true_and, and_true, and_self, reduceCtorEq, Bool.and_true, Bool.true_and, Bool.and_self, upd_upd]
  refine (same2_spec [0, 10, 128, 3, 128, 0, 0, 0, 0, 0, 128, 0] [0, 10, 128, 3, 128, 0, 0, 0, 0, 0, 128, 0] _ _ _ (by simp)).use ?_
  simp only [go_sem, w64, Int.cast_ofNat_Int, Int.reduceEq, Int.reduceAdd, Int.reduceSub, Int.reduceMul, Int.natCast_zero, Int.natCast_inj, Int.ofNat_lt, Int.ofNat_le, Int.natCast_nonneg, Int.toNat_natCast, Nat.mul_one, Nat.reduceLT, Int.reduceLT, Int.reduceLE, Int.reduceToNat, Nat.reduceAdd, Nat.reduceSub, Nat.reduceMul, Nat.reduceLeDiff, decide_true, decide_false, Bool.not_true, Bool.not_false, Bool.false_eq_true, if_true, if_false, true_and, and_true, and_self, reduceCtorEq, Bool.and_true, Bool.true_and, Bool.and_self, upd_upd]
  refine (ticks_spec 2 1 h).use ?_
  rintro r h' ⟨cs, g⟩
  simp only [go_sem, w64, Int.cast_ofNat_Int, Int.reduceEq, Int.reduceAdd, Int.reduceSub, Int.reduceMul, Int.natCast_zero, Int.natCast_inj, Int.ofNat_lt, Int.ofNat_le, Int.natCast_nonneg, Int.toNat_natCast, Nat.mul_one, Nat.reduceLT, Int.reduceLT, Int.reduceLE, Int.reduceToNat, Nat.reduceAdd, Nat.reduceSub, Nat.reduceMul, Nat.reduceLeDiff, decide_true, decide_false, Bool.not_true, Bool.not_false, Bool.false_eq_true, if_true, if_false, true_and, and_true, and_self, reduceCtorEq, Bool.and_true, Bool.true_and, Bool.and_self, upd_upd, g.len, show 2 * ticksM 2 = 4 from rfl]
  refine hQ _ _ _ _ _ (by first | exact .inr rfl | exact .inl rfl) rfl g.fzH (.refl _ _ _) ?_
  simp only [go_sem, w64, Int.cast_ofNat_Int, Int.reduceEq, Int.reduceAdd, Int.reduceSub, Int.reduceMul, Int.natCast_zero, Int.natCast_inj, Int.ofNat_lt, Int.ofNat_le, Int.natCast_nonneg, Int.toNat_natCast, Nat.mul_one, Nat.reduceLT, Int.reduceLT, Int.reduceLE, Int.reduceToNat, Nat.reduceAdd, Nat.reduceSub, Nat.reduceMul, Nat.reduceLeDiff, decide_true, decide_false, Bool.not_true, Bool.not_false, Bool.false_eq_true, if_true, if_false, true_and, and_true, and_self, reduceCtorEq, Bool.and_true, Bool.true_and, Bool.and_self, upd_upd]

/-! ### What is written is read -/

def bytesOK (l : List Int) : Prop := ∀ x ∈ l, byte x

theorem line_eq (s : St) : s.line = [s.k % 256, (10 + (s.xs.length : Int)) % 256, (s.a + 32768) / 256 % 256, (s.a + 32768) % 256, (s.b + 32768) / 256 % 256, (s.b + 32768) % 256, s.c / 16777216 % 256, s.c / 65536 % 256, s.c / 256 % 256, s.c % 256, (s.d + 32768) / 256 % 256, (s.d + 32768) % 256] ++ s.xs := by
  simp [St.line, digsL, digs]

theorem line_bytes {s : St} (hx : bytesOK s.xs) : bytesOK s.line := by
  intro x hx'
  rw [line_eq] at hx'
  rcases List.mem_append.1 hx' with h | h
  · simp only [List.mem_cons, List.mem_nil_iff, or_false] at h
    unfold byte
    omega
  · exact hx x h

theorem dec_line {s : St} (hf : s.fits = true) (r : List Int) : dec (s.line ++ r) = (s :: (dec r).1, (dec r).2) := by
  obtain ⟨p1, p2, p3, p4, p5, p6⟩ := St.parts hf
  obtain ⟨k, a, b, c, d, xs⟩ := s
  dsimp only at p1 p2 p3 p4 p5 p6
  have hl := line_eq (St.mk k a b c d xs)
  dsimp only at hl
  have g0 : ((St.mk k a b c d xs).line ++ r).getD 0 0 = k := by rw [hl]; simp; omega
  have g1 : ((St.mk k a b c d xs).line ++ r).getD 1 0 = 10 + xs.length := by rw [hl]; simp; omega
  have hlen : (St.mk k a b c d xs).line.length = 12 + xs.length := by rw [hl]; simp; omega
  have he : entN ((St.mk k a b c d xs).line ++ r) = 10 + xs.length := by unfold entN; rw [g1]; omega
  have hw : whole ((St.mk k a b c d xs).line ++ r) = true := by
    unfold whole; rw [g1, List.length_append, hlen]; simp; omega
  have hd : ((St.mk k a b c d xs).line ++ r).drop (2 + entN ((St.mk k a b c d xs).line ++ r)) = r := by
    rw [he, show 2 + (10 + xs.length) = (St.mk k a b c d xs).line.length by omega, List.drop_left]
  have hx : (((St.mk k a b c d xs).line ++ r).drop 2).take (entN ((St.mk k a b c d xs).line ++ r)) = [(a + 32768) / 256 % 256, (a + 32768) % 256, (b + 32768) / 256 % 256, (b + 32768) % 256, c / 16777216 % 256, c / 65536 % 256, c / 256 % 256, c % 256, (d + 32768) / 256 % 256, (d + 32768) % 256] ++ xs := by
    rw [he, hl]
    simp only [List.cons_append, List.nil_append, List.drop_succ_cons, List.drop_zero]
    rw [show 10 + xs.length = xs.length + 10 by omega]
    simp only [List.take_succ_cons, List.cons.injEq, true_and]
    exact List.take_left
  rw [dec_step hw (by rw [g0]; omega) (by rw [g1]; omega), hd, hx, g0]
  have : stepOf k ([(a + 32768) / 256 % 256, (a + 32768) % 256, (b + 32768) / 256 % 256, (b + 32768) % 256, c / 16777216 % 256, c / 65536 % 256, c / 256 % 256, c % 256, (d + 32768) / 256 % 256, (d + 32768) % 256] ++ xs) = ⟨k, a, b, c, d, xs⟩ := by
    simp only [stepOf, two, joinN, List.cons_append, List.nil_append, List.drop_succ_cons, List.drop_zero, List.take_succ_cons, List.take_zero, List.foldl_cons, List.foldl_nil, St.mk.injEq, true_and, and_true]
    omega
  rw [this]

theorem dec_lines : ∀ {l : List St}, l.all St.fits = true → ∀ r, dec (linesL l ++ r) = (l ++ (dec r).1, (dec r).2)
  | [], _, r => by simp [linesL]
  | s :: l, h, r => by
    simp only [List.all_cons, Bool.and_eq_true] at h
    have e : linesL (s :: l) ++ r = s.line ++ (linesL l ++ r) := by simp [linesL]
    rw [e, dec_line h.1, dec_lines h.2 r]
    rfl

theorem lines_bytes : ∀ {l : List St}, (∀ s ∈ l, bytesOK s.xs) → bytesOK (linesL l)
  | [], _ => by simp [linesL, bytesOK]
  | s :: l, h => by
    intro x hx
    have e : linesL (s :: l) = s.line ++ linesL l := by simp [linesL]
    rw [e] at hx
    rcases List.mem_append.1 hx with hx | hx
    · exact line_bytes (h s (by simp)) x hx
    · exact lines_bytes (fun t ht => h t (by simp [ht])) x hx

/-! ### The laws -/

theorem St.fits_len {s : St} (h : s.fits = true) : s.xs.length ≤ 245 := (St.parts h).2.2.2.2.2

/-- Two slices that one builds at the same time. -/
theorem E.Grow.swap {h h1 h2 : AHeap} {e1 e2 n1 n2 : Nat} {v1 v2 : AV} {c1 c2 : List AV} (g1 : Grow h e1 v1 c1 n1 h1) (g2 : Grow h1 e2 v2 c2 n2 h2) : ∃ h1', Grow h e2 v2 c2 n2 h1' ∧ Grow h1' e1 v1 c1 n1 h2 := by
  rcases g1.how with ⟨a1, a2, rfl⟩ | ⟨a1, rfl⟩ | ⟨id, cap, a1, a2, hid, rfl⟩
  · exact ⟨h2, g2, g1.size, g1.sca, .inl ⟨a1, a2, rfl⟩⟩
  · exact ⟨h2, g2, g1.size, g1.sca, .inr (.inl ⟨a1, rfl⟩)⟩
  · rcases g2.how with ⟨b1, b2, rfl⟩ | ⟨b1, rfl⟩ | ⟨id2, cap2, b1, b2, hid2, rfl⟩
    · exact ⟨h, ⟨g2.size, g2.sca, .inl ⟨b1, b2, rfl⟩⟩, g1⟩
    · exact ⟨h, ⟨g2.size, g2.sca, .inr (.inl ⟨b1, rfl⟩)⟩, g1⟩
    · have hne : id2 ≠ id := by rintro rfl; simp [upd] at hid2
      rw [upd_ne hne] at hid2
      exact ⟨upd h id2 (.cells c2 (cap2 * e2)), ⟨g2.size, g2.sca, .inr (.inr ⟨id2, cap2, b1, b2, hid2, rfl⟩)⟩, g1.size, g1.sca, .inr (.inr ⟨id, cap, a1, a2, by rw [upd_ne hne.symm]; exact hid, upd_comm hne.symm⟩)⟩

mutual
theorem Fz_mono {h h' k k' : AHeap} (s : Sub h h') (q : Sub k' k) : ∀ {x y : AV}, Fz h k x y → Fz h' k' x y
  | _, _, .refl x => .refl x
  | _, _, .undef x => .undef x
  | _, _, .sl n h1 h2 h3 h4 h5 => .sl n (s _ _ h1) (q.isNone h2) h3 (FzL_mono s q h4) h5
  | _, _, .ptr n h1 h2 h3 h4 => .ptr n (s _ _ h1) (q.isNone h2) h3 (FzL_mono s q h4)
  | _, _, .nils => .nils
  | _, _, .ro h1 h2 => .ro (FzL_mono s q h1) h2
  | _, _, .rp h1 => .rp (FzL_mono s q h1)
  | _, _, .agg h1 => .agg (FzL_mono s q h1)
  | _, _, .tup h1 => .tup (FzL_mono s q h1)
  | _, _, .fn h1 => .fn (FzL_mono s q h1)
theorem FzL_mono {h h' k k' : AHeap} (s : Sub h h') (q : Sub k' k) : ∀ {x y : List AV}, FzL h k x y → FzL h' k' x y
  | _, _, .nil => .nil
  | _, _, .cons a b => .cons (Fz_mono s q a) (FzL_mono s q b)
end

theorem to_bytes {l : List St} {k : Nat} (hb : ∀ s ∈ l, bytesOK s.xs) : ∀ s ∈ (l.take k).map St.to, bytesOK s.xs := by
  intro s hs
  obtain ⟨t, ht, rfl⟩ := List.mem_map.1 hs
  intro x hx
  exact hb t (List.mem_of_mem_take ht) x (List.mem_of_mem_take hx)

set_option maxHeartbeats 4000000 in
theorem lencodes_spec (l : List St) (ex : Bool) (h : AHeap) (hn : l.length ≤ 9223372036854775807) (hb : ∀ s ∈ l, bytesOK s.xs) : PureA Try.prog 8 [.ro (cat St.av l) l.length ex] h (.bool true) := by
  (refine PureA.enter (ac := c8) (rs := r8) Try.func8 rfl (by decide) c8_ok r8_ok ?_; intro Q hQ; simp only [go_sem, w64, Int.cast_ofNat_Int, Int.reduceEq, Int.reduceAdd, Int.reduceSub, Int.reduceMul, Int.natCast_zero, Int.natCast_inj, Int.ofNat_lt, Int.ofNat_le, Int.natCast_nonneg, Int.toNat_natCast, Nat.mul_one, Nat.reduceLT, Int.reduceLT, Int.reduceLE, Int.reduceToNat, Nat.reduceAdd, Nat.reduceSub, Nat.reduceMul, Nat.reduceLeDiff, decide_true, decide_false, Bool.not_true, Bool.not_false, Bool.false_eq_true, if_true, if_false, true_and, and_true, and_self, reduceCtorEq, Bool.and_true, Bool.true_and, Bool.and_self, upd_upd, c8, Try.ntmps8])
  refine loop_st d8_0 (fun x : Nat × AV × AV × List Int => l.length - x.1) (fun x s => (((s.set 3 x.2.1).set 4 x.2.2.1).set 5 (.bool (((l.take x.1).map St.to).all St.fits))).set 6 (.int .i64 x.1))
    (fun x h' => x.1 ≤ l.length ∧ x.1 ≤ 20 ∧ (((l.take x.1).map St.to).all St.fits = true → x.2.2.2 = linesL ((l.take x.1).map St.to)) ∧ x.2.2.2.length ≤ 257 * x.1 ∧ ∃ h1, Grow h 6 x.2.1 (cat St.av ((l.take x.1).map St.to)) ((l.take x.1).map St.to).length h1 ∧ Grow h1 1 x.2.2.1 (cat b1 x.2.2.2) x.2.2.2.length h') (0, .nils, .nils, []) ?_ ⟨Nat.zero_le _, Nat.zero_le _, fun _ => rfl, by simp, h, Grow.nil, Grow.nil⟩ ?_
  · (simp only [go_sem, w64, Int.cast_ofNat_Int, Int.reduceEq, Int.reduceAdd, Int.reduceSub, Int.reduceMul, Int.natCast_zero, Int.natCast_inj, Int.ofNat_lt, Int.ofNat_le, Int.natCast_nonneg, Int.toNat_natCast, Nat.mul_one, Nat.reduceLT, Int.reduceLT, Int.reduceLE, Int.reduceToNat, Nat.reduceAdd, Nat.reduceSub, Nat.reduceMul, Nat.reduceLeDiff, decide_true, decide_false, Bool.not_true, Bool.not_false, Bool.false_eq_true, if_true, if_false, true_and, and_true, and_self, reduceCtorEq, Bool.and_true, Bool.true_and, Bool.and_self, upd_upd, d8_0] <;> rfl)
  rintro N ⟨k, vx, va, A⟩ h2 ⟨hk, hk20, hA, hAl, h1, gx, ga⟩ hN
  dsimp only at hk hk20 hA hAl gx ga hN
  simp only [go_sem, w64, Int.cast_ofNat_Int, Int.reduceEq, Int.reduceAdd, Int.reduceSub, Int.reduceMul, Int.natCast_zero, Int.natCast_inj, Int.ofNat_lt, Int.ofNat_le, Int.natCast_nonneg, Int.toNat_natCast, Nat.mul_one, Nat.reduceLT, Int.reduceLT, Int.reduceLE, Int.reduceToNat, Nat.reduceAdd, Nat.reduceSub, Nat.reduceMul, Nat.reduceLeDiff, decide_true, decide_false, Bool.not_true, Bool.not_false, Bool.false_eq_true, if_true, if_false, true_and, and_true, and_self, reduceCtorEq, Bool.and_true, Bool.true_and, Bool.and_self, upd_upd, d8_0]
  have hadd := wadd1 (k := k) (by omega)
  have hlen : ((l.take k).map St.to).length = k := by simp; omega
  rcases (show (k < l.length ∧ k < 20) ∨ (¬ k < l.length) ∨ (k < l.length ∧ ¬ k < 20) by omega) with ⟨hlt, h20⟩ | hx
  · have h20' : (k : Int) < 20 := by omega
    have hsn : (l.take (k + 1)).map St.to = (l.take k).map St.to ++ [l[k].to] := by rw [List.take_succ_eq_append_getElem hlt, List.map_append]; rfl
    have ht : ((l.take (k + 1)).map St.to).all St.fits = (((l.take k).map St.to).all St.fits && l[k].to.fits) := by rw [hsn, List.all_append]; simp
    have hln : linesL ((l.take (k + 1)).map St.to) = linesL ((l.take k).map St.to) ++ l[k].to.line := by rw [hsn]; simp [linesL]
    have next : ∀ (va' : AV) (A' : List Int) (h3 : AHeap) (s' : List AV), Grow h1 1 va' (cat b1 A') A'.length h3 → (((l.take (k + 1)).map St.to).all St.fits = true → A' = linesL ((l.take (k + 1)).map St.to)) → A'.length ≤ 257 * (k + 1) →
        appendA h3 6 64 vx (.ro l[k].to.av 1 true) (fun v h4 => ∃ h5, Grow h 6 v (cat St.av ((l.take (k + 1)).map St.to)) ((l.take (k + 1)).map St.to).length h5 ∧ Grow h5 1 va' (cat b1 A') A'.length h4) := by
      intro va' A' h3 s' g' _ _
      obtain ⟨h1', ga2, gx2⟩ := gx.swap g'
      refine gx2.add1 rfl rfl (by omega) fun v' h4 g4 => ?_
      obtain ⟨h5, gx5, ga5⟩ := ga2.swap g4
      exact ⟨h5, by rw [hsn, cat_append, List.length_append]; exact gx5, ga5⟩
    simp only [go_sem, w64, Int.cast_ofNat_Int, Int.reduceEq, Int.reduceAdd, Int.reduceSub, Int.reduceMul, Int.natCast_zero, Int.natCast_inj, Int.ofNat_lt, Int.ofNat_le, Int.natCast_nonneg, Int.toNat_natCast, Nat.mul_one, Nat.reduceLT, Int.reduceLT, Int.reduceLE, Int.reduceToNat, Nat.reduceAdd, Nat.reduceSub, Nat.reduceMul, Nat.reduceLeDiff, decide_true, decide_false, Bool.not_true, Bool.not_false, Bool.false_eq_true, if_true, if_false, true_and, and_true, and_self, reduceCtorEq, Bool.and_true, Bool.true_and, Bool.and_self, upd_upd, hlt, h20', rd_all St.len hlt]
    refine (to28_spec _ _).use ?_
    simp only [go_sem, w64, Int.cast_ofNat_Int, Int.reduceEq, Int.reduceAdd, Int.reduceSub, Int.reduceMul, Int.natCast_zero, Int.natCast_inj, Int.ofNat_lt, Int.ofNat_le, Int.natCast_nonneg, Int.toNat_natCast, Nat.mul_one, Nat.reduceLT, Int.reduceLT, Int.reduceLE, Int.reduceToNat, Nat.reduceAdd, Nat.reduceSub, Nat.reduceMul, Nat.reduceLeDiff, decide_true, decide_false, Bool.not_true, Bool.not_false, Bool.false_eq_true, if_true, if_false, true_and, and_true, and_self, reduceCtorEq, Bool.and_true, Bool.true_and, Bool.and_self, upd_upd]
    intro p hp
    simp only [go_sem, w64, Int.cast_ofNat_Int, Int.reduceEq, Int.reduceAdd, Int.reduceSub, Int.reduceMul, Int.natCast_zero, Int.natCast_inj, Int.ofNat_lt, Int.ofNat_le, Int.natCast_nonneg, Int.toNat_natCast, Nat.mul_one, Nat.reduceLT, Int.reduceLT, Int.reduceLE, Int.reduceToNat, Nat.reduceAdd, Nat.reduceSub, Nat.reduceMul, Nat.reduceLeDiff, decide_true, decide_false, Bool.not_true, Bool.not_false, Bool.false_eq_true, if_true, if_false, true_and, and_true, and_self, reduceCtorEq, Bool.and_true, Bool.true_and, Bool.and_self, upd_upd, St.len, St.sca, del_same, del_none hp, St.take6]
    refine (sfits_spec _ _).use ?_
    simp only [go_sem, w64, Int.cast_ofNat_Int, Int.reduceEq, Int.reduceAdd, Int.reduceSub, Int.reduceMul, Int.natCast_zero, Int.natCast_inj, Int.ofNat_lt, Int.ofNat_le, Int.natCast_nonneg, Int.toNat_natCast, Nat.mul_one, Nat.reduceLT, Int.reduceLT, Int.reduceLE, Int.reduceToNat, Nat.reduceAdd, Nat.reduceSub, Nat.reduceMul, Nat.reduceLeDiff, decide_true, decide_false, Bool.not_true, Bool.not_false, Bool.false_eq_true, if_true, if_false, true_and, and_true, and_self, reduceCtorEq, Bool.and_true, Bool.true_and, Bool.and_self, upd_upd, St.len, St.take6]
    refine (of28_spec _ _).use ?_
    simp only [go_sem, w64, Int.cast_ofNat_Int, Int.reduceEq, Int.reduceAdd, Int.reduceSub, Int.reduceMul, Int.natCast_zero, Int.natCast_inj, Int.ofNat_lt, Int.ofNat_le, Int.natCast_nonneg, Int.toNat_natCast, Nat.mul_one, Nat.reduceLT, Int.reduceLT, Int.reduceLE, Int.reduceToNat, Nat.reduceAdd, Nat.reduceSub, Nat.reduceMul, Nat.reduceLeDiff, decide_true, decide_false, Bool.not_true, Bool.not_false, Bool.false_eq_true, if_true, if_false, true_and, and_true, and_self, reduceCtorEq, Bool.and_true, Bool.true_and, Bool.and_self, upd_upd]
    refine (rfits_spec _ _).use ?_
    simp only [go_sem, w64, Int.cast_ofNat_Int, Int.reduceEq, Int.reduceAdd, Int.reduceSub, Int.reduceMul, Int.natCast_zero, Int.natCast_inj, Int.ofNat_lt, Int.ofNat_le, Int.natCast_nonneg, Int.toNat_natCast, Nat.mul_one, Nat.reduceLT, Int.reduceLT, Int.reduceLE, Int.reduceToNat, Nat.reduceAdd, Nat.reduceSub, Nat.reduceMul, Nat.reduceLeDiff, decide_true, decide_false, Bool.not_true, Bool.not_false, Bool.false_eq_true, if_true, if_false, true_and, and_true, and_self, reduceCtorEq, Bool.and_true, Bool.true_and, Bool.and_self, upd_upd, beq_self_eq_true]
    cases hF : ((l.take k).map St.to).all St.fits
    · simp only [go_sem, w64, Int.cast_ofNat_Int, Int.reduceEq, Int.reduceAdd, Int.reduceSub, Int.reduceMul, Int.natCast_zero, Int.natCast_inj, Int.ofNat_lt, Int.ofNat_le, Int.natCast_nonneg, Int.toNat_natCast, Nat.mul_one, Nat.reduceLT, Int.reduceLT, Int.reduceLE, Int.reduceToNat, Nat.reduceAdd, Nat.reduceSub, Nat.reduceMul, Nat.reduceLeDiff, decide_true, decide_false, Bool.not_true, Bool.not_false, Bool.false_eq_true, if_true, if_false, true_and, and_true, and_self, reduceCtorEq, Bool.and_true, Bool.true_and, Bool.and_self, upd_upd, St.len, St.take6, St.sca, hadd]
      refine append_mono ?_ (next va A h2 [] ga (by rw [ht, hF]; simp) (by omega))
      rintro v' h4 ⟨h5, g5, g6⟩
      simp only [go_sem, w64, Int.cast_ofNat_Int, Int.reduceEq, Int.reduceAdd, Int.reduceSub, Int.reduceMul, Int.natCast_zero, Int.natCast_inj, Int.ofNat_lt, Int.ofNat_le, Int.natCast_nonneg, Int.toNat_natCast, Nat.mul_one, Nat.reduceLT, Int.reduceLT, Int.reduceLE, Int.reduceToNat, Nat.reduceAdd, Nat.reduceSub, Nat.reduceMul, Nat.reduceLeDiff, decide_true, decide_false, Bool.not_true, Bool.not_false, Bool.false_eq_true, if_true, if_false, true_and, and_true, and_self, reduceCtorEq, Bool.and_true, Bool.true_and, Bool.and_self, upd_upd, hadd]
      refine hN (k + 1, v', va, A) _ _ (by dsimp only; omega) ?_ ⟨hlt, h20, by dsimp only; rw [ht, hF]; simp, by dsimp only; omega, h5, g5, g6⟩
      simp only [go_sem, w64, Int.cast_ofNat_Int, Int.reduceEq, Int.reduceAdd, Int.reduceSub, Int.reduceMul, Int.natCast_zero, Int.natCast_inj, Int.ofNat_lt, Int.ofNat_le, Int.natCast_nonneg, Int.toNat_natCast, Nat.mul_one, Nat.reduceLT, Int.reduceLT, Int.reduceLE, Int.reduceToNat, Nat.reduceAdd, Nat.reduceSub, Nat.reduceMul, Nat.reduceLeDiff, decide_true, decide_false, Bool.not_true, Bool.not_false, Bool.false_eq_true, if_true, if_false, true_and, and_true, and_self, reduceCtorEq, Bool.and_true, Bool.true_and, Bool.and_self, upd_upd, d8_0, ht, hF]
    · simp only [go_sem, w64, Int.cast_ofNat_Int, Int.reduceEq, Int.reduceAdd, Int.reduceSub, Int.reduceMul, Int.natCast_zero, Int.natCast_inj, Int.ofNat_lt, Int.ofNat_le, Int.natCast_nonneg, Int.toNat_natCast, Nat.mul_one, Nat.reduceLT, Int.reduceLT, Int.reduceLE, Int.reduceToNat, Nat.reduceAdd, Nat.reduceSub, Nat.reduceMul, Nat.reduceLeDiff, decide_true, decide_false, Bool.not_true, Bool.not_false, Bool.false_eq_true, if_true, if_false, true_and, and_true, and_self, reduceCtorEq, Bool.and_true, Bool.true_and, Bool.and_self, upd_upd, St.len, St.take6]
      refine (of28_spec _ _).use ?_
      simp only [go_sem, w64, Int.cast_ofNat_Int, Int.reduceEq, Int.reduceAdd, Int.reduceSub, Int.reduceMul, Int.natCast_zero, Int.natCast_inj, Int.ofNat_lt, Int.ofNat_le, Int.natCast_nonneg, Int.toNat_natCast, Nat.mul_one, Nat.reduceLT, Int.reduceLT, Int.reduceLE, Int.reduceToNat, Nat.reduceAdd, Nat.reduceSub, Nat.reduceMul, Nat.reduceLeDiff, decide_true, decide_false, Bool.not_true, Bool.not_false, Bool.false_eq_true, if_true, if_false, true_and, and_true, and_self, reduceCtorEq, Bool.and_true, Bool.true_and, Bool.and_self, upd_upd]
      refine (rfits_spec _ _).use ?_
      simp only [go_sem, w64, Int.cast_ofNat_Int, Int.reduceEq, Int.reduceAdd, Int.reduceSub, Int.reduceMul, Int.natCast_zero, Int.natCast_inj, Int.ofNat_lt, Int.ofNat_le, Int.natCast_nonneg, Int.toNat_natCast, Nat.mul_one, Nat.reduceLT, Int.reduceLT, Int.reduceLE, Int.reduceToNat, Nat.reduceAdd, Nat.reduceSub, Nat.reduceMul, Nat.reduceLeDiff, decide_true, decide_false, Bool.not_true, Bool.not_false, Bool.false_eq_true, if_true, if_false, true_and, and_true, and_self, reduceCtorEq, Bool.and_true, Bool.true_and, Bool.and_self, upd_upd]
      cases hf : l[k].to.fits
      · simp only [go_sem, w64, Int.cast_ofNat_Int, Int.reduceEq, Int.reduceAdd, Int.reduceSub, Int.reduceMul, Int.natCast_zero, Int.natCast_inj, Int.ofNat_lt, Int.ofNat_le, Int.natCast_nonneg, Int.toNat_natCast, Nat.mul_one, Nat.reduceLT, Int.reduceLT, Int.reduceLE, Int.reduceToNat, Nat.reduceAdd, Nat.reduceSub, Nat.reduceMul, Nat.reduceLeDiff, decide_true, decide_false, Bool.not_true, Bool.not_false, Bool.false_eq_true, if_true, if_false, true_and, and_true, and_self, reduceCtorEq, Bool.and_true, Bool.true_and, Bool.and_self, upd_upd, St.len, St.take6, St.sca, hadd]
        refine append_mono ?_ (next va A h2 [] ga (by rw [ht, hf]; simp) (by omega))
        rintro v' h4 ⟨h5, g5, g6⟩
        simp only [go_sem, w64, Int.cast_ofNat_Int, Int.reduceEq, Int.reduceAdd, Int.reduceSub, Int.reduceMul, Int.natCast_zero, Int.natCast_inj, Int.ofNat_lt, Int.ofNat_le, Int.natCast_nonneg, Int.toNat_natCast, Nat.mul_one, Nat.reduceLT, Int.reduceLT, Int.reduceLE, Int.reduceToNat, Nat.reduceAdd, Nat.reduceSub, Nat.reduceMul, Nat.reduceLeDiff, decide_true, decide_false, Bool.not_true, Bool.not_false, Bool.false_eq_true, if_true, if_false, true_and, and_true, and_self, reduceCtorEq, Bool.and_true, Bool.true_and, Bool.and_self, upd_upd, hadd]
        refine hN (k + 1, v', va, A) _ _ (by dsimp only; omega) ?_ ⟨hlt, h20, by dsimp only; rw [ht, hf]; simp, by dsimp only; omega, h5, g5, g6⟩
        simp only [go_sem, w64, Int.cast_ofNat_Int, Int.reduceEq, Int.reduceAdd, Int.reduceSub, Int.reduceMul, Int.natCast_zero, Int.natCast_inj, Int.ofNat_lt, Int.ofNat_le, Int.natCast_nonneg, Int.toNat_natCast, Nat.mul_one, Nat.reduceLT, Int.reduceLT, Int.reduceLE, Int.reduceToNat, Nat.reduceAdd, Nat.reduceSub, Nat.reduceMul, Nat.reduceLeDiff, decide_true, decide_false, Bool.not_true, Bool.not_false, Bool.false_eq_true, if_true, if_false, true_and, and_true, and_self, reduceCtorEq, Bool.and_true, Bool.true_and, Bool.and_self, upd_upd, d8_0, ht, hF, hf]
      · simp only [go_sem, w64, Int.cast_ofNat_Int, Int.reduceEq, Int.reduceAdd, Int.reduceSub, Int.reduceMul, Int.natCast_zero, Int.natCast_inj, Int.ofNat_lt, Int.ofNat_le, Int.natCast_nonneg, Int.toNat_natCast, Nat.mul_one, Nat.reduceLT, Int.reduceLT, Int.reduceLE, Int.reduceToNat, Nat.reduceAdd, Nat.reduceSub, Nat.reduceMul, Nat.reduceLeDiff, decide_true, decide_false, Bool.not_true, Bool.not_false, Bool.false_eq_true, if_true, if_false, true_and, and_true, and_self, reduceCtorEq, Bool.and_true, Bool.true_and, Bool.and_self, upd_upd, St.len, St.take6]
        refine (of28_spec _ _).use ?_
        simp only [go_sem, w64, Int.cast_ofNat_Int, Int.reduceEq, Int.reduceAdd, Int.reduceSub, Int.reduceMul, Int.natCast_zero, Int.natCast_inj, Int.ofNat_lt, Int.ofNat_le, Int.natCast_nonneg, Int.toNat_natCast, Nat.mul_one, Nat.reduceLT, Int.reduceLT, Int.reduceLE, Int.reduceToNat, Nat.reduceAdd, Nat.reduceSub, Nat.reduceMul, Nat.reduceLeDiff, decide_true, decide_false, Bool.not_true, Bool.not_false, Bool.false_eq_true, if_true, if_false, true_and, and_true, and_self, reduceCtorEq, Bool.and_true, Bool.true_and, Bool.and_self, upd_upd]
        refine (rentry_spec _ _ hf).use ?_
        simp only [go_sem, w64, Int.cast_ofNat_Int, Int.reduceEq, Int.reduceAdd, Int.reduceSub, Int.reduceMul, Int.natCast_zero, Int.natCast_inj, Int.ofNat_lt, Int.ofNat_le, Int.natCast_nonneg, Int.toNat_natCast, Nat.mul_one, Nat.reduceLT, Int.reduceLT, Int.reduceLE, Int.reduceToNat, Nat.reduceAdd, Nat.reduceSub, Nat.reduceMul, Nat.reduceLeDiff, decide_true, decide_false, Bool.not_true, Bool.not_false, Bool.false_eq_true, if_true, if_false, true_and, and_true, and_self, reduceCtorEq, Bool.and_true, Bool.true_and, Bool.and_self, upd_upd]
        have hll := St.line_len hf
        refine ga.addN (by rw [cat_len b1_len]) (cat_sca b1_sca _) (by omega) fun va' h3 ga' => ?_
        rw [← cat_append, ← List.length_append] at ga'
        simp only [go_sem, w64, Int.cast_ofNat_Int, Int.reduceEq, Int.reduceAdd, Int.reduceSub, Int.reduceMul, Int.natCast_zero, Int.natCast_inj, Int.ofNat_lt, Int.ofNat_le, Int.natCast_nonneg, Int.toNat_natCast, Nat.mul_one, Nat.reduceLT, Int.reduceLT, Int.reduceLE, Int.reduceToNat, Nat.reduceAdd, Nat.reduceSub, Nat.reduceMul, Nat.reduceLeDiff, decide_true, decide_false, Bool.not_true, Bool.not_false, Bool.false_eq_true, if_true, if_false, true_and, and_true, and_self, reduceCtorEq, Bool.and_true, Bool.true_and, Bool.and_self, upd_upd, St.len, St.take6, St.sca, hadd]
        refine append_mono ?_ (next va' (A ++ l[k].to.line) h3 [] ga' (fun _ => by rw [hln, hA hF]) (by rw [List.length_append]; omega))
        rintro v' h4 ⟨h5, g5, g6⟩
        simp only [go_sem, w64, Int.cast_ofNat_Int, Int.reduceEq, Int.reduceAdd, Int.reduceSub, Int.reduceMul, Int.natCast_zero, Int.natCast_inj, Int.ofNat_lt, Int.ofNat_le, Int.natCast_nonneg, Int.toNat_natCast, Nat.mul_one, Nat.reduceLT, Int.reduceLT, Int.reduceLE, Int.reduceToNat, Nat.reduceAdd, Nat.reduceSub, Nat.reduceMul, Nat.reduceLeDiff, decide_true, decide_false, Bool.not_true, Bool.not_false, Bool.false_eq_true, if_true, if_false, true_and, and_true, and_self, reduceCtorEq, Bool.and_true, Bool.true_and, Bool.and_self, upd_upd, hadd]
        refine hN (k + 1, v', va', A ++ l[k].to.line) _ _ (by dsimp only; omega) ?_ ⟨hlt, h20, fun _ => by dsimp only; rw [hln, hA hF], by dsimp only; rw [List.length_append]; omega, h5, g5, g6⟩
        simp only [go_sem, w64, Int.cast_ofNat_Int, Int.reduceEq, Int.reduceAdd, Int.reduceSub, Int.reduceMul, Int.natCast_zero, Int.natCast_inj, Int.ofNat_lt, Int.ofNat_le, Int.natCast_nonneg, Int.toNat_natCast, Nat.mul_one, Nat.reduceLT, Int.reduceLT, Int.reduceLE, Int.reduceToNat, Nat.reduceAdd, Nat.reduceSub, Nat.reduceMul, Nat.reduceLeDiff, decide_true, decide_false, Bool.not_true, Bool.not_false, Bool.false_eq_true, if_true, if_false, true_and, and_true, and_self, reduceCtorEq, Bool.and_true, Bool.true_and, Bool.and_self, upd_upd, d8_0, ht, hF, hf]
  · have hXb := to_bytes (k := k) hb
    generalize hX : (l.take k).map St.to = X at *
    rcases hx with hlt | ⟨hlt, h20⟩ <;> first | simp only [go_sem, w64, Int.cast_ofNat_Int, Int.reduceEq, Int.reduceAdd, Int.reduceSub, Int.reduceMul, Int.natCast_zero, Int.natCast_inj, Int.ofNat_lt, Int.ofNat_le, Int.natCast_nonneg, Int.toNat_natCast, Nat.mul_one, Nat.reduceLT, Int.reduceLT, Int.reduceLE, Int.reduceToNat, Nat.reduceAdd, Nat.reduceSub, Nat.reduceMul, Nat.reduceLeDiff, decide_true, decide_false, Bool.not_true, Bool.not_false, Bool.false_eq_true, if_true, if_false, true_and, and_true, and_self, reduceCtorEq, Bool.and_true, Bool.true_and, Bool.and_self, upd_upd, hlt, show ¬ (k : Int) < 20 by omega] | simp only [go_sem, w64, Int.cast_ofNat_Int, Int.reduceEq, Int.reduceAdd, Int.reduceSub, Int.reduceMul, Int.natCast_zero, Int.natCast_inj, Int.ofNat_lt, Int.ofNat_le, Int.natCast_nonneg, Int.toNat_natCast, Nat.mul_one, Nat.reduceLT, Int.reduceLT, Int.reduceLE, Int.reduceToNat, Nat.reduceAdd, Nat.reduceSub, Nat.reduceMul, Nat.reduceLeDiff, decide_true, decide_false, Bool.not_true, Bool.not_false, Bool.false_eq_true, if_true, if_false, true_and, and_true, and_self, reduceCtorEq, Bool.and_true, Bool.true_and, Bool.and_self, upd_upd, hlt]
    all_goals
      refine frz_at2 3 4 rfl rfl (FzH.sub (gx.sub.trans ga.sub)) (Fz_mono ga.sub (.refl _) gx.fz) (Fz_mono (.refl _) gx.sub ga.fz) ?_
      simp only [go_sem, w64, Int.cast_ofNat_Int, Int.reduceEq, Int.reduceAdd, Int.reduceSub, Int.reduceMul, Int.natCast_zero, Int.natCast_inj, Int.ofNat_lt, Int.ofNat_le, Int.natCast_nonneg, Int.toNat_natCast, Nat.mul_one, Nat.reduceLT, Int.reduceLT, Int.reduceLE, Int.reduceToNat, Nat.reduceAdd, Nat.reduceSub, Nat.reduceMul, Nat.reduceLeDiff, decide_true, decide_false, Bool.not_true, Bool.not_false, Bool.false_eq_true, if_true, if_false, true_and, and_true, and_self, reduceCtorEq, Bool.and_true, Bool.true_and, Bool.and_self, upd_upd]
      refine (encode_spec X _ _ (by omega)).use ?_
      cases hF : X.all St.fits
      · simp only [go_sem, w64, Int.cast_ofNat_Int, Int.reduceEq, Int.reduceAdd, Int.reduceSub, Int.reduceMul, Int.natCast_zero, Int.natCast_inj, Int.ofNat_lt, Int.ofNat_le, Int.natCast_nonneg, Int.toNat_natCast, Nat.mul_one, Nat.reduceLT, Int.reduceLT, Int.reduceLE, Int.reduceToNat, Nat.reduceAdd, Nat.reduceSub, Nat.reduceMul, Nat.reduceLeDiff, decide_true, decide_false, Bool.not_true, Bool.not_false, Bool.false_eq_true, if_true, if_false, true_and, and_true, and_self, reduceCtorEq, Bool.and_true, Bool.true_and, Bool.and_self, upd_upd]
        refine (known28_spec _).use ?_
        simp only [go_sem, w64, Int.cast_ofNat_Int, Int.reduceEq, Int.reduceAdd, Int.reduceSub, Int.reduceMul, Int.natCast_zero, Int.natCast_inj, Int.ofNat_lt, Int.ofNat_le, Int.natCast_nonneg, Int.toNat_natCast, Nat.mul_one, Nat.reduceLT, Int.reduceLT, Int.reduceLE, Int.reduceToNat, Nat.reduceAdd, Nat.reduceSub, Nat.reduceMul, Nat.reduceLeDiff, decide_true, decide_false, Bool.not_true, Bool.not_false, Bool.false_eq_true, if_true, if_false, true_and, and_true, and_self, reduceCtorEq, Bool.and_true, Bool.true_and, Bool.and_self, upd_upd]
        (refine hQ _ _ _ _ _ (by first | exact .inr rfl | exact .inl rfl) rfl (by first | exact FzH.refl _ | exact FzH.sub (by (repeat' (first | exact Sub.refl _ | assumption | (refine Sub.upd ?_ (by first | assumption | (simp only [*]; done) | exact Sub.isNone (by assumption) (by assumption) | exact Sub.isNone (by assumption) (by simp only [*]))))))) (FzL.refl _ _ _) ?_; try (simp only [go_sem, w64, Int.cast_ofNat_Int, Int.reduceEq, Int.reduceAdd, Int.reduceSub, Int.reduceMul, Int.natCast_zero, Int.natCast_inj, Int.ofNat_lt, Int.ofNat_le, Int.natCast_nonneg, Int.toNat_natCast, Nat.mul_one, Nat.reduceLT, Int.reduceLT, Int.reduceLE, Int.reduceToNat, Nat.reduceAdd, Nat.reduceSub, Nat.reduceMul, Nat.reduceLeDiff, decide_true, decide_false, Bool.not_true, Bool.not_false, Bool.false_eq_true, if_true, if_false, true_and, and_true, and_self, reduceCtorEq, Bool.and_true, Bool.true_and, Bool.and_self, upd_upd]))
      · have hA' := hA hF
        subst hA'
        simp only [go_sem, w64, Int.cast_ofNat_Int, Int.reduceEq, Int.reduceAdd, Int.reduceSub, Int.reduceMul, Int.natCast_zero, Int.natCast_inj, Int.ofNat_lt, Int.ofNat_le, Int.natCast_nonneg, Int.toNat_natCast, Nat.mul_one, Nat.reduceLT, Int.reduceLT, Int.reduceLE, Int.reduceToNat, Nat.reduceAdd, Nat.reduceSub, Nat.reduceMul, Nat.reduceLeDiff, decide_true, decide_false, Bool.not_true, Bool.not_false, Bool.false_eq_true, if_true, if_false, true_and, and_true, and_self, reduceCtorEq, Bool.and_true, Bool.true_and, Bool.and_self, upd_upd]
        have hd := dec_lines hF []
        rw [List.append_nil, dec_nil, List.append_nil] at hd
        have hll := linesL_len hF
        refine (decode_spec (linesL X) _ _ (by omega) (lines_bytes hXb)).use ?_
        rw [hd]
        simp only [go_sem, w64, Int.cast_ofNat_Int, Int.reduceEq, Int.reduceAdd, Int.reduceSub, Int.reduceMul, Int.natCast_zero, Int.natCast_inj, Int.ofNat_lt, Int.ofNat_le, Int.natCast_nonneg, Int.toNat_natCast, Nat.mul_one, Nat.reduceLT, Int.reduceLT, Int.reduceLE, Int.reduceToNat, Nat.reduceAdd, Nat.reduceSub, Nat.reduceMul, Nat.reduceLeDiff, decide_true, decide_false, Bool.not_true, Bool.not_false, Bool.false_eq_true, if_true, if_false, true_and, and_true, and_self, reduceCtorEq, Bool.and_true, Bool.true_and, Bool.and_self, upd_upd]
        refine (same2_spec _ _ _ _ _ (by omega)).use ?_
        simp only [go_sem, w64, Int.cast_ofNat_Int, Int.reduceEq, Int.reduceAdd, Int.reduceSub, Int.reduceMul, Int.natCast_zero, Int.natCast_inj, Int.ofNat_lt, Int.ofNat_le, Int.natCast_nonneg, Int.toNat_natCast, Nat.mul_one, Nat.reduceLT, Int.reduceLT, Int.reduceLE, Int.reduceToNat, Nat.reduceAdd, Nat.reduceSub, Nat.reduceMul, Nat.reduceLeDiff, decide_true, decide_false, Bool.not_true, Bool.not_false, Bool.false_eq_true, if_true, if_false, true_and, and_true, and_self, reduceCtorEq, Bool.and_true, Bool.true_and, Bool.and_self, upd_upd]
        refine loop_range d8_1 (X.length) (fun k s => s.set 12 (.int .i64 k)) (fun k h' => (True) ∧ h' = h) ?_ ⟨trivial, rfl⟩ ?_
        · (simp only [go_sem, w64, Int.cast_ofNat_Int, Int.reduceEq, Int.reduceAdd, Int.reduceSub, Int.reduceMul, Int.natCast_zero, Int.natCast_inj, Int.ofNat_lt, Int.ofNat_le, Int.natCast_nonneg, Int.toNat_natCast, Nat.mul_one, Nat.reduceLT, Int.reduceLT, Int.reduceLE, Int.reduceToNat, Nat.reduceAdd, Nat.reduceSub, Nat.reduceMul, Nat.reduceLeDiff, decide_true, decide_false, Bool.not_true, Bool.not_false, Bool.false_eq_true, if_true, if_false, true_and, and_true, and_self, reduceCtorEq, Bool.and_true, Bool.true_and, Bool.and_self, upd_upd, d8_1] <;> rfl)
        rintro N k h' hk ⟨_, rfl⟩ hN
        simp only [go_sem, w64, Int.cast_ofNat_Int, Int.reduceEq, Int.reduceAdd, Int.reduceSub, Int.reduceMul, Int.natCast_zero, Int.natCast_inj, Int.ofNat_lt, Int.ofNat_le, Int.natCast_nonneg, Int.toNat_natCast, Nat.mul_one, Nat.reduceLT, Int.reduceLT, Int.reduceLE, Int.reduceToNat, Nat.reduceAdd, Nat.reduceSub, Nat.reduceMul, Nat.reduceLeDiff, decide_true, decide_false, Bool.not_true, Bool.not_false, Bool.false_eq_true, if_true, if_false, true_and, and_true, and_self, reduceCtorEq, Bool.and_true, Bool.true_and, Bool.and_self, upd_upd, d8_1]
        have hadd := wadd1 (k := k) (by omega)
        by_cases hlt : k < X.length
        · have hxl : X[k].xs.length ≤ 245 := St.fits_len (List.all_eq_true.1 hF _ (List.getElem_mem hlt))
          simp only [go_sem, w64, Int.cast_ofNat_Int, Int.reduceEq, Int.reduceAdd, Int.reduceSub, Int.reduceMul, Int.natCast_zero, Int.natCast_inj, Int.ofNat_lt, Int.ofNat_le, Int.natCast_nonneg, Int.toNat_natCast, Nat.mul_one, Nat.reduceLT, Int.reduceLT, Int.reduceLE, Int.reduceToNat, Nat.reduceAdd, Nat.reduceSub, Nat.reduceMul, Nat.reduceLeDiff, decide_true, decide_false, Bool.not_true, Bool.not_false, Bool.false_eq_true, if_true, if_false, true_and, and_true, and_self, reduceCtorEq, Bool.and_true, Bool.true_and, Bool.and_self, upd_upd, hlt, rd_all St.len hlt]
          refine (of28_spec _ _).use ?_
          simp only [go_sem, w64, Int.cast_ofNat_Int, Int.reduceEq, Int.reduceAdd, Int.reduceSub, Int.reduceMul, Int.natCast_zero, Int.natCast_inj, Int.ofNat_lt, Int.ofNat_le, Int.natCast_nonneg, Int.toNat_natCast, Nat.mul_one, Nat.reduceLT, Int.reduceLT, Int.reduceLE, Int.reduceToNat, Nat.reduceAdd, Nat.reduceSub, Nat.reduceMul, Nat.reduceLeDiff, decide_true, decide_false, Bool.not_true, Bool.not_false, Bool.false_eq_true, if_true, if_false, true_and, and_true, and_self, reduceCtorEq, Bool.and_true, Bool.true_and, Bool.and_self, upd_upd, hlt, rd_all St.len hlt]
          refine (of28_spec _ _).use ?_
          simp only [go_sem, w64, Int.cast_ofNat_Int, Int.reduceEq, Int.reduceAdd, Int.reduceSub, Int.reduceMul, Int.natCast_zero, Int.natCast_inj, Int.ofNat_lt, Int.ofNat_le, Int.natCast_nonneg, Int.toNat_natCast, Nat.mul_one, Nat.reduceLT, Int.reduceLT, Int.reduceLE, Int.reduceToNat, Nat.reduceAdd, Nat.reduceSub, Nat.reduceMul, Nat.reduceLeDiff, decide_true, decide_false, Bool.not_true, Bool.not_false, Bool.false_eq_true, if_true, if_false, true_and, and_true, and_self, reduceCtorEq, Bool.and_true, Bool.true_and, Bool.and_self, upd_upd]
          refine (same28_spec _ _ _ (by omega)).use ?_
          simp only [go_sem, w64, Int.cast_ofNat_Int, Int.reduceEq, Int.reduceAdd, Int.reduceSub, Int.reduceMul, Int.natCast_zero, Int.natCast_inj, Int.ofNat_lt, Int.ofNat_le, Int.natCast_nonneg, Int.toNat_natCast, Nat.mul_one, Nat.reduceLT, Int.reduceLT, Int.reduceLE, Int.reduceToNat, Nat.reduceAdd, Nat.reduceSub, Nat.reduceMul, Nat.reduceLeDiff, decide_true, decide_false, Bool.not_true, Bool.not_false, Bool.false_eq_true, if_true, if_false, true_and, and_true, and_self, reduceCtorEq, Bool.and_true, Bool.true_and, Bool.and_self, upd_upd, hadd]
          (refine hN _ _ hlt ?_ ⟨?_, rfl⟩; (simp only [go_sem, w64, Int.cast_ofNat_Int, Int.reduceEq, Int.reduceAdd, Int.reduceSub, Int.reduceMul, Int.natCast_zero, Int.natCast_inj, Int.ofNat_lt, Int.ofNat_le, Int.natCast_nonneg, Int.toNat_natCast, Nat.mul_one, Nat.reduceLT, Int.reduceLT, Int.reduceLE, Int.reduceToNat, Nat.reduceAdd, Nat.reduceSub, Nat.reduceMul, Nat.reduceLeDiff, decide_true, decide_false, Bool.not_true, Bool.not_false, Bool.false_eq_true, if_true, if_false, true_and, and_true, and_self, reduceCtorEq, Bool.and_true, Bool.true_and, Bool.and_self, upd_upd, d8_1]))
          trivial
        · (simp only [go_sem, w64, Int.cast_ofNat_Int, Int.reduceEq, Int.reduceAdd, Int.reduceSub, Int.reduceMul, Int.natCast_zero, Int.natCast_inj, Int.ofNat_lt, Int.ofNat_le, Int.natCast_nonneg, Int.toNat_natCast, Nat.mul_one, Nat.reduceLT, Int.reduceLT, Int.reduceLE, Int.reduceToNat, Nat.reduceAdd, Nat.reduceSub, Nat.reduceMul, Nat.reduceLeDiff, decide_true, decide_false, Bool.not_true, Bool.not_false, Bool.false_eq_true, if_true, if_false, true_and, and_true, and_self, reduceCtorEq, Bool.and_true, Bool.true_and, Bool.and_self, upd_upd, hlt]; refine frz_id ?_; simp only [go_sem, w64, Int.cast_ofNat_Int, Int.reduceEq, Int.reduceAdd, Int.reduceSub, Int.reduceMul, Int.natCast_zero, Int.natCast_inj, Int.ofNat_lt, Int.ofNat_le, Int.natCast_nonneg, Int.toNat_natCast, Nat.mul_one, Nat.reduceLT, Int.reduceLT, Int.reduceLE, Int.reduceToNat, Nat.reduceAdd, Nat.reduceSub, Nat.reduceMul, Nat.reduceLeDiff, decide_true, decide_false, Bool.not_true, Bool.not_false, Bool.false_eq_true, if_true, if_false, true_and, and_true, and_self, reduceCtorEq, Bool.and_true, Bool.true_and, Bool.and_self, upd_upd])
          refine (known28_spec _).use ?_
          simp only [go_sem, w64, Int.cast_ofNat_Int, Int.reduceEq, Int.reduceAdd, Int.reduceSub, Int.reduceMul, Int.natCast_zero, Int.natCast_inj, Int.ofNat_lt, Int.ofNat_le, Int.natCast_nonneg, Int.toNat_natCast, Nat.mul_one, Nat.reduceLT, Int.reduceLT, Int.reduceLE, Int.reduceToNat, Nat.reduceAdd, Nat.reduceSub, Nat.reduceMul, Nat.reduceLeDiff, decide_true, decide_false, Bool.not_true, Bool.not_false, Bool.false_eq_true, if_true, if_false, true_and, and_true, and_self, reduceCtorEq, Bool.and_true, Bool.true_and, Bool.and_self, upd_upd]
          (refine hQ _ _ _ _ _ (by first | exact .inr rfl | exact .inl rfl) rfl (by first | exact FzH.refl _ | exact FzH.sub (by (repeat' (first | exact Sub.refl _ | assumption | (refine Sub.upd ?_ (by first | assumption | (simp only [*]; done) | exact Sub.isNone (by assumption) (by assumption) | exact Sub.isNone (by assumption) (by simp only [*]))))))) (FzL.refl _ _ _) ?_; try (simp only [go_sem, w64, Int.cast_ofNat_Int, Int.reduceEq, Int.reduceAdd, Int.reduceSub, Int.reduceMul, Int.natCast_zero, Int.natCast_inj, Int.ofNat_lt, Int.ofNat_le, Int.natCast_nonneg, Int.toNat_natCast, Nat.mul_one, Nat.reduceLT, Int.reduceLT, Int.reduceLE, Int.reduceToNat, Nat.reduceAdd, Nat.reduceSub, Nat.reduceMul, Nat.reduceLeDiff, decide_true, decide_false, Bool.not_true, Bool.not_false, Bool.false_eq_true, if_true, if_false, true_and, and_true, and_self, reduceCtorEq, Bool.and_true, Bool.true_and, Bool.and_self, upd_upd]))

theorem dec_mem : ∀ (n : Nat) (b : List Int), b.length ≤ n → ∀ s ∈ (dec b).1, s.xs.length ≤ n
  | 0, b, h => by
    obtain rfl : b = [] := by simpa using h
    rw [dec_nil]; simp
  | n + 1, b, h => by
    by_cases h0 : b = []
    · subst h0; rw [dec_nil]; simp
    · cases hw : whole b
      · rw [dec_part h0 hw]; simp
      · have hl : (b.drop (2 + entN b)).length ≤ n := by simp; omega
        have ih := dec_mem n _ hl
        intro s hs
        by_cases hk : 12 < b.getD 0 0 ∨ b.getD 1 0 < 10
        · rw [dec_skip hw hk] at hs; have := ih s hs; omega
        · simp only [not_or] at hk
          rw [dec_step hw hk.1 hk.2] at hs
          rcases List.mem_cons.1 hs with rfl | hs
          · simp [stepOf]; omega
          · have := ih s hs; omega

set_option maxHeartbeats 4000000 in
theorem ldecodes_spec (b0 : List Int) (ex : Bool) (h : AHeap) (hb0 : bytesOK b0) : PureA Try.prog 9 [.ro (cat b1 b0) b0.length ex] h (.bool true) := by
  have e0 : (if (2000 : Int) < (b0.length : Int) then (2000 : Int) else (b0.length : Int)) = ((min 2000 b0.length : Nat) : Int) := by
    split <;> omega
  have e1 := sl_hi (l := b0) (ex := ex) (k1 := .i64) b1_len (Nat.min_le_right 2000 b0.length)
  (refine PureA.enter (ac := c9) (rs := r9) Try.func9 rfl (by decide) c9_ok r9_ok ?_; intro Q hQ; simp only [go_sem, w64, Int.cast_ofNat_Int, Int.reduceEq, Int.reduceAdd, Int.reduceSub, Int.reduceMul, Int.natCast_zero, Int.natCast_inj, Int.ofNat_lt, Int.ofNat_le, Int.natCast_nonneg, Int.toNat_natCast, Nat.mul_one, Nat.reduceLT, Int.reduceLT, Int.reduceLE, Int.reduceToNat, Nat.reduceAdd, Nat.reduceSub, Nat.reduceMul, Nat.reduceLeDiff, decide_true, decide_false, Bool.not_true, Bool.not_false, Bool.false_eq_true, if_true, if_false, true_and, and_true, and_self, reduceCtorEq, Bool.and_true, Bool.true_and, Bool.and_self, upd_upd, c9, Try.ntmps9, e0, Option.map_none, Option.map_some, e1])
  have hb : bytesOK (b0.take (min 2000 b0.length)) := fun x hx => hb0 x (List.mem_of_mem_take hx)
  have hbl : (b0.take (min 2000 b0.length)).length ≤ 2000 := by simp; omega
  generalize b0.take (min 2000 b0.length) = b at hb hbl ⊢
  generalize (ex && min 2000 b0.length == b0.length) = ex
  obtain ⟨bd1, bd2, bd3⟩ := dec_bd _ b (Nat.le_refl _)
  have hm := dec_mem _ b (Nat.le_refl _)
  refine (decode_spec b _ _ (by omega) hb).use ?_
  simp only [go_sem, w64, Int.cast_ofNat_Int, Int.reduceEq, Int.reduceAdd, Int.reduceSub, Int.reduceMul, Int.natCast_zero, Int.natCast_inj, Int.ofNat_lt, Int.ofNat_le, Int.natCast_nonneg, Int.toNat_natCast, Nat.mul_one, Nat.reduceLT, Int.reduceLT, Int.reduceLE, Int.reduceToNat, Nat.reduceAdd, Nat.reduceSub, Nat.reduceMul, Nat.reduceLeDiff, decide_true, decide_false, Bool.not_true, Bool.not_false, Bool.false_eq_true, if_true, if_false, true_and, and_true, and_self, reduceCtorEq, Bool.and_true, Bool.true_and, Bool.and_self, upd_upd]
  refine (rdecode_spec b _ _ (by omega) hb).use ?_
  simp only [go_sem, w64, Int.cast_ofNat_Int, Int.reduceEq, Int.reduceAdd, Int.reduceSub, Int.reduceMul, Int.natCast_zero, Int.natCast_inj, Int.ofNat_lt, Int.ofNat_le, Int.natCast_nonneg, Int.toNat_natCast, Nat.mul_one, Nat.reduceLT, Int.reduceLT, Int.reduceLE, Int.reduceToNat, Nat.reduceAdd, Nat.reduceSub, Nat.reduceMul, Nat.reduceLeDiff, decide_true, decide_false, Bool.not_true, Bool.not_false, Bool.false_eq_true, if_true, if_false, true_and, and_true, and_self, reduceCtorEq, Bool.and_true, Bool.true_and, Bool.and_self, upd_upd]
  refine loop_range d9_0 ((dec b).1.length) (fun k s => s.set 7 (.int .i64 k)) (fun k h' => (True) ∧ h' = h) ?_ ⟨trivial, rfl⟩ ?_
  · (simp only [go_sem, w64, Int.cast_ofNat_Int, Int.reduceEq, Int.reduceAdd, Int.reduceSub, Int.reduceMul, Int.natCast_zero, Int.natCast_inj, Int.ofNat_lt, Int.ofNat_le, Int.natCast_nonneg, Int.toNat_natCast, Nat.mul_one, Nat.reduceLT, Int.reduceLT, Int.reduceLE, Int.reduceToNat, Nat.reduceAdd, Nat.reduceSub, Nat.reduceMul, Nat.reduceLeDiff, decide_true, decide_false, Bool.not_true, Bool.not_false, Bool.false_eq_true, if_true, if_false, true_and, and_true, and_self, reduceCtorEq, Bool.and_true, Bool.true_and, Bool.and_self, upd_upd, d9_0] <;> rfl)
  rintro N k h' hk ⟨_, rfl⟩ hN
  simp only [go_sem, w64, Int.cast_ofNat_Int, Int.reduceEq, Int.reduceAdd, Int.reduceSub, Int.reduceMul, Int.natCast_zero, Int.natCast_inj, Int.ofNat_lt, Int.ofNat_le, Int.natCast_nonneg, Int.toNat_natCast, Nat.mul_one, Nat.reduceLT, Int.reduceLT, Int.reduceLE, Int.reduceToNat, Nat.reduceAdd, Nat.reduceSub, Nat.reduceMul, Nat.reduceLeDiff, decide_true, decide_false, Bool.not_true, Bool.not_false, Bool.false_eq_true, if_true, if_false, true_and, and_true, and_self, reduceCtorEq, Bool.and_true, Bool.true_and, Bool.and_self, upd_upd, d9_0]
  have hadd := wadd1 (k := k) (by omega)
  by_cases hlt : k < (dec b).1.length
  · have := hm _ (List.getElem_mem hlt)
    simp only [go_sem, w64, Int.cast_ofNat_Int, Int.reduceEq, Int.reduceAdd, Int.reduceSub, Int.reduceMul, Int.natCast_zero, Int.natCast_inj, Int.ofNat_lt, Int.ofNat_le, Int.natCast_nonneg, Int.toNat_natCast, Nat.mul_one, Nat.reduceLT, Int.reduceLT, Int.reduceLE, Int.reduceToNat, Nat.reduceAdd, Nat.reduceSub, Nat.reduceMul, Nat.reduceLeDiff, decide_true, decide_false, Bool.not_true, Bool.not_false, Bool.false_eq_true, if_true, if_false, true_and, and_true, and_self, reduceCtorEq, Bool.and_true, Bool.true_and, Bool.and_self, upd_upd, hlt, rd_all St.len hlt]
    refine (of28_spec _ _).use ?_
    simp only [go_sem, w64, Int.cast_ofNat_Int, Int.reduceEq, Int.reduceAdd, Int.reduceSub, Int.reduceMul, Int.natCast_zero, Int.natCast_inj, Int.ofNat_lt, Int.ofNat_le, Int.natCast_nonneg, Int.toNat_natCast, Nat.mul_one, Nat.reduceLT, Int.reduceLT, Int.reduceLE, Int.reduceToNat, Nat.reduceAdd, Nat.reduceSub, Nat.reduceMul, Nat.reduceLeDiff, decide_true, decide_false, Bool.not_true, Bool.not_false, Bool.false_eq_true, if_true, if_false, true_and, and_true, and_self, reduceCtorEq, Bool.and_true, Bool.true_and, Bool.and_self, upd_upd, hlt, rd_all St.len hlt]
    refine (same28_spec _ _ _ (by omega)).use ?_
    simp only [go_sem, w64, Int.cast_ofNat_Int, Int.reduceEq, Int.reduceAdd, Int.reduceSub, Int.reduceMul, Int.natCast_zero, Int.natCast_inj, Int.ofNat_lt, Int.ofNat_le, Int.natCast_nonneg, Int.toNat_natCast, Nat.mul_one, Nat.reduceLT, Int.reduceLT, Int.reduceLE, Int.reduceToNat, Nat.reduceAdd, Nat.reduceSub, Nat.reduceMul, Nat.reduceLeDiff, decide_true, decide_false, Bool.not_true, Bool.not_false, Bool.false_eq_true, if_true, if_false, true_and, and_true, and_self, reduceCtorEq, Bool.and_true, Bool.true_and, Bool.and_self, upd_upd, hadd]
    (refine hN _ _ hlt ?_ ⟨?_, rfl⟩; (simp only [go_sem, w64, Int.cast_ofNat_Int, Int.reduceEq, Int.reduceAdd, Int.reduceSub, Int.reduceMul, Int.natCast_zero, Int.natCast_inj, Int.ofNat_lt, Int.ofNat_le, Int.natCast_nonneg, Int.toNat_natCast, Nat.mul_one, Nat.reduceLT, Int.reduceLT, Int.reduceLE, Int.reduceToNat, Nat.reduceAdd, Nat.reduceSub, Nat.reduceMul, Nat.reduceLeDiff, decide_true, decide_false, Bool.not_true, Bool.not_false, Bool.false_eq_true, if_true, if_false, true_and, and_true, and_self, reduceCtorEq, Bool.and_true, Bool.true_and, Bool.and_self, upd_upd, d9_0]))
    trivial
  · (simp only [go_sem, w64, Int.cast_ofNat_Int, Int.reduceEq, Int.reduceAdd, Int.reduceSub, Int.reduceMul, Int.natCast_zero, Int.natCast_inj, Int.ofNat_lt, Int.ofNat_le, Int.natCast_nonneg, Int.toNat_natCast, Nat.mul_one, Nat.reduceLT, Int.reduceLT, Int.reduceLE, Int.reduceToNat, Nat.reduceAdd, Nat.reduceSub, Nat.reduceMul, Nat.reduceLeDiff, decide_true, decide_false, Bool.not_true, Bool.not_false, Bool.false_eq_true, if_true, if_false, true_and, and_true, and_self, reduceCtorEq, Bool.and_true, Bool.true_and, Bool.and_self, upd_upd, hlt]; refine frz_id ?_; simp only [go_sem, w64, Int.cast_ofNat_Int, Int.reduceEq, Int.reduceAdd, Int.reduceSub, Int.reduceMul, Int.natCast_zero, Int.natCast_inj, Int.ofNat_lt, Int.ofNat_le, Int.natCast_nonneg, Int.toNat_natCast, Nat.mul_one, Nat.reduceLT, Int.reduceLT, Int.reduceLE, Int.reduceToNat, Nat.reduceAdd, Nat.reduceSub, Nat.reduceMul, Nat.reduceLeDiff, decide_true, decide_false, Bool.not_true, Bool.not_false, Bool.false_eq_true, if_true, if_false, true_and, and_true, and_self, reduceCtorEq, Bool.and_true, Bool.true_and, Bool.and_self, upd_upd])
    by_cases g0 : b.length < 2
    · simp only [go_sem, w64, Int.cast_ofNat_Int, Int.reduceEq, Int.reduceAdd, Int.reduceSub, Int.reduceMul, Int.natCast_zero, Int.natCast_inj, Int.ofNat_lt, Int.ofNat_le, Int.natCast_nonneg, Int.toNat_natCast, Nat.mul_one, Nat.reduceLT, Int.reduceLT, Int.reduceLE, Int.reduceToNat, Nat.reduceAdd, Nat.reduceSub, Nat.reduceMul, Nat.reduceLeDiff, decide_true, decide_false, Bool.not_true, Bool.not_false, Bool.false_eq_true, if_true, if_false, true_and, and_true, and_self, reduceCtorEq, Bool.and_true, Bool.true_and, Bool.and_self, upd_upd, show ((b.length : Int) < 2) by omega]
      have hw : whole b = false := by simp [whole]; omega
      refine (sentry_spec b _ _ (by omega) hb).use ?_
      rw [entRes, hw]
      simp only [go_sem, w64, Int.cast_ofNat_Int, Int.reduceEq, Int.reduceAdd, Int.reduceSub, Int.reduceMul, Int.natCast_zero, Int.natCast_inj, Int.ofNat_lt, Int.ofNat_le, Int.natCast_nonneg, Int.toNat_natCast, Nat.mul_one, Nat.reduceLT, Int.reduceLT, Int.reduceLE, Int.reduceToNat, Nat.reduceAdd, Nat.reduceSub, Nat.reduceMul, Nat.reduceLeDiff, decide_true, decide_false, Bool.not_true, Bool.not_false, Bool.false_eq_true, if_true, if_false, true_and, and_true, and_self, reduceCtorEq, Bool.and_true, Bool.true_and, Bool.and_self, upd_upd]
      intro p hp
      simp only [go_sem, w64, Int.cast_ofNat_Int, Int.reduceEq, Int.reduceAdd, Int.reduceSub, Int.reduceMul, Int.natCast_zero, Int.natCast_inj, Int.ofNat_lt, Int.ofNat_le, Int.natCast_nonneg, Int.toNat_natCast, Nat.mul_one, Nat.reduceLT, Int.reduceLT, Int.reduceLE, Int.reduceToNat, Nat.reduceAdd, Nat.reduceSub, Nat.reduceMul, Nat.reduceLeDiff, decide_true, decide_false, Bool.not_true, Bool.not_false, Bool.false_eq_true, if_true, if_false, true_and, and_true, and_self, reduceCtorEq, Bool.and_true, Bool.true_and, Bool.and_self, upd_upd, St.len, St.sca, del_same, del_none hp]
      refine (known28_spec _).use ?_
      simp only [go_sem, w64, Int.cast_ofNat_Int, Int.reduceEq, Int.reduceAdd, Int.reduceSub, Int.reduceMul, Int.natCast_zero, Int.natCast_inj, Int.ofNat_lt, Int.ofNat_le, Int.natCast_nonneg, Int.toNat_natCast, Nat.mul_one, Nat.reduceLT, Int.reduceLT, Int.reduceLE, Int.reduceToNat, Nat.reduceAdd, Nat.reduceSub, Nat.reduceMul, Nat.reduceLeDiff, decide_true, decide_false, Bool.not_true, Bool.not_false, Bool.false_eq_true, if_true, if_false, true_and, and_true, and_self, reduceCtorEq, Bool.and_true, Bool.true_and, Bool.and_self, upd_upd]
      (refine hQ _ _ _ _ _ (by first | exact .inr rfl | exact .inl rfl) rfl (by first | exact FzH.refl _ | exact FzH.sub (by (repeat' (first | exact Sub.refl _ | assumption | (refine Sub.upd ?_ (by first | assumption | (simp only [*]; done) | exact Sub.isNone (by assumption) (by assumption) | exact Sub.isNone (by assumption) (by simp only [*]))))))) (FzL.refl _ _ _) ?_; try (simp only [go_sem, w64, Int.cast_ofNat_Int, Int.reduceEq, Int.reduceAdd, Int.reduceSub, Int.reduceMul, Int.natCast_zero, Int.natCast_inj, Int.ofNat_lt, Int.ofNat_le, Int.natCast_nonneg, Int.toNat_natCast, Nat.mul_one, Nat.reduceLT, Int.reduceLT, Int.reduceLE, Int.reduceToNat, Nat.reduceAdd, Nat.reduceSub, Nat.reduceMul, Nat.reduceLeDiff, decide_true, decide_false, Bool.not_true, Bool.not_false, Bool.false_eq_true, if_true, if_false, true_and, and_true, and_self, reduceCtorEq, Bool.and_true, Bool.true_and, Bool.and_self, upd_upd]))
    · have l0 : ∀ h : AHeap, aload h (.rp (cat b1 b)) = some (.int .u8 (b.getD 0 0)) := fun h => by
        have := rdB (h := h) (l := b) (k := 0) (by omega)
        rw [List.drop_zero] at this; rw [this]; simp [show 0 < b.length by omega]
      have l1 : ∀ h : AHeap, aload h (.rp ((cat b1 b).drop 1)) = some (.int .u8 (b.getD 1 0)) := fun h => by
        have := rdB (h := h) (l := b) (k := 1) (by omega)
        rw [this]; simp [show 1 < b.length by omega]
      have y0 : byte (b.getD 0 0) := by
        rw [List.getD_eq_getElem?_getD, List.getElem?_eq_getElem (by omega)]; exact hb _ (List.getElem_mem _)
      have y1 : byte (b.getD 1 0) := by
        rw [List.getD_eq_getElem?_getD, List.getElem?_eq_getElem (by omega)]; exact hb _ (List.getElem_mem _)
      have hent : (entN b : Int) = b.getD 1 0 := by unfold entN; unfold byte at y1; omega
      have hwh : whole b = decide (entN b + 2 ≤ b.length) := by unfold whole entN; simp; omega
      rw [← hent] at l1 y1
      have l0h := l0 emp
      have l1h := l1 emp
      rw [aload_rp] at l0h l1h
      unfold byte at y0 y1
      have w1 : IntKind.i64.wrap (entN b : Int) = entN b := w64 (by omega) (by omega)
      have w2 : IntKind.i64.wrap ((b.length : Int) - 2) = (b.length : Int) - 2 := w64 (by omega) (by omega)
      have w3 : IntKind.i64.wrap (2 + (entN b : Int)) = ((2 + entN b : Nat) : Int) := by rw [w64 (by omega) (by omega)]; rfl
      have c1 : ¬ ((b.length : Int) < 2) := by omega
      have c2 : (0 : Int) < (b.length : Int) := by omega
      have c3 : (1 : Int) < (b.length : Int) := by omega
      simp only [go_sem, w64, Int.cast_ofNat_Int, Int.reduceEq, Int.reduceAdd, Int.reduceSub, Int.reduceMul, Int.natCast_zero, Int.natCast_inj, Int.ofNat_lt, Int.ofNat_le, Int.natCast_nonneg, Int.toNat_natCast, Nat.mul_one, Nat.reduceLT, Int.reduceLT, Int.reduceLE, Int.reduceToNat, Nat.reduceAdd, Nat.reduceSub, Nat.reduceMul, Nat.reduceLeDiff, decide_true, decide_false, Bool.not_true, Bool.not_false, Bool.false_eq_true, if_true, if_false, true_and, and_true, and_self, reduceCtorEq, Bool.and_true, Bool.true_and, Bool.and_self, upd_upd, c1, c2, c3, w2, l0, l1, l0h, l1h, w1]
      by_cases g1 : entN b + 2 ≤ b.length
      · have hw : whole b = true := by rw [hwh]; exact decide_eq_true g1
        simp only [go_sem, w64, Int.cast_ofNat_Int, Int.reduceEq, Int.reduceAdd, Int.reduceSub, Int.reduceMul, Int.natCast_zero, Int.natCast_inj, Int.ofNat_lt, Int.ofNat_le, Int.natCast_nonneg, Int.toNat_natCast, Nat.mul_one, Nat.reduceLT, Int.reduceLT, Int.reduceLE, Int.reduceToNat, Nat.reduceAdd, Nat.reduceSub, Nat.reduceMul, Nat.reduceLeDiff, decide_true, decide_false, Bool.not_true, Bool.not_false, Bool.false_eq_true, if_true, if_false, true_and, and_true, and_self, reduceCtorEq, Bool.and_true, Bool.true_and, Bool.and_self, upd_upd, show ¬ ((b.length : Int) - 2 < (entN b : Int)) by omega]
        have s2 := sl_lo (l := b) (ex := ex) (k1 := .i64) b1_len (show 2 + entN b ≤ b.length by omega)
        refine (sentry_spec b _ _ (by omega) hb).use ?_
        rw [entRes, hw, if_pos rfl]
        have hdr : (b.drop (2 + entN b)).length ≤ 2000 := by simp; omega
        by_cases g2 : 12 < b.getD 0 0
        · rw [if_pos g2]
          simp only [go_sem, w64, Int.cast_ofNat_Int, Int.reduceEq, Int.reduceAdd, Int.reduceSub, Int.reduceMul, Int.natCast_zero, Int.natCast_inj, Int.ofNat_lt, Int.ofNat_le, Int.natCast_nonneg, Int.toNat_natCast, Nat.mul_one, Nat.reduceLT, Int.reduceLT, Int.reduceLE, Int.reduceToNat, Nat.reduceAdd, Nat.reduceSub, Nat.reduceMul, Nat.reduceLeDiff, decide_true, decide_false, Bool.not_true, Bool.not_false, Bool.false_eq_true, if_true, if_false, true_and, and_true, and_self, reduceCtorEq, Bool.and_true, Bool.true_and, Bool.and_self, upd_upd]
          intro p hp
          simp only [go_sem, w64, Int.cast_ofNat_Int, Int.reduceEq, Int.reduceAdd, Int.reduceSub, Int.reduceMul, Int.natCast_zero, Int.natCast_inj, Int.ofNat_lt, Int.ofNat_le, Int.natCast_nonneg, Int.toNat_natCast, Nat.mul_one, Nat.reduceLT, Int.reduceLT, Int.reduceLE, Int.reduceToNat, Nat.reduceAdd, Nat.reduceSub, Nat.reduceMul, Nat.reduceLeDiff, decide_true, decide_false, Bool.not_true, Bool.not_false, Bool.false_eq_true, if_true, if_false, true_and, and_true, and_self, reduceCtorEq, Bool.and_true, Bool.true_and, Bool.and_self, upd_upd, St.len, St.sca, del_same, del_none hp, c2, c3, l0, l1, l0h, l1h, w1, w3, g2]
          refine (known28_spec _).use ?_
          simp only [go_sem, w64, Int.cast_ofNat_Int, Int.reduceEq, Int.reduceAdd, Int.reduceSub, Int.reduceMul, Int.natCast_zero, Int.natCast_inj, Int.ofNat_lt, Int.ofNat_le, Int.natCast_nonneg, Int.toNat_natCast, Nat.mul_one, Nat.reduceLT, Int.reduceLT, Int.reduceLE, Int.reduceToNat, Nat.reduceAdd, Nat.reduceSub, Nat.reduceMul, Nat.reduceLeDiff, decide_true, decide_false, Bool.not_true, Bool.not_false, Bool.false_eq_true, if_true, if_false, true_and, and_true, and_self, reduceCtorEq, Bool.and_true, Bool.true_and, Bool.and_self, upd_upd, Option.map_some, Option.map_none, s2]
          refine (same2_spec _ _ _ _ _ (by omega)).use ?_
          simp only [go_sem, w64, Int.cast_ofNat_Int, Int.reduceEq, Int.reduceAdd, Int.reduceSub, Int.reduceMul, Int.natCast_zero, Int.natCast_inj, Int.ofNat_lt, Int.ofNat_le, Int.natCast_nonneg, Int.toNat_natCast, Nat.mul_one, Nat.reduceLT, Int.reduceLT, Int.reduceLE, Int.reduceToNat, Nat.reduceAdd, Nat.reduceSub, Nat.reduceMul, Nat.reduceLeDiff, decide_true, decide_false, Bool.not_true, Bool.not_false, Bool.false_eq_true, if_true, if_false, true_and, and_true, and_self, reduceCtorEq, Bool.and_true, Bool.true_and, Bool.and_self, upd_upd]
          (refine hQ _ _ _ _ _ (by first | exact .inr rfl | exact .inl rfl) rfl (by first | exact FzH.refl _ | exact FzH.sub (by (repeat' (first | exact Sub.refl _ | assumption | (refine Sub.upd ?_ (by first | assumption | (simp only [*]; done) | exact Sub.isNone (by assumption) (by assumption) | exact Sub.isNone (by assumption) (by simp only [*]))))))) (FzL.refl _ _ _) ?_; try (simp only [go_sem, w64, Int.cast_ofNat_Int, Int.reduceEq, Int.reduceAdd, Int.reduceSub, Int.reduceMul, Int.natCast_zero, Int.natCast_inj, Int.ofNat_lt, Int.ofNat_le, Int.natCast_nonneg, Int.toNat_natCast, Nat.mul_one, Nat.reduceLT, Int.reduceLT, Int.reduceLE, Int.reduceToNat, Nat.reduceAdd, Nat.reduceSub, Nat.reduceMul, Nat.reduceLeDiff, decide_true, decide_false, Bool.not_true, Bool.not_false, Bool.false_eq_true, if_true, if_false, true_and, and_true, and_self, reduceCtorEq, Bool.and_true, Bool.true_and, Bool.and_self, upd_upd]))
        · rw [if_neg g2]
          by_cases g3 : b.getD 1 0 < 10
          · rw [if_pos g3]
            simp only [go_sem, w64, Int.cast_ofNat_Int, Int.reduceEq, Int.reduceAdd, Int.reduceSub, Int.reduceMul, Int.natCast_zero, Int.natCast_inj, Int.ofNat_lt, Int.ofNat_le, Int.natCast_nonneg, Int.toNat_natCast, Nat.mul_one, Nat.reduceLT, Int.reduceLT, Int.reduceLE, Int.reduceToNat, Nat.reduceAdd, Nat.reduceSub, Nat.reduceMul, Nat.reduceLeDiff, decide_true, decide_false, Bool.not_true, Bool.not_false, Bool.false_eq_true, if_true, if_false, true_and, and_true, and_self, reduceCtorEq, Bool.and_true, Bool.true_and, Bool.and_self, upd_upd]
            intro p hp
            simp only [go_sem, w64, Int.cast_ofNat_Int, Int.reduceEq, Int.reduceAdd, Int.reduceSub, Int.reduceMul, Int.natCast_zero, Int.natCast_inj, Int.ofNat_lt, Int.ofNat_le, Int.natCast_nonneg, Int.toNat_natCast, Nat.mul_one, Nat.reduceLT, Int.reduceLT, Int.reduceLE, Int.reduceToNat, Nat.reduceAdd, Nat.reduceSub, Nat.reduceMul, Nat.reduceLeDiff, decide_true, decide_false, Bool.not_true, Bool.not_false, Bool.false_eq_true, if_true, if_false, true_and, and_true, and_self, reduceCtorEq, Bool.and_true, Bool.true_and, Bool.and_self, upd_upd, St.len, St.sca, del_same, del_none hp, c2, c3, l0, l1, l0h, l1h, w1, w3, g2, show (entN b : Int) < 10 by omega]
            refine (known28_spec _).use ?_
            simp only [go_sem, w64, Int.cast_ofNat_Int, Int.reduceEq, Int.reduceAdd, Int.reduceSub, Int.reduceMul, Int.natCast_zero, Int.natCast_inj, Int.ofNat_lt, Int.ofNat_le, Int.natCast_nonneg, Int.toNat_natCast, Nat.mul_one, Nat.reduceLT, Int.reduceLT, Int.reduceLE, Int.reduceToNat, Nat.reduceAdd, Nat.reduceSub, Nat.reduceMul, Nat.reduceLeDiff, decide_true, decide_false, Bool.not_true, Bool.not_false, Bool.false_eq_true, if_true, if_false, true_and, and_true, and_self, reduceCtorEq, Bool.and_true, Bool.true_and, Bool.and_self, upd_upd, Option.map_some, Option.map_none, s2]
            refine (same2_spec _ _ _ _ _ (by omega)).use ?_
            simp only [go_sem, w64, Int.cast_ofNat_Int, Int.reduceEq, Int.reduceAdd, Int.reduceSub, Int.reduceMul, Int.natCast_zero, Int.natCast_inj, Int.ofNat_lt, Int.ofNat_le, Int.natCast_nonneg, Int.toNat_natCast, Nat.mul_one, Nat.reduceLT, Int.reduceLT, Int.reduceLE, Int.reduceToNat, Nat.reduceAdd, Nat.reduceSub, Nat.reduceMul, Nat.reduceLeDiff, decide_true, decide_false, Bool.not_true, Bool.not_false, Bool.false_eq_true, if_true, if_false, true_and, and_true, and_self, reduceCtorEq, Bool.and_true, Bool.true_and, Bool.and_self, upd_upd]
            (refine hQ _ _ _ _ _ (by first | exact .inr rfl | exact .inl rfl) rfl (by first | exact FzH.refl _ | exact FzH.sub (by (repeat' (first | exact Sub.refl _ | assumption | (refine Sub.upd ?_ (by first | assumption | (simp only [*]; done) | exact Sub.isNone (by assumption) (by assumption) | exact Sub.isNone (by assumption) (by simp only [*]))))))) (FzL.refl _ _ _) ?_; try (simp only [go_sem, w64, Int.cast_ofNat_Int, Int.reduceEq, Int.reduceAdd, Int.reduceSub, Int.reduceMul, Int.natCast_zero, Int.natCast_inj, Int.ofNat_lt, Int.ofNat_le, Int.natCast_nonneg, Int.toNat_natCast, Nat.mul_one, Nat.reduceLT, Int.reduceLT, Int.reduceLE, Int.reduceToNat, Nat.reduceAdd, Nat.reduceSub, Nat.reduceMul, Nat.reduceLeDiff, decide_true, decide_false, Bool.not_true, Bool.not_false, Bool.false_eq_true, if_true, if_false, true_and, and_true, and_self, reduceCtorEq, Bool.and_true, Bool.true_and, Bool.and_self, upd_upd]))
          · rw [if_neg g3]
            have e1 := congrArg Prod.fst (dec_step hw g2 g3)
            dsimp only at e1
            have hl0 : 0 < (dec b).1.length := by rw [e1]; simp
            have h0v : (dec b).1[0] = stepOf (b.getD 0 0) ((b.drop 2).take (entN b)) := by simp [e1]
            have q6 : 6 ≤ (cat St.av (dec b).1).length := by rw [cat_len St.len]; omega
            have t6 : (cat St.av (dec b).1).take 6 = (stepOf (b.getD 0 0) ((b.drop 2).take (entN b))).av := by
              rw [e1, cat_cons, List.take_append_of_le_length (by rw [St.len]; omega), St.take6]
            have hl0p : (0 : Int) < ((dec b).1.length : Int) := by omega
            simp only [go_sem, w64, Int.cast_ofNat_Int, Int.reduceEq, Int.reduceAdd, Int.reduceSub, Int.reduceMul, Int.natCast_zero, Int.natCast_inj, Int.ofNat_lt, Int.ofNat_le, Int.natCast_nonneg, Int.toNat_natCast, Nat.mul_one, Nat.reduceLT, Int.reduceLT, Int.reduceLE, Int.reduceToNat, Nat.reduceAdd, Nat.reduceSub, Nat.reduceMul, Nat.reduceLeDiff, decide_true, decide_false, Bool.not_true, Bool.not_false, Bool.false_eq_true, if_true, if_false, true_and, and_true, and_self, reduceCtorEq, Bool.and_true, Bool.true_and, Bool.and_self, upd_upd]
            intro p hp
            simp only [go_sem, w64, Int.cast_ofNat_Int, Int.reduceEq, Int.reduceAdd, Int.reduceSub, Int.reduceMul, Int.natCast_zero, Int.natCast_inj, Int.ofNat_lt, Int.ofNat_le, Int.natCast_nonneg, Int.toNat_natCast, Nat.mul_one, Nat.reduceLT, Int.reduceLT, Int.reduceLE, Int.reduceToNat, Nat.reduceAdd, Nat.reduceSub, Nat.reduceMul, Nat.reduceLeDiff, decide_true, decide_false, Bool.not_true, Bool.not_false, Bool.false_eq_true, if_true, if_false, true_and, and_true, and_self, reduceCtorEq, Bool.and_true, Bool.true_and, Bool.and_self, upd_upd, St.len, St.sca, del_same, del_none hp, c2, c3, l0, l1, l0h, l1h, w1, w3, g2, show ¬ (entN b : Int) < 10 by omega]
            refine (known28_spec _).use ?_
            simp only [go_sem, w64, Int.cast_ofNat_Int, Int.reduceEq, Int.reduceAdd, Int.reduceSub, Int.reduceMul, Int.natCast_zero, Int.natCast_inj, Int.ofNat_lt, Int.ofNat_le, Int.natCast_nonneg, Int.toNat_natCast, Nat.mul_one, Nat.reduceLT, Int.reduceLT, Int.reduceLE, Int.reduceToNat, Nat.reduceAdd, Nat.reduceSub, Nat.reduceMul, Nat.reduceLeDiff, decide_true, decide_false, Bool.not_true, Bool.not_false, Bool.false_eq_true, if_true, if_false, true_and, and_true, and_self, reduceCtorEq, Bool.and_true, Bool.true_and, Bool.and_self, upd_upd, Option.map_some, Option.map_none, s2]
            refine (same2_spec _ _ _ _ _ (by omega)).use ?_
            simp only [go_sem, w64, Int.cast_ofNat_Int, Int.reduceEq, Int.reduceAdd, Int.reduceSub, Int.reduceMul, Int.natCast_zero, Int.natCast_inj, Int.ofNat_lt, Int.ofNat_le, Int.natCast_nonneg, Int.toNat_natCast, Nat.mul_one, Nat.reduceLT, Int.reduceLT, Int.reduceLE, Int.reduceToNat, Nat.reduceAdd, Nat.reduceSub, Nat.reduceMul, Nat.reduceLeDiff, decide_true, decide_false, Bool.not_true, Bool.not_false, Bool.false_eq_true, if_true, if_false, true_and, and_true, and_self, reduceCtorEq, Bool.and_true, Bool.true_and, Bool.and_self, upd_upd, St.len, St.take6, q6, t6, hl0p, Option.map_some]
            refine (of28_spec _ _).use ?_
            simp only [go_sem, w64, Int.cast_ofNat_Int, Int.reduceEq, Int.reduceAdd, Int.reduceSub, Int.reduceMul, Int.natCast_zero, Int.natCast_inj, Int.ofNat_lt, Int.ofNat_le, Int.natCast_nonneg, Int.toNat_natCast, Nat.mul_one, Nat.reduceLT, Int.reduceLT, Int.reduceLE, Int.reduceToNat, Nat.reduceAdd, Nat.reduceSub, Nat.reduceMul, Nat.reduceLeDiff, decide_true, decide_false, Bool.not_true, Bool.not_false, Bool.false_eq_true, if_true, if_false, true_and, and_true, and_self, reduceCtorEq, Bool.and_true, Bool.true_and, Bool.and_self, upd_upd, q6, t6, hl0p, Option.map_some]
            refine (same28_spec _ _ _ ?_).use ?_
            · simp [stepOf]; omega
            simp only [go_sem, w64, Int.cast_ofNat_Int, Int.reduceEq, Int.reduceAdd, Int.reduceSub, Int.reduceMul, Int.natCast_zero, Int.natCast_inj, Int.ofNat_lt, Int.ofNat_le, Int.natCast_nonneg, Int.toNat_natCast, Nat.mul_one, Nat.reduceLT, Int.reduceLT, Int.reduceLE, Int.reduceToNat, Nat.reduceAdd, Nat.reduceSub, Nat.reduceMul, Nat.reduceLeDiff, decide_true, decide_false, Bool.not_true, Bool.not_false, Bool.false_eq_true, if_true, if_false, true_and, and_true, and_self, reduceCtorEq, Bool.and_true, Bool.true_and, Bool.and_self, upd_upd]
            (refine hQ _ _ _ _ _ (by first | exact .inr rfl | exact .inl rfl) rfl (by first | exact FzH.refl _ | exact FzH.sub (by (repeat' (first | exact Sub.refl _ | assumption | (refine Sub.upd ?_ (by first | assumption | (simp only [*]; done) | exact Sub.isNone (by assumption) (by assumption) | exact Sub.isNone (by assumption) (by simp only [*]))))))) (FzL.refl _ _ _) ?_; try (simp only [go_sem, w64, Int.cast_ofNat_Int, Int.reduceEq, Int.reduceAdd, Int.reduceSub, Int.reduceMul, Int.natCast_zero, Int.natCast_inj, Int.ofNat_lt, Int.ofNat_le, Int.natCast_nonneg, Int.toNat_natCast, Nat.mul_one, Nat.reduceLT, Int.reduceLT, Int.reduceLE, Int.reduceToNat, Nat.reduceAdd, Nat.reduceSub, Nat.reduceMul, Nat.reduceLeDiff, decide_true, decide_false, Bool.not_true, Bool.not_false, Bool.false_eq_true, if_true, if_false, true_and, and_true, and_self, reduceCtorEq, Bool.and_true, Bool.true_and, Bool.and_self, upd_upd]))
      · simp only [go_sem, w64, Int.cast_ofNat_Int, Int.reduceEq, Int.reduceAdd, Int.reduceSub, Int.reduceMul, Int.natCast_zero, Int.natCast_inj, Int.ofNat_lt, Int.ofNat_le, Int.natCast_nonneg, Int.toNat_natCast, Nat.mul_one, Nat.reduceLT, Int.reduceLT, Int.reduceLE, Int.reduceToNat, Nat.reduceAdd, Nat.reduceSub, Nat.reduceMul, Nat.reduceLeDiff, decide_true, decide_false, Bool.not_true, Bool.not_false, Bool.false_eq_true, if_true, if_false, true_and, and_true, and_self, reduceCtorEq, Bool.and_true, Bool.true_and, Bool.and_self, upd_upd, show ((b.length : Int) - 2 < (entN b : Int)) by omega]
        have hw : whole b = false := by rw [hwh]; exact decide_eq_false g1
        refine (sentry_spec b _ _ (by omega) hb).use ?_
        rw [entRes, hw]
        simp only [go_sem, w64, Int.cast_ofNat_Int, Int.reduceEq, Int.reduceAdd, Int.reduceSub, Int.reduceMul, Int.natCast_zero, Int.natCast_inj, Int.ofNat_lt, Int.ofNat_le, Int.natCast_nonneg, Int.toNat_natCast, Nat.mul_one, Nat.reduceLT, Int.reduceLT, Int.reduceLE, Int.reduceToNat, Nat.reduceAdd, Nat.reduceSub, Nat.reduceMul, Nat.reduceLeDiff, decide_true, decide_false, Bool.not_true, Bool.not_false, Bool.false_eq_true, if_true, if_false, true_and, and_true, and_self, reduceCtorEq, Bool.and_true, Bool.true_and, Bool.and_self, upd_upd]
        intro p hp
        simp only [go_sem, w64, Int.cast_ofNat_Int, Int.reduceEq, Int.reduceAdd, Int.reduceSub, Int.reduceMul, Int.natCast_zero, Int.natCast_inj, Int.ofNat_lt, Int.ofNat_le, Int.natCast_nonneg, Int.toNat_natCast, Nat.mul_one, Nat.reduceLT, Int.reduceLT, Int.reduceLE, Int.reduceToNat, Nat.reduceAdd, Nat.reduceSub, Nat.reduceMul, Nat.reduceLeDiff, decide_true, decide_false, Bool.not_true, Bool.not_false, Bool.false_eq_true, if_true, if_false, true_and, and_true, and_self, reduceCtorEq, Bool.and_true, Bool.true_and, Bool.and_self, upd_upd, St.len, St.sca, del_same, del_none hp]
        refine (known28_spec _).use ?_
        simp only [go_sem, w64, Int.cast_ofNat_Int, Int.reduceEq, Int.reduceAdd, Int.reduceSub, Int.reduceMul, Int.natCast_zero, Int.natCast_inj, Int.ofNat_lt, Int.ofNat_le, Int.natCast_nonneg, Int.toNat_natCast, Nat.mul_one, Nat.reduceLT, Int.reduceLT, Int.reduceLE, Int.reduceToNat, Nat.reduceAdd, Nat.reduceSub, Nat.reduceMul, Nat.reduceLeDiff, decide_true, decide_false, Bool.not_true, Bool.not_false, Bool.false_eq_true, if_true, if_false, true_and, and_true, and_self, reduceCtorEq, Bool.and_true, Bool.true_and, Bool.and_self, upd_upd]
        (refine hQ _ _ _ _ _ (by first | exact .inr rfl | exact .inl rfl) rfl (by first | exact FzH.refl _ | exact FzH.sub (by (repeat' (first | exact Sub.refl _ | assumption | (refine Sub.upd ?_ (by first | assumption | (simp only [*]; done) | exact Sub.isNone (by assumption) (by assumption) | exact Sub.isNone (by assumption) (by simp only [*]))))))) (FzL.refl _ _ _) ?_; try (simp only [go_sem, w64, Int.cast_ofNat_Int, Int.reduceEq, Int.reduceAdd, Int.reduceSub, Int.reduceMul, Int.natCast_zero, Int.natCast_inj, Int.ofNat_lt, Int.ofNat_le, Int.natCast_nonneg, Int.toNat_natCast, Nat.mul_one, Nat.reduceLT, Int.reduceLT, Int.reduceLE, Int.reduceToNat, Nat.reduceAdd, Nat.reduceSub, Nat.reduceMul, Nat.reduceLeDiff, decide_true, decide_false, Bool.not_true, Bool.not_false, Bool.false_eq_true, if_true, if_false, true_and, and_true, and_self, reduceCtorEq, Bool.and_true, Bool.true_and, Bool.and_self, upd_upd]))

theorem E.loop_rh {body : PostA → List AV → AHeap → Prop} {Q : PostA} {s : List AV} {h : AHeap} (ds : List Nat) (n : Nat) (f : Nat → List AV → List AV) (I : Nat → AHeap → Prop)
    (h0 : kill ds s = f 0 (kill ds s)) (i0 : I 0 h) (round : ∀ (N : List AV → AHeap → Prop) k h', k ≤ n → I k h' → (∀ s' h'' h2, k < n → kill ds s' = f (k + 1) (kill ds s) → FzH h'' h2 → I (k + 1) h2 → N s' h'') → body (thenA N Q) (f k (kill ds s)) h') : loopA body Q s h :=
  loop_sh ds (fun k => n - k) f (fun k h => k ≤ n ∧ I k h) 0 h0 ⟨Nat.zero_le _, i0⟩ fun N k h' hi hN => round N k h' hi.1 hi.2 fun s' h'' h2 hk e z i => hN (k + 1) s' h'' h2 (by omega) e z ⟨hk, i⟩

theorem St.to_len (s : St) : s.to.xs.length ≤ 300 := by simp [St.to]; omega

set_option maxHeartbeats 4000000 in
theorem ljoins_spec (l : List St) (ex : Bool) (b0 : List Int) (eb : Bool) (h : AHeap) (hn : l.length ≤ 9223372036854775807) (hl : ∀ s ∈ l, bytesOK s.xs) (hb0 : bytesOK b0) : PureA Try.prog 10 [.ro (cat St.av l) l.length ex, .ro (cat b1 b0) b0.length eb] h (.bool true) := by
  have e0 : (if (2000 : Int) < (b0.length : Int) then (2000 : Int) else (b0.length : Int)) = ((min 2000 b0.length : Nat) : Int) := by
    split <;> omega
  have e1 := sl_hi (l := b0) (ex := eb) (k1 := .i64) b1_len (Nat.min_le_right 2000 b0.length)
  (refine PureA.enter (ac := c10) (rs := r10) Try.func10 rfl (by decide) c10_ok r10_ok ?_; intro Q hQ; simp only [go_sem, w64, Int.cast_ofNat_Int, Int.reduceEq, Int.reduceAdd, Int.reduceSub, Int.reduceMul, Int.natCast_zero, Int.natCast_inj, Int.ofNat_lt, Int.ofNat_le, Int.natCast_nonneg, Int.toNat_natCast, Nat.mul_one, Nat.reduceLT, Int.reduceLT, Int.reduceLE, Int.reduceToNat, Nat.reduceAdd, Nat.reduceSub, Nat.reduceMul, Nat.reduceLeDiff, decide_true, decide_false, Bool.not_true, Bool.not_false, Bool.false_eq_true, if_true, if_false, true_and, and_true, and_self, reduceCtorEq, Bool.and_true, Bool.true_and, Bool.and_self, upd_upd, c10, Try.ntmps10, e0, Option.map_none, Option.map_some, e1])
  have hb : bytesOK (b0.take (min 2000 b0.length)) := fun x hx => hb0 x (List.mem_of_mem_take hx)
  have hbl : (b0.take (min 2000 b0.length)).length ≤ 2000 := by simp; omega
  generalize b0.take (min 2000 b0.length) = b at hb hbl ⊢
  generalize (eb && min 2000 b0.length == b0.length) = eb
  obtain ⟨bd1, bd2, bd3⟩ := dec_bd _ b (Nat.le_refl _)
  have hm := dec_mem _ b (Nat.le_refl _)
  refine loop_st d10_0 (fun x : Nat × AV => l.length - x.1) (fun x s => (s.set 5 x.2).set 6 (.int .i64 x.1))
    (fun x h' => x.1 ≤ l.length ∧ x.1 ≤ 20 ∧ Grow h 6 x.2 (cat St.av (((l.take x.1).map St.to).filter St.fits)) (((l.take x.1).map St.to).filter St.fits).length h') (0, .nils) ?_ ⟨Nat.zero_le _, Nat.zero_le _, Grow.nil⟩ ?_
  · (simp only [go_sem, w64, Int.cast_ofNat_Int, Int.reduceEq, Int.reduceAdd, Int.reduceSub, Int.reduceMul, Int.natCast_zero, Int.natCast_inj, Int.ofNat_lt, Int.ofNat_le, Int.natCast_nonneg, Int.toNat_natCast, Nat.mul_one, Nat.reduceLT, Int.reduceLT, Int.reduceLE, Int.reduceToNat, Nat.reduceAdd, Nat.reduceSub, Nat.reduceMul, Nat.reduceLeDiff, decide_true, decide_false, Bool.not_true, Bool.not_false, Bool.false_eq_true, if_true, if_false, true_and, and_true, and_self, reduceCtorEq, Bool.and_true, Bool.true_and, Bool.and_self, upd_upd, d10_0] <;> rfl)
  rintro N ⟨k, vx⟩ h2 ⟨hk, hk20, gx⟩ hN
  dsimp only at hk hk20 gx hN
  simp only [go_sem, w64, Int.cast_ofNat_Int, Int.reduceEq, Int.reduceAdd, Int.reduceSub, Int.reduceMul, Int.natCast_zero, Int.natCast_inj, Int.ofNat_lt, Int.ofNat_le, Int.natCast_nonneg, Int.toNat_natCast, Nat.mul_one, Nat.reduceLT, Int.reduceLT, Int.reduceLE, Int.reduceToNat, Nat.reduceAdd, Nat.reduceSub, Nat.reduceMul, Nat.reduceLeDiff, decide_true, decide_false, Bool.not_true, Bool.not_false, Bool.false_eq_true, if_true, if_false, true_and, and_true, and_self, reduceCtorEq, Bool.and_true, Bool.true_and, Bool.and_self, upd_upd, d10_0]
  have hadd := wadd1 (k := k) (by omega)
  have hlen : (((l.take k).map St.to).filter St.fits).length ≤ k := by
    refine Nat.le_trans (List.length_filter_le _ _) ?_
    simp; omega
  rcases (show (k < l.length ∧ k < 20) ∨ (¬ k < l.length) ∨ (k < l.length ∧ ¬ k < 20) by omega) with ⟨hlt, h20⟩ | hx
  · have h20' : (k : Int) < 20 := by omega
    have hsn : ((l.take (k + 1)).map St.to).filter St.fits = ((l.take k).map St.to).filter St.fits ++ [l[k].to].filter St.fits := by rw [List.take_succ_eq_append_getElem hlt, List.map_append, List.filter_append]; rfl
    simp only [go_sem, w64, Int.cast_ofNat_Int, Int.reduceEq, Int.reduceAdd, Int.reduceSub, Int.reduceMul, Int.natCast_zero, Int.natCast_inj, Int.ofNat_lt, Int.ofNat_le, Int.natCast_nonneg, Int.toNat_natCast, Nat.mul_one, Nat.reduceLT, Int.reduceLT, Int.reduceLE, Int.reduceToNat, Nat.reduceAdd, Nat.reduceSub, Nat.reduceMul, Nat.reduceLeDiff, decide_true, decide_false, Bool.not_true, Bool.not_false, Bool.false_eq_true, if_true, if_false, true_and, and_true, and_self, reduceCtorEq, Bool.and_true, Bool.true_and, Bool.and_self, upd_upd, hlt, h20', rd_all St.len hlt]
    refine (to28_spec _ _).use ?_
    simp only [go_sem, w64, Int.cast_ofNat_Int, Int.reduceEq, Int.reduceAdd, Int.reduceSub, Int.reduceMul, Int.natCast_zero, Int.natCast_inj, Int.ofNat_lt, Int.ofNat_le, Int.natCast_nonneg, Int.toNat_natCast, Nat.mul_one, Nat.reduceLT, Int.reduceLT, Int.reduceLE, Int.reduceToNat, Nat.reduceAdd, Nat.reduceSub, Nat.reduceMul, Nat.reduceLeDiff, decide_true, decide_false, Bool.not_true, Bool.not_false, Bool.false_eq_true, if_true, if_false, true_and, and_true, and_self, reduceCtorEq, Bool.and_true, Bool.true_and, Bool.and_self, upd_upd]
    intro p hp
    simp only [go_sem, w64, Int.cast_ofNat_Int, Int.reduceEq, Int.reduceAdd, Int.reduceSub, Int.reduceMul, Int.natCast_zero, Int.natCast_inj, Int.ofNat_lt, Int.ofNat_le, Int.natCast_nonneg, Int.toNat_natCast, Nat.mul_one, Nat.reduceLT, Int.reduceLT, Int.reduceLE, Int.reduceToNat, Nat.reduceAdd, Nat.reduceSub, Nat.reduceMul, Nat.reduceLeDiff, decide_true, decide_false, Bool.not_true, Bool.not_false, Bool.false_eq_true, if_true, if_false, true_and, and_true, and_self, reduceCtorEq, Bool.and_true, Bool.true_and, Bool.and_self, upd_upd, St.len, St.sca, del_same, del_none hp, St.take6]
    refine (sfits_spec _ _).use ?_
    cases hf : l[k].to.fits
    · simp only [go_sem, w64, Int.cast_ofNat_Int, Int.reduceEq, Int.reduceAdd, Int.reduceSub, Int.reduceMul, Int.natCast_zero, Int.natCast_inj, Int.ofNat_lt, Int.ofNat_le, Int.natCast_nonneg, Int.toNat_natCast, Nat.mul_one, Nat.reduceLT, Int.reduceLT, Int.reduceLE, Int.reduceToNat, Nat.reduceAdd, Nat.reduceSub, Nat.reduceMul, Nat.reduceLeDiff, decide_true, decide_false, Bool.not_true, Bool.not_false, Bool.false_eq_true, if_true, if_false, true_and, and_true, and_self, reduceCtorEq, Bool.and_true, Bool.true_and, Bool.and_self, upd_upd, hadd]
      refine hN (k + 1, vx) _ _ (by dsimp only; omega) ?_ ⟨hlt, h20, by dsimp only; rw [hsn]; simpa [hf] using gx⟩
      simp only [go_sem, w64, Int.cast_ofNat_Int, Int.reduceEq, Int.reduceAdd, Int.reduceSub, Int.reduceMul, Int.natCast_zero, Int.natCast_inj, Int.ofNat_lt, Int.ofNat_le, Int.natCast_nonneg, Int.toNat_natCast, Nat.mul_one, Nat.reduceLT, Int.reduceLT, Int.reduceLE, Int.reduceToNat, Nat.reduceAdd, Nat.reduceSub, Nat.reduceMul, Nat.reduceLeDiff, decide_true, decide_false, Bool.not_true, Bool.not_false, Bool.false_eq_true, if_true, if_false, true_and, and_true, and_self, reduceCtorEq, Bool.and_true, Bool.true_and, Bool.and_self, upd_upd, d10_0]
    · simp only [go_sem, w64, Int.cast_ofNat_Int, Int.reduceEq, Int.reduceAdd, Int.reduceSub, Int.reduceMul, Int.natCast_zero, Int.natCast_inj, Int.ofNat_lt, Int.ofNat_le, Int.natCast_nonneg, Int.toNat_natCast, Nat.mul_one, Nat.reduceLT, Int.reduceLT, Int.reduceLE, Int.reduceToNat, Nat.reduceAdd, Nat.reduceSub, Nat.reduceMul, Nat.reduceLeDiff, decide_true, decide_false, Bool.not_true, Bool.not_false, Bool.false_eq_true, if_true, if_false, true_and, and_true, and_self, reduceCtorEq, Bool.and_true, Bool.true_and, Bool.and_self, upd_upd, St.len, St.take6, St.sca]
      refine gx.add1 rfl rfl (by omega) fun v' h4 g4 => ?_
      simp only [go_sem, w64, Int.cast_ofNat_Int, Int.reduceEq, Int.reduceAdd, Int.reduceSub, Int.reduceMul, Int.natCast_zero, Int.natCast_inj, Int.ofNat_lt, Int.ofNat_le, Int.natCast_nonneg, Int.toNat_natCast, Nat.mul_one, Nat.reduceLT, Int.reduceLT, Int.reduceLE, Int.reduceToNat, Nat.reduceAdd, Nat.reduceSub, Nat.reduceMul, Nat.reduceLeDiff, decide_true, decide_false, Bool.not_true, Bool.not_false, Bool.false_eq_true, if_true, if_false, true_and, and_true, and_self, reduceCtorEq, Bool.and_true, Bool.true_and, Bool.and_self, upd_upd, hadd]
      refine hN (k + 1, v') _ _ (by dsimp only; omega) ?_ ⟨hlt, h20, by dsimp only; rw [hsn]; simpa [hf, cat_append, cat] using g4⟩
      simp only [go_sem, w64, Int.cast_ofNat_Int, Int.reduceEq, Int.reduceAdd, Int.reduceSub, Int.reduceMul, Int.natCast_zero, Int.natCast_inj, Int.ofNat_lt, Int.ofNat_le, Int.natCast_nonneg, Int.toNat_natCast, Nat.mul_one, Nat.reduceLT, Int.reduceLT, Int.reduceLE, Int.reduceToNat, Nat.reduceAdd, Nat.reduceSub, Nat.reduceMul, Nat.reduceLeDiff, decide_true, decide_false, Bool.not_true, Bool.not_false, Bool.false_eq_true, if_true, if_false, true_and, and_true, and_self, reduceCtorEq, Bool.and_true, Bool.true_and, Bool.and_self, upd_upd, d10_0]
  · have hXb : ∀ s ∈ ((l.take k).map St.to).filter St.fits, bytesOK s.xs := fun s hs => to_bytes (k := k) hl s (List.mem_filter.1 hs).1
    have hXf : (((l.take k).map St.to).filter St.fits).all St.fits = true := by rw [List.all_eq_true]; exact fun s hs => (List.mem_filter.1 hs).2
    generalize hX : ((l.take k).map St.to).filter St.fits = X at *
    have hd := dec_lines hXf b
    have hll := linesL_len hXf
    rcases hx with hlt | ⟨hlt, h20⟩ <;> first | simp only [go_sem, w64, Int.cast_ofNat_Int, Int.reduceEq, Int.reduceAdd, Int.reduceSub, Int.reduceMul, Int.natCast_zero, Int.natCast_inj, Int.ofNat_lt, Int.ofNat_le, Int.natCast_nonneg, Int.toNat_natCast, Nat.mul_one, Nat.reduceLT, Int.reduceLT, Int.reduceLE, Int.reduceToNat, Nat.reduceAdd, Nat.reduceSub, Nat.reduceMul, Nat.reduceLeDiff, decide_true, decide_false, Bool.not_true, Bool.not_false, Bool.false_eq_true, if_true, if_false, true_and, and_true, and_self, reduceCtorEq, Bool.and_true, Bool.true_and, Bool.and_self, upd_upd, hlt, show ¬ (k : Int) < 20 by omega] | simp only [go_sem, w64, Int.cast_ofNat_Int, Int.reduceEq, Int.reduceAdd, Int.reduceSub, Int.reduceMul, Int.natCast_zero, Int.natCast_inj, Int.ofNat_lt, Int.ofNat_le, Int.natCast_nonneg, Int.toNat_natCast, Nat.mul_one, Nat.reduceLT, Int.reduceLT, Int.reduceLE, Int.reduceToNat, Nat.reduceAdd, Nat.reduceSub, Nat.reduceMul, Nat.reduceLeDiff, decide_true, decide_false, Bool.not_true, Bool.not_false, Bool.false_eq_true, if_true, if_false, true_and, and_true, and_self, reduceCtorEq, Bool.and_true, Bool.true_and, Bool.and_self, upd_upd, hlt]
    all_goals
      refine frz_at 5 rfl gx.fzH gx.fz ?_
      simp only [go_sem, w64, Int.cast_ofNat_Int, Int.reduceEq, Int.reduceAdd, Int.reduceSub, Int.reduceMul, Int.natCast_zero, Int.natCast_inj, Int.ofNat_lt, Int.ofNat_le, Int.natCast_nonneg, Int.toNat_natCast, Nat.mul_one, Nat.reduceLT, Int.reduceLT, Int.reduceLE, Int.reduceToNat, Nat.reduceAdd, Nat.reduceSub, Nat.reduceMul, Nat.reduceLeDiff, decide_true, decide_false, Bool.not_true, Bool.not_false, Bool.false_eq_true, if_true, if_false, true_and, and_true, and_self, reduceCtorEq, Bool.and_true, Bool.true_and, Bool.and_self, upd_upd]
      refine (encode_spec X _ _ (by omega)).use ?_
      rw [if_pos hXf]
      simp only [go_sem, w64, Int.cast_ofNat_Int, Int.reduceEq, Int.reduceAdd, Int.reduceSub, Int.reduceMul, Int.natCast_zero, Int.natCast_inj, Int.ofNat_lt, Int.ofNat_le, Int.natCast_nonneg, Int.toNat_natCast, Nat.mul_one, Nat.reduceLT, Int.reduceLT, Int.reduceLE, Int.reduceToNat, Nat.reduceAdd, Nat.reduceSub, Nat.reduceMul, Nat.reduceLeDiff, decide_true, decide_false, Bool.not_true, Bool.not_false, Bool.false_eq_true, if_true, if_false, true_and, and_true, and_self, reduceCtorEq, Bool.and_true, Bool.true_and, Bool.and_self, upd_upd]
      refine (Grow.lit (by simp) (by simp)).addN (by rw [cat_len b1_len]) (cat_sca b1_sca _) (by simp; omega) fun v1 h3 g1 => ?_
      simp only [go_sem, w64, Int.cast_ofNat_Int, Int.reduceEq, Int.reduceAdd, Int.reduceSub, Int.reduceMul, Int.natCast_zero, Int.natCast_inj, Int.ofNat_lt, Int.ofNat_le, Int.natCast_nonneg, Int.toNat_natCast, Nat.mul_one, Nat.reduceLT, Int.reduceLT, Int.reduceLE, Int.reduceToNat, Nat.reduceAdd, Nat.reduceSub, Nat.reduceMul, Nat.reduceLeDiff, decide_true, decide_false, Bool.not_true, Bool.not_false, Bool.false_eq_true, if_true, if_false, true_and, and_true, and_self, reduceCtorEq, Bool.and_true, Bool.true_and, Bool.and_self, upd_upd]
      refine g1.addN (by rw [cat_len b1_len]) (cat_sca b1_sca _) (by simp; omega) fun v2 h4 g2 => ?_
      rw [List.nil_append, ← cat_append, Nat.zero_add, ← List.length_append] at g2
      simp only [go_sem, w64, Int.cast_ofNat_Int, Int.reduceEq, Int.reduceAdd, Int.reduceSub, Int.reduceMul, Int.natCast_zero, Int.natCast_inj, Int.ofNat_lt, Int.ofNat_le, Int.natCast_nonneg, Int.toNat_natCast, Nat.mul_one, Nat.reduceLT, Int.reduceLT, Int.reduceLE, Int.reduceToNat, Nat.reduceAdd, Nat.reduceSub, Nat.reduceMul, Nat.reduceLeDiff, decide_true, decide_false, Bool.not_true, Bool.not_false, Bool.false_eq_true, if_true, if_false, true_and, and_true, and_self, reduceCtorEq, Bool.and_true, Bool.true_and, Bool.and_self, upd_upd]
      refine (decode_spec (linesL X ++ b) false h (by rw [List.length_append]; omega) (fun x hx => ?_)).useH g2.fzH (.cons g2.fz .nil) ?_
      · rcases List.mem_append.1 hx with hx | hx
        · exact lines_bytes hXb x hx
        · exact hb x hx
      rw [hd]
      simp only [go_sem, w64, Int.cast_ofNat_Int, Int.reduceEq, Int.reduceAdd, Int.reduceSub, Int.reduceMul, Int.natCast_zero, Int.natCast_inj, Int.ofNat_lt, Int.ofNat_le, Int.natCast_nonneg, Int.toNat_natCast, Nat.mul_one, Nat.reduceLT, Int.reduceLT, Int.reduceLE, Int.reduceToNat, Nat.reduceAdd, Nat.reduceSub, Nat.reduceMul, Nat.reduceLeDiff, decide_true, decide_false, Bool.not_true, Bool.not_false, Bool.false_eq_true, if_true, if_false, true_and, and_true, and_self, reduceCtorEq, Bool.and_true, Bool.true_and, Bool.and_self, upd_upd]
      refine (decode_spec b _ _ (by omega) hb).use ?_
      have hsum : IntKind.i64.wrap ((X.length : Int) + ((dec b).1.length : Int)) = ((X.length + (dec b).1.length : Nat) : Int) := by rw [w64 (by omega) (by omega)]; rfl
      simp only [go_sem, w64, Int.cast_ofNat_Int, Int.reduceEq, Int.reduceAdd, Int.reduceSub, Int.reduceMul, Int.natCast_zero, Int.natCast_inj, Int.ofNat_lt, Int.ofNat_le, Int.natCast_nonneg, Int.toNat_natCast, Nat.mul_one, Nat.reduceLT, Int.reduceLT, Int.reduceLE, Int.reduceToNat, Nat.reduceAdd, Nat.reduceSub, Nat.reduceMul, Nat.reduceLeDiff, decide_true, decide_false, Bool.not_true, Bool.not_false, Bool.false_eq_true, if_true, if_false, true_and, and_true, and_self, reduceCtorEq, Bool.and_true, Bool.true_and, Bool.and_self, upd_upd, hsum, List.length_append]
      refine E.loop_rh d10_1 (X ++ (dec b).1).length (fun k s => s.set 14 (.int .i64 k)) (fun k h' => h' = h) ?_ rfl ?_
      · (simp only [go_sem, w64, Int.cast_ofNat_Int, Int.reduceEq, Int.reduceAdd, Int.reduceSub, Int.reduceMul, Int.natCast_zero, Int.natCast_inj, Int.ofNat_lt, Int.ofNat_le, Int.natCast_nonneg, Int.toNat_natCast, Nat.mul_one, Nat.reduceLT, Int.reduceLT, Int.reduceLE, Int.reduceToNat, Nat.reduceAdd, Nat.reduceSub, Nat.reduceMul, Nat.reduceLeDiff, decide_true, decide_false, Bool.not_true, Bool.not_false, Bool.false_eq_true, if_true, if_false, true_and, and_true, and_self, reduceCtorEq, Bool.and_true, Bool.true_and, Bool.and_self, upd_upd, d10_1] <;> rfl)
      rintro N k h' hk rfl hN
      simp only [go_sem, w64, Int.cast_ofNat_Int, Int.reduceEq, Int.reduceAdd, Int.reduceSub, Int.reduceMul, Int.natCast_zero, Int.natCast_inj, Int.ofNat_lt, Int.ofNat_le, Int.natCast_nonneg, Int.toNat_natCast, Nat.mul_one, Nat.reduceLT, Int.reduceLT, Int.reduceLE, Int.reduceToNat, Nat.reduceAdd, Nat.reduceSub, Nat.reduceMul, Nat.reduceLeDiff, decide_true, decide_false, Bool.not_true, Bool.not_false, Bool.false_eq_true, if_true, if_false, true_and, and_true, and_self, reduceCtorEq, Bool.and_true, Bool.true_and, Bool.and_self, upd_upd, d10_1]
      have hla : (X ++ (dec b).1).length = X.length + (dec b).1.length := List.length_append
      have hadd := wadd1 (k := k) (by omega)
      by_cases hlt : k < (X ++ (dec b).1).length
      · rw [hla] at hlt
        have hlt' : k < (X ++ (dec b).1).length := by omega
        simp only [go_sem, w64, Int.cast_ofNat_Int, Int.reduceEq, Int.reduceAdd, Int.reduceSub, Int.reduceMul, Int.natCast_zero, Int.natCast_inj, Int.ofNat_lt, Int.ofNat_le, Int.natCast_nonneg, Int.toNat_natCast, Nat.mul_one, Nat.reduceLT, Int.reduceLT, Int.reduceLE, Int.reduceToNat, Nat.reduceAdd, Nat.reduceSub, Nat.reduceMul, Nat.reduceLeDiff, decide_true, decide_false, Bool.not_true, Bool.not_false, Bool.false_eq_true, if_true, if_false, true_and, and_true, and_self, reduceCtorEq, Bool.and_true, Bool.true_and, Bool.and_self, upd_upd, hlt]
        intro q hq
        by_cases hkx : k < X.length
        · have hge : (X ++ (dec b).1)[k] = X[k] := List.getElem_append_left hkx
          have hxl : X[k].xs.length ≤ 245 := St.fits_len (List.all_eq_true.1 hXf _ (List.getElem_mem hkx))
          simp only [go_sem, w64, Int.cast_ofNat_Int, Int.reduceEq, Int.reduceAdd, Int.reduceSub, Int.reduceMul, Int.natCast_zero, Int.natCast_inj, Int.ofNat_lt, Int.ofNat_le, Int.natCast_nonneg, Int.toNat_natCast, Nat.mul_one, Nat.reduceLT, Int.reduceLT, Int.reduceLE, Int.reduceToNat, Nat.reduceAdd, Nat.reduceSub, Nat.reduceMul, Nat.reduceLeDiff, decide_true, decide_false, Bool.not_true, Bool.not_false, Bool.false_eq_true, if_true, if_false, true_and, and_true, and_self, reduceCtorEq, Bool.and_true, Bool.true_and, Bool.and_self, upd_upd, hkx, hlt, rd_all St.len hkx, rd_all St.len hlt', hge, St.len, St.sca, St.take6]
          refine (of28_spec _ _).use ?_
          simp only [go_sem, w64, Int.cast_ofNat_Int, Int.reduceEq, Int.reduceAdd, Int.reduceSub, Int.reduceMul, Int.natCast_zero, Int.natCast_inj, Int.ofNat_lt, Int.ofNat_le, Int.natCast_nonneg, Int.toNat_natCast, Nat.mul_one, Nat.reduceLT, Int.reduceLT, Int.reduceLE, Int.reduceToNat, Nat.reduceAdd, Nat.reduceSub, Nat.reduceMul, Nat.reduceLeDiff, decide_true, decide_false, Bool.not_true, Bool.not_false, Bool.false_eq_true, if_true, if_false, true_and, and_true, and_self, reduceCtorEq, Bool.and_true, Bool.true_and, Bool.and_self, upd_upd, St.len, St.take6]
          refine (of28_spec _ _).use ?_
          simp only [go_sem, w64, Int.cast_ofNat_Int, Int.reduceEq, Int.reduceAdd, Int.reduceSub, Int.reduceMul, Int.natCast_zero, Int.natCast_inj, Int.ofNat_lt, Int.ofNat_le, Int.natCast_nonneg, Int.toNat_natCast, Nat.mul_one, Nat.reduceLT, Int.reduceLT, Int.reduceLE, Int.reduceToNat, Nat.reduceAdd, Nat.reduceSub, Nat.reduceMul, Nat.reduceLeDiff, decide_true, decide_false, Bool.not_true, Bool.not_false, Bool.false_eq_true, if_true, if_false, true_and, and_true, and_self, reduceCtorEq, Bool.and_true, Bool.true_and, Bool.and_self, upd_upd]
          refine (same28_spec _ _ _ (by omega)).use ?_
          simp only [go_sem, w64, Int.cast_ofNat_Int, Int.reduceEq, Int.reduceAdd, Int.reduceSub, Int.reduceMul, Int.natCast_zero, Int.natCast_inj, Int.ofNat_lt, Int.ofNat_le, Int.natCast_nonneg, Int.toNat_natCast, Nat.mul_one, Nat.reduceLT, Int.reduceLT, Int.reduceLE, Int.reduceToNat, Nat.reduceAdd, Nat.reduceSub, Nat.reduceMul, Nat.reduceLeDiff, decide_true, decide_false, Bool.not_true, Bool.not_false, Bool.false_eq_true, if_true, if_false, true_and, and_true, and_self, reduceCtorEq, Bool.and_true, Bool.true_and, Bool.and_self, upd_upd, hadd]
          refine hN _ _ _ hlt' ?_ (FzH.sub (upd_new hq)) rfl
          simp only [go_sem, w64, Int.cast_ofNat_Int, Int.reduceEq, Int.reduceAdd, Int.reduceSub, Int.reduceMul, Int.natCast_zero, Int.natCast_inj, Int.ofNat_lt, Int.ofNat_le, Int.natCast_nonneg, Int.toNat_natCast, Nat.mul_one, Nat.reduceLT, Int.reduceLT, Int.reduceLE, Int.reduceToNat, Nat.reduceAdd, Nat.reduceSub, Nat.reduceMul, Nat.reduceLeDiff, decide_true, decide_false, Bool.not_true, Bool.not_false, Bool.false_eq_true, if_true, if_false, true_and, and_true, and_self, reduceCtorEq, Bool.and_true, Bool.true_and, Bool.and_self, upd_upd, d10_1]
        · have hkd : k - X.length < (dec b).1.length := by omega
          have hge : (X ++ (dec b).1)[k] = (dec b).1[k - X.length] := List.getElem_append_right (by omega)
          have hxl := hm _ (List.getElem_mem hkd)
          have hw : IntKind.i64.wrap ((k : Int) - (X.length : Int)) = ((k - X.length : Nat) : Int) := by rw [w64 (by omega) (by omega)]; omega
          simp only [go_sem, w64, Int.cast_ofNat_Int, Int.reduceEq, Int.reduceAdd, Int.reduceSub, Int.reduceMul, Int.natCast_zero, Int.natCast_inj, Int.ofNat_lt, Int.ofNat_le, Int.natCast_nonneg, Int.toNat_natCast, Nat.mul_one, Nat.reduceLT, Int.reduceLT, Int.reduceLE, Int.reduceToNat, Nat.reduceAdd, Nat.reduceSub, Nat.reduceMul, Nat.reduceLeDiff, decide_true, decide_false, Bool.not_true, Bool.not_false, Bool.false_eq_true, if_true, if_false, true_and, and_true, and_self, reduceCtorEq, Bool.and_true, Bool.true_and, Bool.and_self, upd_upd, hkx, hlt, hw, hkd, rd_all St.len hkd, rd_all St.len hlt', hge, St.len, St.sca, St.take6]
          refine (of28_spec _ _).use ?_
          simp only [go_sem, w64, Int.cast_ofNat_Int, Int.reduceEq, Int.reduceAdd, Int.reduceSub, Int.reduceMul, Int.natCast_zero, Int.natCast_inj, Int.ofNat_lt, Int.ofNat_le, Int.natCast_nonneg, Int.toNat_natCast, Nat.mul_one, Nat.reduceLT, Int.reduceLT, Int.reduceLE, Int.reduceToNat, Nat.reduceAdd, Nat.reduceSub, Nat.reduceMul, Nat.reduceLeDiff, decide_true, decide_false, Bool.not_true, Bool.not_false, Bool.false_eq_true, if_true, if_false, true_and, and_true, and_self, reduceCtorEq, Bool.and_true, Bool.true_and, Bool.and_self, upd_upd, St.len, St.take6]
          refine (of28_spec _ _).use ?_
          simp only [go_sem, w64, Int.cast_ofNat_Int, Int.reduceEq, Int.reduceAdd, Int.reduceSub, Int.reduceMul, Int.natCast_zero, Int.natCast_inj, Int.ofNat_lt, Int.ofNat_le, Int.natCast_nonneg, Int.toNat_natCast, Nat.mul_one, Nat.reduceLT, Int.reduceLT, Int.reduceLE, Int.reduceToNat, Nat.reduceAdd, Nat.reduceSub, Nat.reduceMul, Nat.reduceLeDiff, decide_true, decide_false, Bool.not_true, Bool.not_false, Bool.false_eq_true, if_true, if_false, true_and, and_true, and_self, reduceCtorEq, Bool.and_true, Bool.true_and, Bool.and_self, upd_upd]
          refine (same28_spec _ _ _ (by omega)).use ?_
          simp only [go_sem, w64, Int.cast_ofNat_Int, Int.reduceEq, Int.reduceAdd, Int.reduceSub, Int.reduceMul, Int.natCast_zero, Int.natCast_inj, Int.ofNat_lt, Int.ofNat_le, Int.natCast_nonneg, Int.toNat_natCast, Nat.mul_one, Nat.reduceLT, Int.reduceLT, Int.reduceLE, Int.reduceToNat, Nat.reduceAdd, Nat.reduceSub, Nat.reduceMul, Nat.reduceLeDiff, decide_true, decide_false, Bool.not_true, Bool.not_false, Bool.false_eq_true, if_true, if_false, true_and, and_true, and_self, reduceCtorEq, Bool.and_true, Bool.true_and, Bool.and_self, upd_upd, hadd]
          refine hN _ _ _ hlt' ?_ (FzH.sub (upd_new hq)) rfl
          simp only [go_sem, w64, Int.cast_ofNat_Int, Int.reduceEq, Int.reduceAdd, Int.reduceSub, Int.reduceMul, Int.natCast_zero, Int.natCast_inj, Int.ofNat_lt, Int.ofNat_le, Int.natCast_nonneg, Int.toNat_natCast, Nat.mul_one, Nat.reduceLT, Int.reduceLT, Int.reduceLE, Int.reduceToNat, Nat.reduceAdd, Nat.reduceSub, Nat.reduceMul, Nat.reduceLeDiff, decide_true, decide_false, Bool.not_true, Bool.not_false, Bool.false_eq_true, if_true, if_false, true_and, and_true, and_self, reduceCtorEq, Bool.and_true, Bool.true_and, Bool.and_self, upd_upd, d10_1]
      · rw [hla] at hlt
        (simp only [go_sem, w64, Int.cast_ofNat_Int, Int.reduceEq, Int.reduceAdd, Int.reduceSub, Int.reduceMul, Int.natCast_zero, Int.natCast_inj, Int.ofNat_lt, Int.ofNat_le, Int.natCast_nonneg, Int.toNat_natCast, Nat.mul_one, Nat.reduceLT, Int.reduceLT, Int.reduceLE, Int.reduceToNat, Nat.reduceAdd, Nat.reduceSub, Nat.reduceMul, Nat.reduceLeDiff, decide_true, decide_false, Bool.not_true, Bool.not_false, Bool.false_eq_true, if_true, if_false, true_and, and_true, and_self, reduceCtorEq, Bool.and_true, Bool.true_and, Bool.and_self, upd_upd, hlt]; refine frz_id ?_; simp only [go_sem, w64, Int.cast_ofNat_Int, Int.reduceEq, Int.reduceAdd, Int.reduceSub, Int.reduceMul, Int.natCast_zero, Int.natCast_inj, Int.ofNat_lt, Int.ofNat_le, Int.natCast_nonneg, Int.toNat_natCast, Nat.mul_one, Nat.reduceLT, Int.reduceLT, Int.reduceLE, Int.reduceToNat, Nat.reduceAdd, Nat.reduceSub, Nat.reduceMul, Nat.reduceLeDiff, decide_true, decide_false, Bool.not_true, Bool.not_false, Bool.false_eq_true, if_true, if_false, true_and, and_true, and_self, reduceCtorEq, Bool.and_true, Bool.true_and, Bool.and_self, upd_upd])
        refine (known28_spec _).use ?_
        simp only [go_sem, w64, Int.cast_ofNat_Int, Int.reduceEq, Int.reduceAdd, Int.reduceSub, Int.reduceMul, Int.natCast_zero, Int.natCast_inj, Int.ofNat_lt, Int.ofNat_le, Int.natCast_nonneg, Int.toNat_natCast, Nat.mul_one, Nat.reduceLT, Int.reduceLT, Int.reduceLE, Int.reduceToNat, Nat.reduceAdd, Nat.reduceSub, Nat.reduceMul, Nat.reduceLeDiff, decide_true, decide_false, Bool.not_true, Bool.not_false, Bool.false_eq_true, if_true, if_false, true_and, and_true, and_self, reduceCtorEq, Bool.and_true, Bool.true_and, Bool.and_self, upd_upd]
        (refine hQ _ _ _ _ _ (by first | exact .inr rfl | exact .inl rfl) rfl (by first | exact FzH.refl _ | exact FzH.sub (by (repeat' (first | exact Sub.refl _ | assumption | (refine Sub.upd ?_ (by first | assumption | (simp only [*]; done) | exact Sub.isNone (by assumption) (by assumption) | exact Sub.isNone (by assumption) (by simp only [*]))))))) (FzL.refl _ _ _) ?_; try (simp only [go_sem, w64, Int.cast_ofNat_Int, Int.reduceEq, Int.reduceAdd, Int.reduceSub, Int.reduceMul, Int.natCast_zero, Int.natCast_inj, Int.ofNat_lt, Int.ofNat_le, Int.natCast_nonneg, Int.toNat_natCast, Nat.mul_one, Nat.reduceLT, Int.reduceLT, Int.reduceLE, Int.reduceToNat, Nat.reduceAdd, Nat.reduceSub, Nat.reduceMul, Nat.reduceLeDiff, decide_true, decide_false, Bool.not_true, Bool.not_false, Bool.false_eq_true, if_true, if_false, true_and, and_true, and_self, reduceCtorEq, Bool.and_true, Bool.true_and, Bool.and_self, upd_upd]))

end Go.Proofs.Ytlbpmgkfekeaeaa
