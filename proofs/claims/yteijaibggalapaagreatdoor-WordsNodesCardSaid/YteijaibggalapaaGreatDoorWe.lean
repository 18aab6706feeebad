/-
  WordsNodes on abstract values.
-/
import Derived.Test.YteijaibggalapaaGreatDoorWd
namespace Go.Proofs.YteijaibggalapaaGreatDoor
open Go E
set_option linter.unusedVariables false
set_option linter.unusedSimpArgs false
set_option maxRecDepth 100000

theorem fz_all {h h' : AHeap} {id n c tot : Nat} {cs : List AV} (h1 : h id = some (.cells cs tot)) (h2 : h' id = none) : Fz h h' (.sl id 0 n c) (.ro cs n false) :=
  Fz.sl cs.length h1 h2 (by omega) (by rw [List.drop_zero, List.take_length]; exact FzL.refl _ _ _) (fun e => by cases e)

theorem del2 {h : AHeap} {p q : Nat} {A B : AObj} (hp : h p = none) (hq : h q = none) : del (del (upd (upd h p A) q B) p) q = h := by
  funext x
  unfold del upd
  by_cases h1 : x = q
  · rw [if_pos h1, h1, hq]
  · rw [if_neg h1]
    by_cases h2 : x = p
    · rw [if_pos h2, h2, hp]
    · rw [if_neg h2, if_neg h1, if_neg h2]

/-- A list's length: at most 39. -/
def m40 (x : Int) : Int := IntKind.i64.wrap ((IntKind.u64.wrap x).tmod 40)
theorem m40_nat (x : Int) : ∃ k : Nat, m40 x = (k : Int) ∧ k < 40 := by
  have h1 : IntKind.u64.wrap x = x % 18446744073709551616 := by simp [IntKind.wrap, IntKind.signed, IntKind.bits]
  have h2 : (IntKind.u64.wrap x).tmod 40 = (x % 18446744073709551616) % 40 := by rw [h1, Int.tmod_eq_emod_of_nonneg (Int.emod_nonneg _ (by decide))]
  refine ⟨((x % 18446744073709551616) % 40).toNat, ?_, by omega⟩
  unfold m40
  rw [h2, w64 (by omega) (by omega)]; omega

theorem aw_make {P : Program} {K : AV → AHeap → Prop} {s : List AV} {h : AHeap} {bytes : Nat} {z : List AV} {l c : AArg} (n m : Nat) (hl : ev s l = .int .i64 n) (hc : ev s c = .int .i64 m) (hnm : n ≤ m) (hb : bytes * m ≤ 70368744177664) (hm : m < 9223372036854775807)
    (k : ∀ id, h id = none → K (.sl id 0 n m) (upd h id (.cells (zrep z m) (m * z.length)))) : aw P (.makeSlice bytes z l c) K s h := ⟨n, m, hl, hc, hnm, hb, hm, k⟩

/-- What the law's view is of. -/
def viewV (i r : Bool) (a b c : Int) (x y z : AV) : AV := .agg [.bool i, .bool r, .int .i64 a, .int .i64 0, .int .i64 b, .int .i64 c, x, y, .nils, z, .nils]

set_option maxHeartbeats 2000000 in
theorem view_spec (i r : Bool) (a b c d e f : Int) (h : AHeap) : ∃ k1 k2 k3 : Nat, m40 d = k1 ∧ m40 e = k2 ∧ m40 f = k3 ∧ ∃ c1 c2 c3 : List AV,
    PureA Tryz.prog 7 [.bool i, .bool r, .agg (cat i1 [a, b, c, d, e, f])] h (.tup [viewV i r a b c (.ro c1 k1 false) (.ro c2 k2 false) (.ro c3 k3 false), .agg (cat i1 [a, b, c, m40 d, m40 e, m40 f])]) := by
  obtain ⟨k1, h1, b1⟩ := m40_nat d
  obtain ⟨k2, h2, b2⟩ := m40_nat e
  obtain ⟨k3, h3, b3⟩ := m40_nat f
  refine ⟨k1, k2, k3, h1, h2, h3, zrep [.int .i64 0] k1, zrep [.int .i64 0, .int .i64 0, .int .i64 0, .int .i64 0] k2, zrep [.int .i64 0, .int .i64 0, .int .i64 0, .int .i64 0, .int .i64 0] k3, ?_⟩
  have r40 : ∀ x : Int, binA .rem (.int .u64 (IntKind.u64.wrap x)) (.int .u64 40) = some (.int .u64 ((IntKind.u64.wrap x).tmod 40)) := fun x => binA_rem _ _ _ (by decide)
  have m1 : IntKind.i64.wrap ((IntKind.u64.wrap d).tmod 40) = k1 := h1
  have m2 : IntKind.i64.wrap ((IntKind.u64.wrap e).tmod 40) = k2 := h2
  have m3 : IntKind.i64.wrap ((IntKind.u64.wrap f).tmod 40) = k3 := h3
  rw [h1, h2, h3]
  have ci : cat i1 [a, b, c, d, e, f] = [.int .i64 a, .int .i64 b, .int .i64 c, .int .i64 d, .int .i64 e, .int .i64 f] := rfl
  (refine PureA.enter (ac := c7) (rs := r7) Tryz.func7 rfl (by decide) c7_ok r7_ok ?_; intro Q hQ; simp only [go_sem, Int.reduceEq, Int.reduceAdd, Int.reduceSub, Int.reduceMul, Nat.reduceLT, Int.reduceLT, Int.reduceLE, Int.reduceToNat, Nat.reduceAdd, Nat.reduceSub, Nat.reduceMul, Nat.reduceLeDiff, reduceCtorEq, c7, Tryz.ntmps7, ci])
  intro p hp p2 hp2 p3 hp3
  simp only [upd_none] at hp2 hp3
  obtain ⟨n2p, np2, hp2⟩ := hp2
  obtain ⟨n32, n23, n3p, np3, hp3⟩ := hp3
  refine loop_n 4 ?_
  simp only [go_sem, Int.reduceEq, Int.reduceAdd, Int.reduceSub, Int.reduceMul, Nat.reduceLT, Int.reduceLT, Int.reduceLE, Int.reduceToNat, Nat.reduceAdd, Nat.reduceSub, Nat.reduceMul, Nat.reduceLeDiff, reduceCtorEq, loopN_succ, upd_same, upd_ne n2p, upd_ne np2, upd_ne n32, upd_ne n23, upd_ne n3p, upd_ne np3, r40, m1, m2, m3, splice, List.length_cons, List.length_nil]
  refine frz_id ?_
  generalize hH : upd (upd (upd (upd h p _) p2 _) p3 _) p _ = H1
  have q1 : H1 p = some (.cells [.int .i64 a, .int .i64 b, .int .i64 c, .int .i64 k1, .int .i64 k2, .int .i64 k3] 6) := by rw [← hH, upd_same]
  have q2 : H1 p2 = some (.cells [.bool false, .bool false, .int .i64 0, .int .i64 0, .int .i64 0, .int .i64 0, .nils, .nils, .nils, .nils, .nils] 11) := by rw [← hH, upd_ne n2p, upd_ne n23, upd_same]
  have q3 : H1 p3 = some (.cells [.int .i64 0, .int .i64 0, .int .i64 0, .int .i64 0, .int .i64 0, .int .i64 0] 6) := by rw [← hH, upd_ne n3p, upd_same]
  have hsub : Sub h H1 := by
    rw [← hH]
    exact Sub.upd (Sub.upd (Sub.upd (Sub.upd (Sub.refl _) hp) hp2) hp3) hp
  clear hH
  simp only [go_sem, Int.reduceEq, Int.reduceAdd, Int.reduceSub, Int.reduceMul, Nat.reduceLT, Int.reduceLT, Int.reduceLE, Int.reduceToNat, Nat.reduceAdd, Nat.reduceSub, Nat.reduceMul, Nat.reduceLeDiff, reduceCtorEq, q1]
  refine aw_make k1 k1 rfl rfl (Nat.le_refl _) (by omega) (by omega) fun s1 hs1 => ?_
  have ne1 : ∀ {x o}, H1 x = some o → x ≠ s1 := fun hx e => by rw [e, hs1] at hx; cases hx
  simp only [go_sem, Int.reduceEq, Int.reduceAdd, Int.reduceSub, Int.reduceMul, Nat.reduceLT, Int.reduceLT, Int.reduceLE, Int.reduceToNat, Nat.reduceAdd, Nat.reduceSub, Nat.reduceMul, Nat.reduceLeDiff, reduceCtorEq]
  refine aw_make k2 k2 rfl rfl (Nat.le_refl _) (by omega) (by omega) fun s2 hs2 => ?_
  simp only [go_sem, Int.reduceEq, Int.reduceAdd, Int.reduceSub, Int.reduceMul, Nat.reduceLT, Int.reduceLT, Int.reduceLE, Int.reduceToNat, Nat.reduceAdd, Nat.reduceSub, Nat.reduceMul, Nat.reduceLeDiff, reduceCtorEq]
  refine aw_make k3 k3 rfl rfl (Nat.le_refl _) (by omega) (by omega) fun s3 hs3 => ?_
  simp only [upd_none] at hs2 hs3
  obtain ⟨e21, e12, hs2⟩ := hs2
  obtain ⟨e32, e23, e31, e13, hs3⟩ := hs3
  have off : ∀ {x : Nat} {o : AObj} {X1 X2 X3 : AObj}, H1 x = some o → upd (upd (upd H1 s1 X1) s2 X2) s3 X3 x = some o := fun {x o X1 X2 X3} hx => by
    rw [upd_ne (by rintro rfl; rw [hs3] at hx; cases hx), upd_ne (by rintro rfl; rw [hs2] at hx; cases hx), upd_ne (by rintro rfl; rw [hs1] at hx; cases hx)]; exact hx
  generalize hG : upd (upd (upd H1 s1 _) s2 _) s3 _ = H4
  have x1 : H4 s1 = some (.cells (zrep [.int .i64 0] k1) k1) := by rw [← hG, upd_ne e13, upd_ne e12, upd_same]
  have x2 : ∃ t2, H4 s2 = some (.cells (zrep [.int .i64 0, .int .i64 0, .int .i64 0, .int .i64 0] k2) t2) := ⟨_, by rw [← hG, upd_ne e23, upd_same]⟩
  have x3 : ∃ t3, H4 s3 = some (.cells (zrep [.int .i64 0, .int .i64 0, .int .i64 0, .int .i64 0, .int .i64 0] k3) t3) := ⟨_, by rw [← hG, upd_same]⟩
  have off4 : ∀ {x : Nat} {o : AObj}, H1 x = some o → H4 x = some o := fun {x o} hx => by rw [← hG]; exact off hx
  have r1 := off4 q1
  have r2 := off4 q2
  have r3 := off4 q3
  have hsub4 : Sub h H4 := fun x o hx => off4 (hsub x o hx)
  have hn1 : h s1 = none := hsub.isNone hs1
  have hn2 : h s2 = none := hsub.isNone hs2
  have hn3 : h s3 = none := hsub.isNone hs3
  have o1 : s1 ≠ p2 ∧ s1 ≠ p3 := ⟨(by rintro rfl; rw [hs1] at q2; cases q2), (by rintro rfl; rw [hs1] at q3; cases q3)⟩
  have o2 : s2 ≠ p2 ∧ s2 ≠ p3 := ⟨(by rintro rfl; rw [hs2] at q2; cases q2), (by rintro rfl; rw [hs2] at q3; cases q3)⟩
  have o3 : s3 ≠ p2 ∧ s3 ≠ p3 := ⟨(by rintro rfl; rw [hs3] at q2; cases q2), (by rintro rfl; rw [hs3] at q3; cases q3)⟩
  clear hG off off4 ne1
  obtain ⟨t2, x2⟩ := x2
  obtain ⟨t3, x3⟩ := x3
  simp only [go_sem, Int.reduceEq, Int.reduceAdd, Int.reduceSub, Int.reduceMul, Nat.reduceLT, Int.reduceLT, Int.reduceLE, Int.reduceToNat, Nat.reduceAdd, Nat.reduceSub, Nat.reduceMul, Nat.reduceLeDiff, reduceCtorEq, r1, r2, r3, del_ne np2, del_ne n32, splice]
  refine hQ _ _ _ _ [viewV i r a b c (.ro _ k1 false) (.ro _ k2 false) (.ro _ k3 false), .agg (cat i1 [a, b, c, (k1 : Int), k2, k3])] (by first | exact .inr rfl | exact .inl rfl) rfl (FzH.sub fun x o hx => ?_) (.cons (.agg ?_) (.cons (.refl _) .nil)) rfl
  · rw [del_ne (by rintro rfl; rw [hp3] at hx; cases hx), del_ne (by rintro rfl; rw [hp2] at hx; cases hx)]
    exact hsub4 x o hx
  · have y1 := (show del (del H4 p2) p3 s1 = H4 s1 by rw [del_ne o1.2, del_ne o1.1]).trans x1
    have y2 := (show del (del H4 p2) p3 s2 = H4 s2 by rw [del_ne o2.2, del_ne o2.1]).trans x2
    have y3 := (show del (del H4 p2) p3 s3 = H4 s3 by rw [del_ne o3.2, del_ne o3.1]).trans x3
    exact .cons (.refl _) (.cons (.refl _) (.cons (.refl _) (.cons (.refl _) (.cons (.refl _) (.cons (.refl _) (.cons (fz_all y1 hn1) (.cons (fz_all y2 hn2) (.cons (.refl _) (.cons (fz_all y3 hn3) (.cons (.refl _) .nil))))))))))

def sp : ByteArray := ⟨#[32]⟩
def nodeW (r : Bool) : ByteArray := if r then ⟨#[114, 111, 111, 116]⟩ else ⟨#[110, 111, 100, 101]⟩
def nodeT (i r : Bool) (l : List Int) : ByteArray := if i then jb sp (nodeW r :: l.map itoaB) else ⟨#[111, 117, 116]⟩

theorem neS_itoa (n : Int) : neS (itoaB n) = true := by
  refine decide_eq_true ?_
  rw [ba_size, itoaB_data]
  have := List.length_pos_iff.2 (it_ne n)
  omega
theorem filt_itoa (l : List Int) : (l.map itoaB).filter neS = l.map itoaB := by
  rw [List.filter_eq_self]
  intro x hx
  obtain ⟨n, _, rfl⟩ := List.mem_map.1 hx
  exact neS_itoa n
theorem itoas_size {l : List Int} (h : ∀ x ∈ l, i64 x) : ∀ x ∈ l.map itoaB, x.size ≤ 1000000 := by
  intro x hx
  obtain ⟨n, hn, rfl⟩ := List.mem_map.1 hx
  have := itoaB_size (h n hn); omega

set_option maxHeartbeats 1000000 in
theorem node_spec (i r : Bool) (a b c : Int) (k1 k2 k3 : Nat) (c1 c2 c3 : List AV) (ha : i64 a) (hb : i64 b) (hc : i64 c) (h1 : k1 < 40) (h2 : k2 < 40) (h3 : k3 < 40) (h : AHeap) :
    PureA Tryz.prog 8 [viewV i r a b c (.ro c1 k1 false) (.ro c2 k2 false) (.ro c3 k3 false)] h (.str (nodeT i r [a, b, c, (k1 : Int), (k2 : Int), (k3 : Int)])) := by
  (refine PureA.enter (ac := c8) (rs := r8) Tryz.func8 rfl (by decide) c8_ok r8_ok ?_; intro Q hQ; simp only [go_sem, Int.reduceEq, Int.reduceAdd, Int.reduceSub, Int.reduceMul, Nat.reduceLT, Int.reduceLT, Int.reduceLE, Int.reduceToNat, Nat.reduceAdd, Nat.reduceSub, Nat.reduceMul, Nat.reduceLeDiff, reduceCtorEq, c8, Tryz.ntmps8, viewV])
  cases i
  · simp only [go_sem, Int.reduceEq, Int.reduceAdd, Int.reduceSub, Int.reduceMul, Nat.reduceLT, Int.reduceLT, Int.reduceLE, Int.reduceToNat, Nat.reduceAdd, Nat.reduceSub, Nat.reduceMul, Nat.reduceLeDiff, reduceCtorEq]
    (refine hQ _ _ _ _ _ (by first | exact .inr rfl | exact .inl rfl) rfl (by first | exact FzH.refl _ | exact FzH.sub (by (repeat' (first | exact Sub.refl _ | assumption | (refine Sub.upd ?_ (by first | assumption | (simp only [*]; done) | exact Sub.isNone (by assumption) (by assumption) | exact Sub.isNone (by assumption) (by simp only [*]))))))) (FzL.refl _ _ _) ?_; try (simp only [go_sem, Int.reduceEq, Int.reduceAdd, Int.reduceSub, Int.reduceMul, Nat.reduceLT, Int.reduceLT, Int.reduceLE, Int.reduceToNat, Nat.reduceAdd, Nat.reduceSub, Nat.reduceMul, Nat.reduceLeDiff, reduceCtorEq]))
    rfl
  · simp only [go_sem, Int.reduceEq, Int.reduceAdd, Int.reduceSub, Int.reduceMul, Nat.reduceLT, Int.reduceLT, Int.reduceLE, Int.reduceToNat, Nat.reduceAdd, Nat.reduceSub, Nat.reduceMul, Nat.reduceLeDiff, reduceCtorEq]
    intro p hp
    refine (when_spec r _ _).use ?_
    simp only [go_sem, Int.reduceEq, Int.reduceAdd, Int.reduceSub, Int.reduceMul, Nat.reduceLT, Int.reduceLT, Int.reduceLE, Int.reduceToNat, Nat.reduceAdd, Nat.reduceSub, Nat.reduceMul, Nat.reduceLeDiff, reduceCtorEq]
    refine (when_spec (!r) _ _).use ?_
    simp only [go_sem, Int.reduceEq, Int.reduceAdd, Int.reduceSub, Int.reduceMul, Nat.reduceLT, Int.reduceLT, Int.reduceLE, Int.reduceToNat, Nat.reduceAdd, Nat.reduceSub, Nat.reduceMul, Nat.reduceLeDiff, reduceCtorEq]
    have w0 : (if r = true then (ByteArray.mk (Array.mk [114, 111, 111, 116])) else ⟨#[]⟩ : ByteArray).size ≤ 1000000 := by cases r <;> decide
    have w1 : (if (!r) = true then (ByteArray.mk (Array.mk [110, 111, 100, 101])) else ⟨#[]⟩ : ByteArray).size ≤ 1000000 := by cases r <;> decide
    have wf : [(if r = true then (ByteArray.mk (Array.mk [114, 111, 111, 116])) else ⟨#[]⟩ : ByteArray), (if (!r) = true then (ByteArray.mk (Array.mk [110, 111, 100, 101])) else ⟨#[]⟩ : ByteArray)].filter neS = [nodeW r] := by cases r <;> rfl
    generalize (if r = true then (ByteArray.mk (Array.mk [114, 111, 111, 116])) else ⟨#[]⟩ : ByteArray) = u at *
    generalize (if (!r) = true then (ByteArray.mk (Array.mk [110, 111, 100, 101])) else ⟨#[]⟩ : ByteArray) = w at *
    refine CallsA.use (say_spec (Line.start hp) [u, w] true (by simp)) ?_
    rintro _ H1 ⟨rfl, l1⟩
    simp only [go_sem, Int.reduceEq, Int.reduceAdd, Int.reduceSub, Int.reduceMul, Nat.reduceLT, Int.reduceLT, Int.reduceLE, Int.reduceToNat, Nat.reduceAdd, Nat.reduceSub, Nat.reduceMul, Nat.reduceLeDiff, reduceCtorEq]
    have hi : ∀ x ∈ [a, b, c, (k1 : Int), (k2 : Int), (k3 : Int)], i64 x := by
      intro x hx
      simp only [List.mem_cons, List.mem_nil_iff, or_false] at hx
      rcases hx with rfl | rfl | rfl | rfl | rfl | rfl
      · exact ha
      · exact hb
      · exact hc
      all_goals (unfold i64; omega)
    refine CallsA.use (count_spec l1 [a, b, c, (k1 : Int), (k2 : Int), (k3 : Int)] true hi (by simp)) ?_
    rintro _ H2 ⟨rfl, l2⟩
    simp only [go_sem, Int.reduceEq, Int.reduceAdd, Int.reduceSub, Int.reduceMul, Nat.reduceLT, Int.reduceLT, Int.reduceLE, Int.reduceToNat, Nat.reduceAdd, Nat.reduceSub, Nat.reduceMul, Nat.reduceLeDiff, reduceCtorEq]
    have l3 : Line h 1 p (cat s1 ([u, w] ++ [a, b, c, (k1 : Int), (k2 : Int), (k3 : Int)].map itoaB)) ([u, w] ++ [a, b, c, (k1 : Int), (k2 : Int), (k3 : Int)].map itoaB).length H2 := by
      rw [cat_append]; exact l2
    refine CallsA.use (text_spec l3 (by simp) ?_) ?_
    · intro x hx
      rcases List.mem_append.1 hx with hx | hx
      · simp only [List.mem_cons, List.mem_nil_iff, or_false] at hx
        rcases hx with rfl | rfl
        · exact w0
        · exact w1
      · exact itoas_size hi x hx
    rintro _ _ ⟨rfl, rfl⟩
    simp only [go_sem, Int.reduceEq, Int.reduceAdd, Int.reduceSub, Int.reduceMul, Nat.reduceLT, Int.reduceLT, Int.reduceLE, Int.reduceToNat, Nat.reduceAdd, Nat.reduceSub, Nat.reduceMul, Nat.reduceLeDiff, reduceCtorEq]
    (refine hQ _ _ _ _ _ (by first | exact .inr rfl | exact .inl rfl) rfl (by first | exact FzH.refl _ | exact FzH.sub (by (repeat' (first | exact Sub.refl _ | assumption | (refine Sub.upd ?_ (by first | assumption | (simp only [*]; done) | exact Sub.isNone (by assumption) (by assumption) | exact Sub.isNone (by assumption) (by simp only [*]))))))) (FzL.refl _ _ _) ?_; try (simp only [go_sem, Int.reduceEq, Int.reduceAdd, Int.reduceSub, Int.reduceMul, Nat.reduceLT, Int.reduceLT, Int.reduceLE, Int.reduceToNat, Nat.reduceAdd, Nat.reduceSub, Nat.reduceMul, Nat.reduceLeDiff, reduceCtorEq]))
    show AV.str (jb ⟨#[32]⟩ (List.filter neS ([u, w] ++ [a, b, c, (k1 : Int), (k2 : Int), (k3 : Int)].map itoaB))) = _
    rw [List.filter_append, wf, filt_itoa]
    rfl

set_option maxHeartbeats 1000000 in
theorem rnode_spec (i r : Bool) (l : List Int) (hl : l.length = 6) (hx : ∀ x ∈ l, i64 x) (h : AHeap) : PureA Tryz.prog 9 [.bool i, .bool r, .agg (cat i1 l)] h (.str (nodeT i r l)) := by
  (refine PureA.enter (ac := c9) (rs := r9) Tryz.func9 rfl (by decide) c9_ok r9_ok ?_; intro Q hQ; simp only [go_sem, Int.reduceEq, Int.reduceAdd, Int.reduceSub, Int.reduceMul, Nat.reduceLT, Int.reduceLT, Int.reduceLE, Int.reduceToNat, Nat.reduceAdd, Nat.reduceSub, Nat.reduceMul, Nat.reduceLeDiff, reduceCtorEq, c9, Tryz.ntmps9])
  cases i
  · simp only [go_sem, Int.reduceEq, Int.reduceAdd, Int.reduceSub, Int.reduceMul, Nat.reduceLT, Int.reduceLT, Int.reduceLE, Int.reduceToNat, Nat.reduceAdd, Nat.reduceSub, Nat.reduceMul, Nat.reduceLeDiff, reduceCtorEq]
    (refine hQ _ _ _ _ _ (by first | exact .inr rfl | exact .inl rfl) rfl (by first | exact FzH.refl _ | exact FzH.sub (by (repeat' (first | exact Sub.refl _ | assumption | (refine Sub.upd ?_ (by first | assumption | (simp only [*]; done) | exact Sub.isNone (by assumption) (by assumption) | exact Sub.isNone (by assumption) (by simp only [*]))))))) (FzL.refl _ _ _) ?_; try (simp only [go_sem, Int.reduceEq, Int.reduceAdd, Int.reduceSub, Int.reduceMul, Nat.reduceLT, Int.reduceLT, Int.reduceLE, Int.reduceToNat, Nat.reduceAdd, Nat.reduceSub, Nat.reduceMul, Nat.reduceLeDiff, reduceCtorEq]))
    rfl
  · obtain ⟨W, hW⟩ : ∃ W : Nat → ByteArray, W = fun k => jb sp (nodeW r :: (l.take k).map itoaB) := ⟨_, rfl⟩
    have hW0 : W 0 = nodeW r := by rw [hW]; simp only [List.take_zero, List.map_nil, jb_one]
    have hWs : ∀ k (hk : k < l.length), W (k + 1) = W k ++ sp ++ itoaB l[k] := fun k hk => by
      rw [hW]; simp only
      rw [List.take_succ_eq_append_getElem hk, List.map_append, ← List.cons_append]
      exact jb_snoc (by simp)
    have hWz : ∀ k, (W k).size ≤ 10000 := fun k => by
      rw [hW]; simp only
      have h5 : ∀ x ∈ nodeW r :: (l.take k).map itoaB, x.size ≤ 21 := by
        intro x hx'
        rcases List.mem_cons.1 hx' with rfl | hx'
        · cases r <;> decide
        · obtain ⟨n, hn, rfl⟩ := List.mem_map.1 hx'
          exact itoaB_size (hx n (List.mem_of_mem_take hn))
      have h6 := jb_size (m := 21) (sep := sp) (by decide) h5
      have h7 : (nodeW r :: (l.take k).map itoaB).length ≤ 7 := by simp; omega
      have h8 := Nat.mul_le_mul_right 21 h7
      omega
    cases r <;> simp only [go_sem, Int.reduceEq, Int.reduceAdd, Int.reduceSub, Int.reduceMul, Nat.reduceLT, Int.reduceLT, Int.reduceLE, Int.reduceToNat, Nat.reduceAdd, Nat.reduceSub, Nat.reduceMul, Nat.reduceLeDiff, reduceCtorEq] <;> rw [show (ByteArray.mk (Array.mk _) : ByteArray) = W 0 from hW0.symm] <;>
    ( refine loop_range d9_0 6 (fun k s => (s.set 7 (.str (W k))).set 8 (.int .i64 k)) (fun k h' => h' = h) ?_ rfl ?_
      · (simp only [go_sem, Int.reduceEq, Int.reduceAdd, Int.reduceSub, Int.reduceMul, Nat.reduceLT, Int.reduceLT, Int.reduceLE, Int.reduceToNat, Nat.reduceAdd, Nat.reduceSub, Nat.reduceMul, Nat.reduceLeDiff, reduceCtorEq, d9_0] <;> rfl)
      rintro N k h' hk rfl hN
      simp only [go_sem, Int.reduceEq, Int.reduceAdd, Int.reduceSub, Int.reduceMul, Nat.reduceLT, Int.reduceLT, Int.reduceLE, Int.reduceToNat, Nat.reduceAdd, Nat.reduceSub, Nat.reduceMul, Nat.reduceLeDiff, reduceCtorEq, d9_0]
      have hadd := wadd1 (k := k) (by omega)
      by_cases hlt : k < 6
      · have hlt2 : k < l.length := by omega
        have h20 : (k : Int) < 6 := by omega
        have hsz := hWz k
        have hnk := hx _ (List.getElem_mem hlt2)
        have hsi := itoaB_size hnk
        simp only [go_sem, Int.reduceEq, Int.reduceAdd, Int.reduceSub, Int.reduceMul, Nat.reduceLT, Int.reduceLT, Int.reduceLE, Int.reduceToNat, Nat.reduceAdd, Nat.reduceSub, Nat.reduceMul, Nat.reduceLeDiff, reduceCtorEq, h20, rdI hlt2, cat_str (x := W k) (y := ByteArray.mk (Array.mk [32])) (by show (W k).size + 1 ≤ 1000000; omega)]
        refine (num_spec l[k] hnk h').use ?_
        simp only [go_sem, Int.reduceEq, Int.reduceAdd, Int.reduceSub, Int.reduceMul, Nat.reduceLT, Int.reduceLT, Int.reduceLE, Int.reduceToNat, Nat.reduceAdd, Nat.reduceSub, Nat.reduceMul, Nat.reduceLeDiff, reduceCtorEq, cat_str (x := W k ++ ByteArray.mk (Array.mk [32])) (y := itoaB l[k]) (by rw [ByteArray.size_append]; show (W k).size + 1 + _ ≤ 1000000; omega), hadd]
        refine hN _ _ hlt ?_ rfl
        rw [hWs k hlt2]
        simp only [go_sem, Int.reduceEq, Int.reduceAdd, Int.reduceSub, Int.reduceMul, Nat.reduceLT, Int.reduceLT, Int.reduceLE, Int.reduceToNat, Nat.reduceAdd, Nat.reduceSub, Nat.reduceMul, Nat.reduceLeDiff, reduceCtorEq, d9_0]
        rfl
      · obtain rfl : k = 6 := by omega
        simp only [go_sem, Int.reduceEq, Int.reduceAdd, Int.reduceSub, Int.reduceMul, Nat.reduceLT, Int.reduceLT, Int.reduceLE, Int.reduceToNat, Nat.reduceAdd, Nat.reduceSub, Nat.reduceMul, Nat.reduceLeDiff, reduceCtorEq, show ¬ ((6 : Nat) : Int) < 6 by omega]
        refine frz_id ?_
        simp only [go_sem, Int.reduceEq, Int.reduceAdd, Int.reduceSub, Int.reduceMul, Nat.reduceLT, Int.reduceLT, Int.reduceLE, Int.reduceToNat, Nat.reduceAdd, Nat.reduceSub, Nat.reduceMul, Nat.reduceLeDiff, reduceCtorEq]
        (refine hQ _ _ _ _ _ (by first | exact .inr rfl | exact .inl rfl) rfl (by first | exact FzH.refl _ | exact FzH.sub (by (repeat' (first | exact Sub.refl _ | assumption | (refine Sub.upd ?_ (by first | assumption | (simp only [*]; done) | exact Sub.isNone (by assumption) (by assumption) | exact Sub.isNone (by assumption) (by simp only [*]))))))) (FzL.refl _ _ _) ?_; try (simp only [go_sem, Int.reduceEq, Int.reduceAdd, Int.reduceSub, Int.reduceMul, Nat.reduceLT, Int.reduceLT, Int.reduceLE, Int.reduceToNat, Nat.reduceAdd, Nat.reduceSub, Nat.reduceMul, Nat.reduceLeDiff, reduceCtorEq]))
        rw [hW]; simp only [← hl, List.take_length]; rfl )

theorem eqI : ∀ {p q : List Int}, p.length = q.length → eqCells (List.replicate p.length .i) (cat i1 p) (cat i1 q) = some (decide (p = q))
  | [], [], _ => by simp [cat, eqCells]
  | x :: p, y :: q, h => by
    have ih := eqI (p := p) (q := q) (by simpa using h)
    have e1 : cat i1 (x :: p) = .int .i64 x :: cat i1 p := rfl
    have e2 : cat i1 (y :: q) = .int .i64 y :: cat i1 q := rfl
    rw [e1, e2, List.length_cons, List.replicate_succ]
    simp only [eqCells, eqCell, if_true, ih]
    by_cases h1 : x = y <;> by_cases h2 : p = q <;> simp [h1, h2]

theorem nodeT_inj {r : Bool} {p q : List Int} (hl : p.length = q.length) : ((nodeT true r p).toList == (nodeT true r q).toList) = decide (p = q) := by
  rw [Lib.toList_data, Lib.toList_data]
  by_cases h : p = q
  · subst h; simp
  · rw [decide_eq_false h]
    refine Bool.eq_false_iff.2 fun e => h ?_
    have e1 := eq_of_beq e
    unfold nodeT at e1
    rw [if_pos rfl, if_pos rfl, jb_data, jb_data, List.map_cons, List.map_cons, Lib.join_cons, Lib.join_cons] at e1
    have e2 := List.append_cancel_left e1
    have hm : ∀ (l : List Int), ∀ x ∈ (l.map itoaB).map (·.data.toList), (32 : UInt8) ∉ x := fun l x hx => by
      obtain ⟨y, hy, rfl⟩ := List.mem_map.1 hx
      obtain ⟨n, _, rfl⟩ := List.mem_map.1 hy
      exact it_mem n
    have e3 := tail_inj (by simp [hl]) (hm p) (hm q) e2
    rw [List.map_map, List.map_map] at e3
    have inj : ∀ (a b : List Int), a.map ((fun x : ByteArray => x.data.toList) ∘ itoaB) = b.map ((fun x : ByteArray => x.data.toList) ∘ itoaB) → a = b := by
      intro a
      induction a with
      | nil => intro b e; cases b <;> first | rfl | simp at e
      | cons x a ih =>
        intro b e
        cases b with
        | nil => simp at e
        | cons y b =>
          simp only [List.map_cons, List.cons.injEq] at e
          rw [it_inj e.1, ih b e.2]
    exact inj _ _ e3

set_option maxHeartbeats 2000000 in
theorem nodes_walk (i r : Bool) (a b c d e f : Int) (a' b' c' d' e' f' : Int) (h0 : ∀ x ∈ [a, b, c, a', b', c'], i64 x) : PureA Tryz.prog 4 [.bool i, .bool r, .agg (cat i1 [a, b, c, d, e, f]), .agg (cat i1 [a', b', c', d', e', f'])] emp (.bool true) := by
  obtain ⟨k1, k2, k3, h1, h2, h3, c1, c2, c3, hv⟩ := view_spec i r a b c d e f emp
  obtain ⟨j1, j2, j3, g1, g2, g3, d1, d2, d3, hw⟩ := view_spec i r a' b' c' d' e' f' emp
  obtain ⟨_, y1, z1⟩ := m40_nat d
  obtain ⟨_, y2, z2⟩ := m40_nat e
  obtain ⟨_, y3, z3⟩ := m40_nat f
  obtain ⟨_, y4, z4⟩ := m40_nat d'
  obtain ⟨_, y5, z5⟩ := m40_nat e'
  obtain ⟨_, y6, z6⟩ := m40_nat f'
  rw [h1, h2, h3] at hv
  rw [g1, g2, g3] at hw
  have n1 := node_spec i r a b c k1 k2 k3 c1 c2 c3 (h0 a (by simp)) (h0 b (by simp)) (h0 c (by simp)) (by omega) (by omega) (by omega) emp
  have n2 := node_spec i r a' b' c' j1 j2 j3 d1 d2 d3 (h0 a' (by simp)) (h0 b' (by simp)) (h0 c' (by simp)) (by omega) (by omega) (by omega) emp
  have ip : ∀ x ∈ [a, b, c, (k1 : Int), (k2 : Int), (k3 : Int)], i64 x := by
    intro x hx
    simp only [List.mem_cons, List.mem_nil_iff, or_false] at hx
    rcases hx with rfl | rfl | rfl | rfl | rfl | rfl
    · exact h0 _ (by simp)
    · exact h0 _ (by simp)
    · exact h0 _ (by simp)
    all_goals (unfold i64; omega)
  have iq : ∀ x ∈ [a', b', c', (j1 : Int), (j2 : Int), (j3 : Int)], i64 x := by
    intro x hx
    simp only [List.mem_cons, List.mem_nil_iff, or_false] at hx
    rcases hx with rfl | rfl | rfl | rfl | rfl | rfl
    · exact h0 _ (by simp)
    · exact h0 _ (by simp)
    · exact h0 _ (by simp)
    all_goals (unfold i64; omega)
  have m1 := rnode_spec i r [a, b, c, (k1 : Int), (k2 : Int), (k3 : Int)] rfl ip emp
  have m2 := rnode_spec i r [a', b', c', (j1 : Int), (j2 : Int), (j3 : Int)] rfl iq emp
  have hq := eqI (p := [a, b, c, (k1 : Int), (k2 : Int), (k3 : Int)]) (q := [a', b', c', (j1 : Int), (j2 : Int), (j3 : Int)]) rfl
  have hi := nodeT_inj (r := r) (p := [a, b, c, (k1 : Int), (k2 : Int), (k3 : Int)]) (q := [a', b', c', (j1 : Int), (j2 : Int), (j3 : Int)]) rfl
  have p0 : ∀ u v w x y z : Int, cat i1 [u, v, w, x, y, z] = [.int .i64 u, .int .i64 v, .int .i64 w, .int .i64 x, .int .i64 y, .int .i64 z] := fun _ _ _ _ _ _ => rfl
  have rp6 : List.replicate 6 CK.i = [.i, .i, .i, .i, .i, .i] := rfl
  rw [show [a, b, c, (k1 : Int), (k2 : Int), (k3 : Int)].length = 6 from rfl, rp6] at hq
  rw [p0, p0] at hv hw
  rw [p0] at m1 m2
  rw [p0, p0] at hq
  simp only [viewV] at hv hw n1 n2
  (refine PureA.enter (ac := c4) (rs := r4) Tryz.func4 rfl (by decide) c4_ok r4_ok ?_; intro Q hQ; simp only [go_sem, Int.reduceEq, Int.reduceAdd, Int.reduceSub, Int.reduceMul, Nat.reduceLT, Int.reduceLT, Int.reduceLE, Int.reduceToNat, Nat.reduceAdd, Nat.reduceSub, Nat.reduceMul, Nat.reduceLeDiff, reduceCtorEq, c4, Tryz.ntmps4, p0])
  refine hv.use ?_
  simp only [go_sem, Int.reduceEq, Int.reduceAdd, Int.reduceSub, Int.reduceMul, Nat.reduceLT, Int.reduceLT, Int.reduceLE, Int.reduceToNat, Nat.reduceAdd, Nat.reduceSub, Nat.reduceMul, Nat.reduceLeDiff, reduceCtorEq]
  intro p hp q hq'
  simp only [upd_none] at hq'
  obtain ⟨nqp, npq, hq'⟩ := hq'
  simp only [go_sem, Int.reduceEq, Int.reduceAdd, Int.reduceSub, Int.reduceMul, Nat.reduceLT, Int.reduceLT, Int.reduceLE, Int.reduceToNat, Nat.reduceAdd, Nat.reduceSub, Nat.reduceMul, Nat.reduceLeDiff, reduceCtorEq, upd_same, upd_ne npq, upd_ne nqp, del_ne nqp, del_ne npq, del2 hp hq', List.length_cons, List.length_nil]
  refine hw.use ?_
  simp only [go_sem, Int.reduceEq, Int.reduceAdd, Int.reduceSub, Int.reduceMul, Nat.reduceLT, Int.reduceLT, Int.reduceLE, Int.reduceToNat, Nat.reduceAdd, Nat.reduceSub, Nat.reduceMul, Nat.reduceLeDiff, reduceCtorEq]
  intro p2 hp2 q2 hq2
  simp only [upd_none] at hq2
  obtain ⟨nqp2, npq2, hq2⟩ := hq2
  simp only [go_sem, Int.reduceEq, Int.reduceAdd, Int.reduceSub, Int.reduceMul, Nat.reduceLT, Int.reduceLT, Int.reduceLE, Int.reduceToNat, Nat.reduceAdd, Nat.reduceSub, Nat.reduceMul, Nat.reduceLeDiff, reduceCtorEq, upd_same, upd_ne npq2, upd_ne nqp2, del_ne nqp2, del_ne npq2, del2 hp2 hq2, List.length_cons, List.length_nil]
  refine n1.use ?_
  simp only [go_sem, Int.reduceEq, Int.reduceAdd, Int.reduceSub, Int.reduceMul, Nat.reduceLT, Int.reduceLT, Int.reduceLE, Int.reduceToNat, Nat.reduceAdd, Nat.reduceSub, Nat.reduceMul, Nat.reduceLeDiff, reduceCtorEq, List.length_cons, List.length_nil]
  refine n2.use ?_
  simp only [go_sem, Int.reduceEq, Int.reduceAdd, Int.reduceSub, Int.reduceMul, Nat.reduceLT, Int.reduceLT, Int.reduceLE, Int.reduceToNat, Nat.reduceAdd, Nat.reduceSub, Nat.reduceMul, Nat.reduceLeDiff, reduceCtorEq]
  refine (known_spec emp).use ?_
  simp only [go_sem, Int.reduceEq, Int.reduceAdd, Int.reduceSub, Int.reduceMul, Nat.reduceLT, Int.reduceLT, Int.reduceLE, Int.reduceToNat, Nat.reduceAdd, Nat.reduceSub, Nat.reduceMul, Nat.reduceLeDiff, reduceCtorEq, List.length_cons, List.length_nil]
  refine m1.use ?_
  simp only [go_sem, Int.reduceEq, Int.reduceAdd, Int.reduceSub, Int.reduceMul, Nat.reduceLT, Int.reduceLT, Int.reduceLE, Int.reduceToNat, Nat.reduceAdd, Nat.reduceSub, Nat.reduceMul, Nat.reduceLeDiff, reduceCtorEq, binA_seq, beq_self_eq_true, List.length_cons, List.length_nil]
  refine m2.use ?_
  simp only [go_sem, Int.reduceEq, Int.reduceAdd, Int.reduceSub, Int.reduceMul, Nat.reduceLT, Int.reduceLT, Int.reduceLE, Int.reduceToNat, Nat.reduceAdd, Nat.reduceSub, Nat.reduceMul, Nat.reduceLeDiff, reduceCtorEq, binA_seq, beq_self_eq_true, List.length_cons, List.length_nil]
  cases i
  · have ho : ∀ l, nodeT false r l = ⟨#[111, 117, 116]⟩ := fun _ => rfl
    simp only [go_sem, Int.reduceEq, Int.reduceAdd, Int.reduceSub, Int.reduceMul, Nat.reduceLT, Int.reduceLT, Int.reduceLE, Int.reduceToNat, Nat.reduceAdd, Nat.reduceSub, Nat.reduceMul, Nat.reduceLeDiff, reduceCtorEq, ho, beq_self_eq_true]
    (refine hQ _ _ _ _ _ (by first | exact .inr rfl | exact .inl rfl) rfl (by first | exact FzH.refl _ | exact FzH.sub (by (repeat' (first | exact Sub.refl _ | assumption | (refine Sub.upd ?_ (by first | assumption | (simp only [*]; done) | exact Sub.isNone (by assumption) (by assumption) | exact Sub.isNone (by assumption) (by simp only [*]))))))) (FzL.refl _ _ _) ?_; try (simp only [go_sem, Int.reduceEq, Int.reduceAdd, Int.reduceSub, Int.reduceMul, Nat.reduceLT, Int.reduceLT, Int.reduceLE, Int.reduceToNat, Nat.reduceAdd, Nat.reduceSub, Nat.reduceMul, Nat.reduceLeDiff, reduceCtorEq]))
  · simp only [go_sem, Int.reduceEq, Int.reduceAdd, Int.reduceSub, Int.reduceMul, Nat.reduceLT, Int.reduceLT, Int.reduceLE, Int.reduceToNat, Nat.reduceAdd, Nat.reduceSub, Nat.reduceMul, Nat.reduceLeDiff, reduceCtorEq, hi, hq, List.length_cons, List.length_nil, beq_self_eq_true]
    (refine hQ _ _ _ _ _ (by first | exact .inr rfl | exact .inl rfl) rfl (by first | exact FzH.refl _ | exact FzH.sub (by (repeat' (first | exact Sub.refl _ | assumption | (refine Sub.upd ?_ (by first | assumption | (simp only [*]; done) | exact Sub.isNone (by assumption) (by assumption) | exact Sub.isNone (by assumption) (by simp only [*]))))))) (FzL.refl _ _ _) ?_; try (simp only [go_sem, Int.reduceEq, Int.reduceAdd, Int.reduceSub, Int.reduceMul, Nat.reduceLT, Int.reduceLT, Int.reduceLE, Int.reduceToNat, Nat.reduceAdd, Nat.reduceSub, Nat.reduceMul, Nat.reduceLeDiff, reduceCtorEq]))

theorem list6 {l : List Int} (h : l.length = 6) : ∃ a b c d e f, l = [a, b, c, d, e, f] := by
  match l, h with
  | [a, b, c, d, e, f], _ => exact ⟨a, b, c, d, e, f, rfl⟩

theorem sh_arr6 {n : Nat} {t e : TypeId} {xs : List AV} (ht : Tryz.prog.underlying t = some (.array 6 e)) (he : Tryz.prog.underlying e = some (.int .i64)) (h : ShC Tryz.prog (n + 2) t xs) : ∃ a b c d e f : Int, xs = cat i1 [a, b, c, d, e, f] ∧ ∀ x ∈ [a, b, c, d, e, f], i64 x := by
  simp only [ShC, ht] at h
  obtain ⟨els, rfl, hl, hx⟩ := h
  obtain ⟨l, e1, e2, e3⟩ := sh_list (enc := i1) (R := i64) (els := els) fun el hel => by
    have := (hx el hel).2
    simp only [he] at this
    obtain ⟨i, rfl, hi⟩ := this
    exact ⟨i, rfl, wf_i64 hi⟩
  obtain ⟨a, b, c, d, e, f, rfl⟩ := list6 (show l.length = 6 by omega)
  exact ⟨a, b, c, d, e, f, e1, e3⟩

theorem nodes_law (xs : List AV) (h : ArgsSh Tryz.prog 6 Tryz.f4.params.toList xs) : PureA Tryz.prog 4 xs emp (.bool true) := by
  rw [Tryz.params4] at h
  simp only [ArgsSh, ArgSh, Tryz.underlying4, Tryz.underlying26] at h
  obtain ⟨_, _, rfl, hi, _, _, rfl, hr, _, _, rfl, ⟨ys, rfl, hy⟩, _, _, rfl, ⟨zs, rfl, hz⟩, rfl⟩ := h
  rw [ShC] at hi hr
  simp only [Tryz.underlying4] at hi hr
  obtain ⟨i, e1⟩ := hi
  obtain ⟨r, e2⟩ := hr
  cases e1; cases e2
  obtain ⟨a, b, c, d, e, f, rfl, g1⟩ := sh_arr6 Tryz.underlying26 Tryz.underlying3 hy
  obtain ⟨a', b', c', d', e', f', rfl, g2⟩ := sh_arr6 Tryz.underlying26 Tryz.underlying3 hz
  refine nodes_walk i r a b c d e f a' b' c' d' e' f' fun x hx => ?_
  simp only [List.mem_cons, List.mem_nil_iff, or_false] at hx
  rcases hx with rfl | rfl | rfl | rfl | rfl | rfl
  · exact g1 _ (by simp)
  · exact g1 _ (by simp)
  · exact g1 _ (by simp)
  · exact g2 _ (by simp)
  · exact g2 _ (by simp)
  · exact g2 _ (by simp)

end Go.Proofs.YteijaibggalapaaGreatDoor
