/-
  ideal.Ranks: least ranks.
-/
import Derived.Test.YtaeppifdbcoipaaIl
namespace Go.Proofs.Ytaeppifdbcoipaa
open Go E
set_option linter.unusedVariables false
set_option linter.unusedSimpArgs false
set_option maxRecDepth 100000

theorem set_ints {l : List Int} {a : Nat} (h : a < l.length) (v : Int) : List.take a (cat i1 l) ++ [AV.int .i64 v] ++ List.drop (a + 1) (cat i1 l) = cat i1 (l.set a v) := by
  have h1 := cat_take i1_len l a
  have h2 := cat_drop i1_len l (a + 1)
  rw [Nat.mul_one] at h1 h2
  rw [h1, h2, List.set_eq_take_append_cons_drop, if_pos h, cat_append, cat_cons]
  simp [i1]

theorem aw_make {P : Program} {K : AV → AHeap → Prop} {s : List AV} {h : AHeap} {bytes : Nat} {z : List AV} {l c : AArg} (n m : Nat) (hl : ev s l = .int .i64 n) (hc : ev s c = .int .i64 m) (hnm : n ≤ m) (hb : bytes * m ≤ 70368744177664) (hm : m < 9223372036854775807)
    (k : ∀ id, h id = none → K (.sl id 0 n m) (upd h id (.cells (zrep z m) (m * z.length)))) : aw P (.makeSlice bytes z l c) K s h := ⟨n, m, hl, hc, hnm, hb, hm, k⟩

theorem zrep_ints (n : Nat) : zrep [.int .i64 0] n = cat i1 (List.replicate n 0) := by
  have h1 : ∀ n : Nat, cat i1 (List.replicate n 0) = List.replicate n (.int .i64 0) := by
    intro n
    induction n with
    | zero => rfl
    | succ n ih => rw [List.replicate_succ, cat_cons, ih]; rfl
  rw [h1]
  unfold zrep
  rw [List.eq_replicate_iff]
  refine ⟨by simp, fun b hb => ?_⟩
  obtain ⟨i, _, rfl⟩ := List.mem_map.1 hb
  simp [Nat.mod_one]

/-- The first k are 65535. -/
def infL (n k : Nat) : List Int := List.replicate k 65535 ++ List.replicate (n - k) 0
theorem infL_len {n k : Nat} (h : k ≤ n) : (infL n k).length = n := by simp [infL]; omega
theorem infL_set {n k : Nat} (h : k < n) : (infL n k).set k 65535 = infL n (k + 1) := by
  obtain ⟨m, hm⟩ : ∃ m, n - k = m + 1 := ⟨n - k - 1, by omega⟩
  unfold infL
  rw [List.set_append_right _ _ (by simp), List.length_replicate, Nat.sub_self, hm, List.replicate_succ, List.set_cons_zero, show n - (k + 1) = m by omega, List.replicate_succ' (n := k)]
  simp
theorem infL_all (n : Nat) : infL n n = List.replicate n 65535 := by simp [infL]

theorem mem_nbs {n : Int} {f : Lk} {a b : Int} : b ∈ nbsL n f a ↔ (0 ≤ b ∧ b < n) ∧ (costE n f a b).2 = 0 := by
  unfold nbsL
  rw [List.mem_filter, List.mem_map, decide_eq_true_eq]
  constructor
  · rintro ⟨⟨j, hj, rfl⟩, h⟩
    rw [List.mem_range] at hj
    exact ⟨⟨by omega, by omega⟩, h⟩
  · rintro ⟨⟨h1, h2⟩, h⟩
    exact ⟨⟨b.toNat, by rw [List.mem_range]; omega, by omega⟩, h⟩
theorem cost_link {n : Int} {f : Lk} {a b : Nat} (ha : (a : Int) < n) (hb : (b : Int) < n) : (costE n f a b).2 = 0 ↔ ∃ c, alook f (ofP a b) = some c := by
  have g1 : inN n (a : Int) = true := decide_eq_true (by omega)
  have g2 : inN n (b : Int) = true := decide_eq_true (by omega)
  unfold costE
  rw [g1, g2]
  cases g : alook f (ofP a b) <;> simp

set_option maxHeartbeats 4000000 in
theorem iranks_spec {x id : Nat} {N : Nat} {f : Lk} {h : AHeap} (k : LIn x id (N : Int) f h) (hN : 1 ≤ N ∧ N ≤ 8) (hpos : ∀ p c, alook f p = some c → 128 ≤ c ∧ c < 65535) (hdom : ∀ p c, alook f p = some c → 0 ≤ p.1 ∧ p.1 < p.2 ∧ p.2 < (N : Int)) (p : Pol) (he : p.ierr = 0) :
    CallsA Try.prog 18 [.ptr x 0, .agg p.av] h (fun r H => H = h ∧ ∃ L : List Int, r = .tup [.ro (cat i1 L) L.length false, .int .i64 0] ∧ L.length = N ∧ Least N (pstep p f) p.least (rk L) ∧ ∀ b, p.least ≤ rk L b) := by
  obtain ⟨h1, h2, _, _⟩ := pfit he
  have ok := pstep_ok he N f
  have hl : 1 ≤ p.least ∧ p.least ≤ 65535 := by simpa [isLeast] using h2
  (refine CallsA.enterR (ac := c18) (rs := r18) Try.func18 rfl (by decide) c18_ok r18_ok ?_; intro Q hQ; simp only [go_sem, Int.reduceEq, Int.reduceAdd, Int.reduceSub, Int.reduceMul, Nat.reduceLT, Int.reduceLT, Int.reduceLE, Int.reduceToNat, Nat.reduceAdd, Nat.reduceSub, Nat.reduceMul, Nat.reduceLeDiff, reduceCtorEq, c18, Try.ntmps18, Pol.av])
  refine (icheck_spec x p _).use ?_
  simp only [go_sem, Int.reduceEq, Int.reduceAdd, Int.reduceSub, Int.reduceMul, Nat.reduceLT, Int.reduceLT, Int.reduceLE, Int.reduceToNat, Nat.reduceAdd, Nat.reduceSub, Nat.reduceMul, Nat.reduceLeDiff, reduceCtorEq, he]
  refine (kNodes_spec k).use ?_
  simp only [go_sem, Int.reduceEq, Int.reduceAdd, Int.reduceSub, Int.reduceMul, Nat.reduceLT, Int.reduceLT, Int.reduceLE, Int.reduceToNat, Nat.reduceAdd, Nat.reduceSub, Nat.reduceMul, Nat.reduceLeDiff, reduceCtorEq]
  refine aw_make N N rfl rfl (Nat.le_refl _) (by omega) (by omega) fun P hP => ?_
  rw [zrep_ints]
  have k0 := k.sub (Sub.upd (o := .cells (cat i1 (List.replicate N 0)) (N * [AV.int .i64 0].length)) (Sub.refl h) hP)
  simp only [go_sem, Int.reduceEq, Int.reduceAdd, Int.reduceSub, Int.reduceMul, Nat.reduceLT, Int.reduceLT, Int.reduceLE, Int.reduceToNat, Nat.reduceAdd, Nat.reduceSub, Nat.reduceMul, Nat.reduceLeDiff, reduceCtorEq]
  refine loop_st d18_0 (fun k : Nat => N - k) (fun k s => s.set 27 (.int .i64 (k : Int))) (fun k H => k ≤ N ∧ H = upd h P (.cells (cat i1 (infL N k)) N)) 0 ?_ ⟨Nat.zero_le _, by simp [infL]⟩ ?_
  · (simp only [go_sem, Int.reduceEq, Int.reduceAdd, Int.reduceSub, Int.reduceMul, Nat.reduceLT, Int.reduceLT, Int.reduceLE, Int.reduceToNat, Nat.reduceAdd, Nat.reduceSub, Nat.reduceMul, Nat.reduceLeDiff, reduceCtorEq, d18_0] <;> rfl)
  rintro K1 j H1 ⟨hj, rfl⟩ hK1
  simp only [go_sem, Int.reduceEq, Int.reduceAdd, Int.reduceSub, Int.reduceMul, Nat.reduceLT, Int.reduceLT, Int.reduceLE, Int.reduceToNat, Nat.reduceAdd, Nat.reduceSub, Nat.reduceMul, Nat.reduceLeDiff, reduceCtorEq, d18_0]
  have hadd := wadd1 (k := j) (by omega)
  by_cases hlt : j < N
  · have hil := infL_len (n := N) (k := j) (by omega)
    have hle : j + 1 ≤ (cat i1 (infL N j)).length := by rw [cat_len i1_len, hil]; omega
    have hcut : List.take j (cat i1 (infL N j)) ++ [AV.int .i64 65535] ++ List.drop (j + 1) (cat i1 (infL N j)) = cat i1 (infL N (j + 1)) := by rw [set_ints (by omega), infL_set hlt]
    simp only [go_sem, Int.reduceEq, Int.reduceAdd, Int.reduceSub, Int.reduceMul, Nat.reduceLT, Int.reduceLT, Int.reduceLE, Int.reduceToNat, Nat.reduceAdd, Nat.reduceSub, Nat.reduceMul, Nat.reduceLeDiff, reduceCtorEq, hlt, hle, hcut, upd_upd, hadd]
    refine hK1 (j + 1) _ _ (by omega) ?_ ⟨hlt, rfl⟩
    simp only [go_sem, Int.reduceEq, Int.reduceAdd, Int.reduceSub, Int.reduceMul, Nat.reduceLT, Int.reduceLT, Int.reduceLE, Int.reduceToNat, Nat.reduceAdd, Nat.reduceSub, Nat.reduceMul, Nat.reduceLeDiff, reduceCtorEq, d18_0]
  have hjN : j = N := by omega
  subst hjN
  rw [infL_all]
  simp only [go_sem, Int.reduceEq, Int.reduceAdd, Int.reduceSub, Int.reduceMul, Nat.reduceLT, Int.reduceLT, Int.reduceLE, Int.reduceToNat, Nat.reduceAdd, Nat.reduceSub, Nat.reduceMul, Nat.reduceLeDiff, reduceCtorEq, hlt]
  refine frz_id ?_
  have hle : 0 + 1 ≤ (cat i1 (List.replicate j 65535)).length := by rw [cat_len i1_len, List.length_replicate]; omega
  have hcut : List.take 0 (cat i1 (List.replicate j 65535)) ++ [AV.int .i64 p.least] ++ List.drop (0 + 1) (cat i1 (List.replicate j 65535)) = cat i1 ((List.replicate j 65535).set 0 p.least) := set_ints (by rw [List.length_replicate]; omega) _
  rw [List.take_zero, List.nil_append, Nat.zero_add] at hcut
  rw [Nat.zero_add] at hle
  simp only [go_sem, Int.reduceEq, Int.reduceAdd, Int.reduceSub, Int.reduceMul, Nat.reduceLT, Int.reduceLT, Int.reduceLE, Int.reduceToNat, Nat.reduceAdd, Nat.reduceSub, Nat.reduceMul, Nat.reduceLeDiff, reduceCtorEq, show (0 : Int) < (j : Int) by omega, hle, hcut, upd_upd]
  intro q hq
  have i0 : HIn q 0 [] (upd h P (.cells (cat i1 ((List.replicate j 65535).set 0 p.least)) j)) (upd (upd h P (.cells (cat i1 ((List.replicate j 65535).set 0 p.least)) j)) q (.cells [.nils, .int .i64 0] 2)) := ⟨.nils, _, Grow.nil, Wr.nils, hq, rfl⟩
  refine (hAdd_spec i0 (by simp) (by omega) (fun k k0 hk => by simp at hk) 0 p.least).use ?_
  rintro _ H2 ⟨rfl, l1, hp1, hh1, i1'⟩
  have hl1 : l1 = [⟨p.least, 0, 0⟩] := List.perm_singleton.1 hp1
  subst hl1
  have st := RkIn.start ok (show 0 < j by omega) hl.2
  simp only [go_sem, Int.reduceEq, Int.reduceAdd, Int.reduceSub, Int.reduceMul, Nat.reduceLT, Int.reduceLT, Int.reduceLE, Int.reduceToNat, Nat.reduceAdd, Nat.reduceSub, Nat.reduceMul, Nat.reduceLeDiff, reduceCtorEq]
  have hPh : ∀ o, (upd h P o) P = some o := fun o => upd_same
  refine loop_st d18_1 (fun x : List Int × List Jb × Int => (2 * x.1.sum + x.2.1.length).toNat) (fun x s => s) (fun x H => RkIn j (pstep p f) p.least x.1 x.2.1 x.2.2 ∧ Hp x.2.1 ∧ HIn q x.2.2 x.2.1 (upd h P (.cells (cat i1 x.1) j)) H) (_, _, _) rfl ⟨st, hh1, i1'⟩ ?_
  rintro K2 ⟨L, l, c⟩ H3 ⟨r3, hh3, i3⟩ hK2
  simp only at r3 hh3 i3 hK2
  simp only [go_sem, Int.reduceEq, Int.reduceAdd, Int.reduceSub, Int.reduceMul, Nat.reduceLT, Int.reduceLT, Int.reduceLE, Int.reduceToNat, Nat.reduceAdd, Nat.reduceSub, Nat.reduceMul, Nat.reduceLeDiff, reduceCtorEq, d18_1]
  have hsum := lo_nn (by omega) r3.lo
  have hc0 := r3.cnt
  have hc1 := r3.c1
  refine (hTake_spec i3 (by omega) hh3).use ?_
  rintro _ H4 (⟨rfl, rfl, rfl⟩ | ⟨x1, l4, rfl, hp4, hmin, hh4, i4⟩)
  · simp only [go_sem, Int.reduceEq, Int.reduceAdd, Int.reduceSub, Int.reduceMul, Nat.reduceLT, Int.reduceLT, Int.reduceLE, Int.reduceToNat, Nat.reduceAdd, Nat.reduceSub, Nat.reduceMul, Nat.reduceLeDiff, reduceCtorEq]
    refine frz_id ?_
    simp only [go_sem, Int.reduceEq, Int.reduceAdd, Int.reduceSub, Int.reduceMul, Nat.reduceLT, Int.reduceLT, Int.reduceLE, Int.reduceToNat, Nat.reduceAdd, Nat.reduceSub, Nat.reduceMul, Nat.reduceLeDiff, reduceCtorEq]
    have hPs : Sub h (upd h P (.cells (cat i1 L) j)) := Sub.upd (Sub.refl h) hP
    have blkP := i3.sub P _ (upd_same (h := h) (x := P))
    refine hQ _ _ _ _ h [.ro (cat i1 L) L.length false, .int .i64 0] (.inr rfl) rfl (FzH.sub (Sub.trans hPs i3.sub)) (.cons ?_ (.cons (.refl _) .nil)) ⟨rfl, L, rfl, r3.len, r3.least ok, r3.lo⟩
    rw [r3.len]
    refine .sl (cs := cat i1 L) (tot := j) (cat i1 L).length blkP hP (by simp) ?_ (by simp)
    rw [List.drop_zero, List.take_length]; exact .refl _ _ _
  have hx1 := r3.nn x1 (hp4.mem_iff.2 (by simp))
  obtain ⟨pn, pr, pm⟩ := r3.pop hp4 (nbsL (j : Int) f x1.node)
  obtain ⟨i, hi⟩ : ∃ i : Nat, x1.node = (i : Int) := ⟨x1.node.toNat, by omega⟩
  have hti : x1.node.toNat = i := by omega
  rw [hti] at pn pr pm
  have blkP := i4.sub P _ (upd_same (h := h) (x := P))
  have hiL : i < L.length := by rw [r3.len]; exact pn
  have rdi := own_rd blkP hiL
  have hij : (i : Int) < (j : Int) := by omega
  simp only [go_sem, Int.reduceEq, Int.reduceAdd, Int.reduceSub, Int.reduceMul, Nat.reduceLT, Int.reduceLT, Int.reduceLE, Int.reduceToNat, Nat.reduceAdd, Nat.reduceSub, Nat.reduceMul, Nat.reduceLeDiff, reduceCtorEq, hi, hij, blkP, rdi]
  by_cases hgt : rk L i < x1.rank
  · simp only [go_sem, Int.reduceEq, Int.reduceAdd, Int.reduceSub, Int.reduceMul, Nat.reduceLT, Int.reduceLT, Int.reduceLE, Int.reduceToNat, Nat.reduceAdd, Nat.reduceSub, Nat.reduceMul, Nat.reduceLeDiff, reduceCtorEq, hgt]
    have hl4 := hp4.length_eq
    simp only [List.length_cons] at hl4
    refine hK2 (L, l4, c) _ _ (by simp only; omega) ?_ ⟨r3.skip hp4 (by rw [hti]; exact hgt), hh4, i4⟩
    simp only [go_sem, Int.reduceEq, Int.reduceAdd, Int.reduceSub, Int.reduceMul, Nat.reduceLT, Int.reduceLT, Int.reduceLE, Int.reduceToNat, Nat.reduceAdd, Nat.reduceSub, Nat.reduceMul, Nat.reduceLeDiff, reduceCtorEq, d18_1]
  simp only [go_sem, Int.reduceEq, Int.reduceAdd, Int.reduceSub, Int.reduceMul, Nat.reduceLT, Int.reduceLT, Int.reduceLE, Int.reduceToNat, Nat.reduceAdd, Nat.reduceSub, Nat.reduceMul, Nat.reduceLeDiff, reduceCtorEq, hgt]
  have hk4 : LIn x id (j : Int) f H4 := k.sub (Sub.trans (Sub.upd (Sub.refl h) hP) i4.sub)
  have hre : x1.rank = rk L i := by omega
  refine (kNbs_spec hk4 (by omega) (i : Int)).use ?_
  have hlab := pm.lab
  have hR : 0 ≤ rk L i ∧ rk L i ≤ 65535 := ⟨by have := hlab.lo i; omega, hlab.top i⟩
  rw [hi] at pm
  have hnb : ∀ jj (hjj : jj < (nbsL (j : Int) f (i : Int)).length), ∃ kk : Nat, (nbsL (j : Int) f (i : Int))[jj] = (kk : Int) ∧ kk < j ∧ kk ≠ i := fun jj hjj => by
    obtain ⟨⟨a1, a2⟩, a3⟩ := mem_nbs.1 (List.getElem_mem hjj)
    obtain ⟨kk, e⟩ : ∃ kk : Nat, (nbsL (j : Int) f (i : Int))[jj] = (kk : Int) := ⟨((nbsL (j : Int) f (i : Int))[jj]).toNat, by omega⟩
    rw [e] at a1 a2 a3
    refine ⟨kk, e, by omega, ?_⟩
    rintro rfl
    obtain ⟨cc, hcc⟩ := (cost_link hij a2).1 a3
    have := hdom _ _ hcc
    unfold ofP at this; simp only at this; omega
  have hne : ∀ b, b < j → b ≠ 0 → (b : Int) ∉ nbsL (j : Int) f (i : Int) → ∀ r, pstep p f i r b = 65535 := fun b hb _ hm r => by
    unfold pstep byS
    cases g : alook f (ofP i b) with
    | none => rfl
    | some cc => exact absurd (mem_nbs.2 ⟨⟨by omega, by omega⟩, (cost_link hij (by omega)).2 ⟨cc, g⟩⟩) hm
  have hm0 : (2 * L.sum + (l4.length : Int)) < 2 * L.sum + l.length := by
    have := hp4.length_eq
    simp only [List.length_cons] at this; omega
  have hnbl : (nbsL (j : Int) f (i : Int)).length ≤ j := by
    unfold nbsL
    exact Nat.le_trans (List.length_filter_le _ _) (by simp)
  generalize nbsL (j : Int) f (i : Int) = nb at *
  rw [hre]
  generalize hRR : rk L i = R at *
  simp only [go_sem, Int.reduceEq, Int.reduceAdd, Int.reduceSub, Int.reduceMul, Nat.reduceLT, Int.reduceLT, Int.reduceLE, Int.reduceToNat, Nat.reduceAdd, Nat.reduceSub, Nat.reduceMul, Nat.reduceLeDiff, reduceCtorEq]
  refine loop_st d18_2 (fun x : Nat × List Int × List Jb × Int => nb.length - x.1) (fun x s => s.set 58 (.int .i64 (x.1 : Int)))
    (fun x H => x.1 ≤ nb.length ∧ RkM j (pstep p f) p.least i nb x.1 x.2.1 x.2.2.1 x.2.2.2 (2 * L.sum + l4.length) ∧ rk x.2.1 i = R ∧ Hp x.2.2.1 ∧ HIn q x.2.2.2 x.2.2.1 (upd h P (.cells (cat i1 x.2.1) j)) H) (0, L, l4, c) ?_ ⟨Nat.zero_le _, pm, hRR, hh4, i4⟩ ?_
  · (simp only [go_sem, Int.reduceEq, Int.reduceAdd, Int.reduceSub, Int.reduceMul, Nat.reduceLT, Int.reduceLT, Int.reduceLE, Int.reduceToNat, Nat.reduceAdd, Nat.reduceSub, Nat.reduceMul, Nat.reduceLeDiff, reduceCtorEq, d18_2] <;> rfl)
  rintro K5 ⟨jj, M, l5, c5⟩ H5 ⟨hjj, m5, hR5, hh5, i5⟩ hK5
  simp only at hjj m5 hR5 hh5 i5 hK5
  simp only [go_sem, Int.reduceEq, Int.reduceAdd, Int.reduceSub, Int.reduceMul, Nat.reduceLT, Int.reduceLT, Int.reduceLE, Int.reduceToNat, Nat.reduceAdd, Nat.reduceSub, Nat.reduceMul, Nat.reduceLeDiff, reduceCtorEq, d18_2]
  have hadd5 := wadd1 (k := jj) (by omega)
  by_cases hlt5 : jj < nb.length
  · obtain ⟨kk, hkk, hkj, hki⟩ := hnb jj hlt5
    have blk5 := i5.sub P _ (upd_same (h := h) (x := P))
    have hk5 : LIn x id (j : Int) f H5 := k.sub (Sub.trans (Sub.upd (Sub.refl h) hP) i5.sub)
    have hkM : kk < M.length := by rw [m5.len]; exact hkj
    have rd5 := own_rd blk5 hkM
    have hkj' : (kk : Int) < (j : Int) := by omega
    simp only [go_sem, Int.reduceEq, Int.reduceAdd, Int.reduceSub, Int.reduceMul, Nat.reduceLT, Int.reduceLT, Int.reduceLE, Int.reduceToNat, Nat.reduceAdd, Nat.reduceSub, Nat.reduceMul, Nat.reduceLeDiff, reduceCtorEq, hlt5, rdI hlt5, hkk]
    refine (iby_spec hk5 hpos h1 h2 (a := i) (b := kk) hij hkj' R hR (fun cc g1 g2 => oneB_iff.2 ⟨by simp only; omega, by simp only; omega, hR.1, hR.2, g1, by simp only; omega⟩)).use ?_
    have hst : byS p.zf p.zs p.least f i R kk = pstep p f i R kk := rfl
    rw [hst]
    have hsum5 := lo_nn (by omega) m5.lab.lo
    have hc50 := m5.cnt
    have hc51 := m5.c1
    by_cases hlt6 : pstep p f i R kk < rk M kk
    · have hle6 : kk + 1 ≤ (cat i1 M).length := by rw [cat_len i1_len]; omega
      have hcut6 := set_ints hkM (pstep p f i R kk)
      have i6 := i5.poke (o := .cells (cat i1 (M.set kk (pstep p f i R kk))) j) (upd_same (h := h) (x := P))
      rw [upd_upd] at i6
      simp only [go_sem, Int.reduceEq, Int.reduceAdd, Int.reduceSub, Int.reduceMul, Nat.reduceLT, Int.reduceLT, Int.reduceLE, Int.reduceToNat, Nat.reduceAdd, Nat.reduceSub, Nat.reduceMul, Nat.reduceLeDiff, reduceCtorEq, hkj', blk5, rd5, hlt6, hle6, hcut6]
      refine (hAdd_spec i6 (by omega) (by omega) hh5 (kk : Int) (pstep p f i R kk)).use ?_
      rintro _ H7 ⟨rfl, l7, hp7, hh7, i7⟩
      simp only [go_sem, Int.reduceEq, Int.reduceAdd, Int.reduceSub, Int.reduceMul, Nat.reduceLT, Int.reduceLT, Int.reduceLE, Int.reduceToNat, Nat.reduceAdd, Nat.reduceSub, Nat.reduceMul, Nat.reduceLeDiff, reduceCtorEq, hadd5]
      rw [← hR5] at hp7 i7 hlt6
      refine hK5 (jj + 1, M.set kk (pstep p f i (rk M i) kk), l7, c5 + 1) _ _ (by simp only; omega) ?_ ⟨hlt5, m5.push ok hlt5 hkk pn hkj hki hlt6 hp7, ?_, hh7, i7⟩
      · simp only [go_sem, Int.reduceEq, Int.reduceAdd, Int.reduceSub, Int.reduceMul, Nat.reduceLT, Int.reduceLT, Int.reduceLE, Int.reduceToNat, Nat.reduceAdd, Nat.reduceSub, Nat.reduceMul, Nat.reduceLeDiff, reduceCtorEq, d18_2]
      · rw [rk_set hkM]; simp only [if_neg (Ne.symm hki)]; exact hR5
    · simp only [go_sem, Int.reduceEq, Int.reduceAdd, Int.reduceSub, Int.reduceMul, Nat.reduceLT, Int.reduceLT, Int.reduceLE, Int.reduceToNat, Nat.reduceAdd, Nat.reduceSub, Nat.reduceMul, Nat.reduceLeDiff, reduceCtorEq, hkj', blk5, rd5, hlt6, hadd5]
      refine hK5 (jj + 1, M, l5, c5) _ _ (by simp only; omega) ?_ ⟨hlt5, m5.keep hlt5 hkk (by rw [hR5]; omega), hR5, hh5, i5⟩
      simp only [go_sem, Int.reduceEq, Int.reduceAdd, Int.reduceSub, Int.reduceMul, Nat.reduceLT, Int.reduceLT, Int.reduceLE, Int.reduceToNat, Nat.reduceAdd, Nat.reduceSub, Nat.reduceMul, Nat.reduceLeDiff, reduceCtorEq, d18_2]
  · have hjl : jj = nb.length := by omega
    subst hjl
    simp only [go_sem, Int.reduceEq, Int.reduceAdd, Int.reduceSub, Int.reduceMul, Nat.reduceLT, Int.reduceLT, Int.reduceLE, Int.reduceToNat, Nat.reduceAdd, Nat.reduceSub, Nat.reduceMul, Nat.reduceLeDiff, reduceCtorEq, hlt5]
    refine frz_id ?_
    simp only [go_sem, Int.reduceEq, Int.reduceAdd, Int.reduceSub, Int.reduceMul, Nat.reduceLT, Int.reduceLT, Int.reduceLE, Int.reduceToNat, Nat.reduceAdd, Nat.reduceSub, Nat.reduceMul, Nat.reduceLeDiff, reduceCtorEq]
    have hmeas := m5.meas
    have hsum5 := lo_nn (by omega) m5.lab.lo
    refine hK2 (M, l5, c5) _ _ (by simp only; omega) ?_ ⟨m5.turn fun b hb hb0 hm => hne b hb hb0 hm _, hh5, i5⟩
    simp only [go_sem, Int.reduceEq, Int.reduceAdd, Int.reduceSub, Int.reduceMul, Nat.reduceLT, Int.reduceLT, Int.reduceLE, Int.reduceToNat, Nat.reduceAdd, Nat.reduceSub, Nat.reduceMul, Nat.reduceLeDiff, reduceCtorEq, d18_1]

end Go.Proofs.Ytaeppifdbcoipaa
