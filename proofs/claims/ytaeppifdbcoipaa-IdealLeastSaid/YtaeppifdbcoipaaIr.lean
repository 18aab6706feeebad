/-
  IdealHeaps.
-/
import Derived.Test.YtaeppifdbcoipaaIq
namespace Go.Proofs.Ytaeppifdbcoipaa
open Go E
set_option linter.unusedVariables false
set_option linter.unusedSimpArgs false
set_option maxRecDepth 100000

def bo1 (b : Bool) : List AV := [.bool b]
theorem bo1_len (b : Bool) : (bo1 b).length = 1 := rfl
theorem rdBo {h : AHeap} {l : List Bool} {k : Nat} (hk : k < l.length) : aload h (.rp ((cat bo1 l).drop k)) = some (.bool l[k]) := by
  have := rd_first (h := h) bo1_len (by omega) hk
  rw [Nat.mul_one] at this
  rw [this]; rfl

/-- One of them taken out, on a slice of one's own. -/
def outR (l : List Rj) (a : Nat) : List Rj := l.take a ++ l.drop (a + 1)
theorem outR_len {l : List Rj} {a : Nat} (ha : a < l.length) : (outR l a).length + 1 = l.length := by simp [outR]; omega
theorem outR_perm {l : List Rj} {a : Nat} (ha : a < l.length) : l.Perm (l[a] :: outR l a) := by
  have : l = l.take a ++ l[a] :: l.drop (a + 1) := by rw [← List.drop_eq_getElem_cons ha, List.take_append_drop]
  unfold outR
  conv => lhs; rw [this]
  exact List.perm_middle

theorem encR_sca (x : Rj) : (encR x).all scalar = true := rfl

theorem cut_at {l : List Rj} {id cap tot a : Nat} {junk : List AV} {H : AHeap} (hid : H id = some (.cells (cat encR l ++ junk) tot)) (ha : a < l.length) (hcap : l.length ≤ cap) :
    sliceA 2 (.sl id 0 l.length cap) none (some (.int .i64 (a : Int))) none = some (.sl id 0 a cap) ∧ acells H 2 (.sl id 0 a cap) = some (cat encR (l.take a)) ∧
    ∃ y, sliceA 2 (.sl id 0 l.length cap) (some (.int .i64 ((a + 1 : Nat) : Int))) none none = some y ∧ slen y = l.length - (a + 1) ∧ ∀ H', H' id = H id → acells H' 2 y = some (cat encR (l.drop (a + 1))) := by
  have hcl := cat_len encR_len
  have e0 : cat encR l ++ junk = cat encR (l.take a) ++ (cat encR (l.drop a) ++ junk) := by rw [← List.append_assoc, ← cat_append, List.take_append_drop]
  refine ⟨own_hi (by omega), part_at (P := []) (Q := cat encR (l.take a)) (R := cat encR (l.drop a) ++ junk) (by rw [hid, e0]; rfl) rfl (by rw [hcl, List.length_take]; omega), ?_⟩
  by_cases hc : a + 1 < cap
  · refine ⟨_, own_lo hc (by omega) hcap, by simp [slen], fun H' h' => ?_⟩
    refine part_at (P := cat encR (l.take (a + 1))) (Q := cat encR (l.drop (a + 1))) (R := junk) (tot := tot) ?_ (by rw [hcl, List.length_take]; omega) (by rw [hcl, List.length_drop])
    rw [h', hid, ← List.append_assoc, ← cat_append, List.take_append_drop]
  · have h1 : cap = l.length := by omega
    have h2 : a + 1 = l.length := by omega
    subst h1
    rw [h2]
    refine ⟨_, own_lo0, by simp [slen], fun H' h' => ?_⟩
    refine part_at (P := []) (Q := []) (R := cat encR l ++ junk) (tot := tot) (by rw [h', hid]; rfl) rfl ?_ |>.trans ?_
    · simp
    · rw [List.drop_of_length_le (Nat.le_refl _)]; rfl

/-- What both hold is the same. -/
structure Both (J : List Jb) (D : List Rj) (c : Int) (i : Nat) : Prop where
  perm : (J.map fun x => (x.node, x.rank)).Perm D
  hp : Hp J
  c0 : 0 ≤ c
  ci : c ≤ i
  len : (J.length : Int) ≤ c

theorem Both.take {J J' : List Jb} {D : List Rj} {c : Int} {i A : Nat} {x : Jb} (b : Both J D c i) (hp : J.Perm (x :: J')) (hm : ∀ y ∈ J, ¬ ltJ y x) (hh : Hp J') (hA : A < D.length) (hmin : ∀ y ∈ D, ¬ ltR y D[A]) : x.node = D[A].1 ∧ x.rank = D[A].2 ∧ Both J' (outR D A) c i := by
  have h1 : (x.node, x.rank) ∈ D := b.perm.mem_iff.1 (List.mem_map.2 ⟨x, hp.mem_iff.2 (by simp), rfl⟩)
  obtain ⟨y, hy, ey⟩ := List.mem_map.1 (b.perm.mem_iff.2 (List.getElem_mem hA))
  have h2 := hm y hy
  have h3 := hmin _ h1
  have e1 : y.node = D[A].1 := by rw [← ey]
  have e2 : y.rank = D[A].2 := by rw [← ey]
  unfold ltJ at h2
  unfold ltR at h3
  simp only at h3
  have e3 : x.rank = D[A].2 := by omega
  have e4 : x.node = D[A].1 := by omega
  have hl := hp.length_eq
  simp only [List.length_cons] at hl
  have h4 := b.len
  refine ⟨e4, e3, ⟨?_, hh, b.c0, b.ci, by omega⟩⟩
  have p1 := (hp.map fun x => (x.node, x.rank)).symm.trans (b.perm.trans (outR_perm hA))
  have e5 : ((x.node, x.rank) : Rj) = D[A] := by rw [e3, e4]
  rw [List.map_cons, e5] at p1
  exact p1.cons_inv

theorem Both.next {J : List Jb} {D : List Rj} {c : Int} {i : Nat} (b : Both J D c i) : Both J D c (i + 1) := ⟨b.perm, b.hp, b.c0, by have := b.ci; omega, b.len⟩

theorem Both.add {J J' : List Jb} {D : List Rj} {c : Int} {i : Nat} (b : Both J D c i) {n r : Int} (hp : J'.Perm (⟨r, n, c⟩ :: J)) (hh : Hp J') : Both J' (D ++ [(n, r)]) (c + 1) (i + 1) := by
  have hl := hp.length_eq
  simp only [List.length_cons] at hl
  have h4 := b.len
  have h0 := b.c0
  have h1 := b.ci
  refine ⟨?_, hh, by omega, by omega, by omega⟩
  have p1 := hp.map fun x => ((x.node, x.rank) : Rj)
  rw [List.map_cons] at p1
  exact p1.trans ((b.perm.cons (n, r)).trans (List.perm_append_singleton _ _).symm)

theorem E.Grow.appendW {h0 h : AHeap} {esz n b m : Nat} {v y : AV} {cs ys : List AV} {K : AV → AHeap → Prop} (c : Grow h0 esz v cs n h) (w : Wr v ∨ n = 0) (hy : E.acells h esz y = some ys) (hm : E.slen y = m) (hl : ys.length = m * esz) (hs : ys.all scalar = true) (hb : (n + m) * b ≤ 70368744177664)
    (k : ∀ v' h', Grow h0 esz v' (cs ++ ys) (n + m) h' → (Wr v' ∨ n + m = 0) → K v' h') : appendA h esz b v y K := by
  have hsz : (cs ++ ys).length = (n + m) * esz := by rw [List.length_append, c.size, hl, Nat.add_mul]
  have hsc : (cs ++ ys).all scalar = true := by rw [List.all_append, c.sca, hs]; rfl
  by_cases hm0 : m = 0
  · subst hm0
    have : ys = [] := by simpa using hl
    subst this
    exact ⟨cs, [], c.acells, hy, by rw [c.slen, hm]; exact hb, fun _ => k v h (by simpa using c) w, fun e => absurd hm e⟩
  · exact c.appendS hy hm hm0 hl hs hb fun id cap junk tot hcap hT hid => k _ _ ⟨hsz, hsc, .inr (.inr ⟨id, cap, junk, tot, rfl, hcap, hT, hid, rfl⟩)⟩ (.inl Wr.sl)

theorem rtake_none {u : AV} {h : AHeap} (hl : lenA false u = some (.int .i64 ((0 : Nat) : Int))) : PureA Try.prog 27 [u] h (.int .i64 (-1)) := by
  (refine PureA.enter (ac := c27) (rs := r27) Try.func27 rfl (by decide) c27_ok r27_ok ?_; intro Q hQ; simp only [go_sem, Int.reduceEq, Int.reduceAdd, Int.reduceSub, Int.reduceMul, Nat.reduceLT, Int.reduceLT, Int.reduceLE, Int.reduceToNat, Nat.reduceAdd, Nat.reduceSub, Nat.reduceMul, Nat.reduceLeDiff, reduceCtorEq, c27, Try.ntmps27])
  refine loop_st d27_0 (fun _ : Unit => 0) (fun _ s => (s.set 4 (.int .i64 0)).set 3 (.int .i64 (-1))) (fun _ H => H = h) () ?_ rfl ?_
  · (simp only [go_sem, Int.reduceEq, Int.reduceAdd, Int.reduceSub, Int.reduceMul, Nat.reduceLT, Int.reduceLT, Int.reduceLE, Int.reduceToNat, Nat.reduceAdd, Nat.reduceSub, Nat.reduceMul, Nat.reduceLeDiff, reduceCtorEq, d27_0] <;> rfl)
  rintro N _ H1 eH hN
  rw [eH]
  simp only [go_sem, Int.reduceEq, Int.reduceAdd, Int.reduceSub, Int.reduceMul, Nat.reduceLT, Int.reduceLT, Int.reduceLE, Int.reduceToNat, Nat.reduceAdd, Nat.reduceSub, Nat.reduceMul, Nat.reduceLeDiff, reduceCtorEq, d27_0, hl, Int.natCast_zero]
  refine frz_id ?_
  simp only [go_sem, Int.reduceEq, Int.reduceAdd, Int.reduceSub, Int.reduceMul, Nat.reduceLT, Int.reduceLT, Int.reduceLE, Int.reduceToNat, Nat.reduceAdd, Nat.reduceSub, Nat.reduceMul, Nat.reduceLeDiff, reduceCtorEq]
  (refine hQ _ _ _ _ _ (by first | exact .inr rfl | exact .inl rfl) rfl (by first | exact FzH.refl _ | exact FzH.sub (by (repeat' (first | exact Sub.refl _ | assumption | (refine Sub.upd ?_ (by first | assumption | (simp only [*]; done) | exact Sub.isNone (by assumption) (by assumption) | exact Sub.isNone (by assumption) (by simp only [*]))))))) (FzL.refl _ _ _) ?_; try (simp only [go_sem, Int.reduceEq, Int.reduceAdd, Int.reduceSub, Int.reduceMul, Nat.reduceLT, Int.reduceLT, Int.reduceLE, Int.reduceToNat, Nat.reduceAdd, Nat.reduceSub, Nat.reduceMul, Nat.reduceLeDiff, reduceCtorEq]))

set_option maxHeartbeats 4000000 in
theorem iheaps_spec (l : List Rj) (ts : List Bool) (h : AHeap) (hn : l.length ≤ 9223372036854775807) (ht : ts.length ≤ 9223372036854775807) : PureA Try.prog 5 [.ro (cat encR l) l.length false, .ro (cat bo1 ts) ts.length false] h (.bool true) := by
  (refine PureA.enter (ac := c5) (rs := r5) Try.func5 rfl (by decide) c5_ok r5_ok ?_; intro Q hQ; simp only [go_sem, Int.reduceEq, Int.reduceAdd, Int.reduceSub, Int.reduceMul, Nat.reduceLT, Int.reduceLT, Int.reduceLE, Int.reduceToNat, Nat.reduceAdd, Nat.reduceSub, Nat.reduceMul, Nat.reduceLeDiff, reduceCtorEq, c5, Try.ntmps5])
  intro q hq
  have i0 : HIn q 0 [] h (upd h q (.cells [.nils, .int .i64 0] 2)) := ⟨.nils, _, Grow.nil, Wr.nils, hq, rfl⟩
  refine loop_sh d5_0 (fun x : Nat × AV × List Jb × List Rj × Int => 60 - x.1) (fun x s => (s.set 7 (.int .i64 (x.1 : Int))).set 6 x.2.1)
    (fun x H => x.1 ≤ 60 ∧ x.1 ≤ l.length ∧ Both x.2.2.1 x.2.2.2.1 x.2.2.2.2 x.1 ∧ ∃ H7, HIn q x.2.2.2.2 x.2.2.1 h H7 ∧ Grow H7 2 x.2.1 (cat encR x.2.2.2.1) x.2.2.2.1.length H ∧ (Wr x.2.1 ∨ x.2.2.2.1.length = 0)) (0, .nils, [], [], 0) ?_ ⟨by simp, by simp, ⟨.refl _, fun k _ hk => by simp at hk, by simp, by simp, by simp⟩, _, i0, Grow.nil, .inl Wr.nils⟩ ?_
  · (simp only [go_sem, Int.reduceEq, Int.reduceAdd, Int.reduceSub, Int.reduceMul, Nat.reduceLT, Int.reduceLT, Int.reduceLE, Int.reduceToNat, Nat.reduceAdd, Nat.reduceSub, Nat.reduceMul, Nat.reduceLeDiff, reduceCtorEq, d5_0] <;> rfl)
  rintro N ⟨k, u, J, D, c⟩ H1 ⟨hk, hkl, both, H7, i7, g7, w7⟩ hN
  simp only at hk hkl both i7 g7 w7 hN
  simp only [go_sem, Int.reduceEq, Int.reduceAdd, Int.reduceSub, Int.reduceMul, Nat.reduceLT, Int.reduceLT, Int.reduceLE, Int.reduceToNat, Nat.reduceAdd, Nat.reduceSub, Nat.reduceMul, Nat.reduceLeDiff, reduceCtorEq, d5_0]
  have hadd := wadd1 (k := k) (by omega)
  have hJD := both.perm.length_eq
  rw [List.length_map] at hJD
  have hb1 := both.ci
  have hb2 := both.len
  have hb3 := both.c0
  by_cases hlt : k < l.length ∧ (k : Int) < 60
  · obtain ⟨h1, h2⟩ := hlt
    simp only [go_sem, Int.reduceEq, Int.reduceAdd, Int.reduceSub, Int.reduceMul, Nat.reduceLT, Int.reduceLT, Int.reduceLE, Int.reduceToNat, Nat.reduceAdd, Nat.reduceSub, Nat.reduceMul, Nat.reduceLeDiff, reduceCtorEq, h1, h2]
    by_cases htk : ∃ hk : k < ts.length, ts[k] = true
    · obtain ⟨hkt, htt⟩ := htk
      simp only [go_sem, Int.reduceEq, Int.reduceAdd, Int.reduceSub, Int.reduceMul, Nat.reduceLT, Int.reduceLT, Int.reduceLE, Int.reduceToNat, Nat.reduceAdd, Nat.reduceSub, Nat.reduceMul, Nat.reduceLeDiff, reduceCtorEq, hkt, rdBo hkt, htt]
      obtain ⟨hb, gb, ib⟩ := i7.swap' g7
      refine (hTake_spec ib (by omega) both.hp).use ?_
      rintro _ H4 (⟨rfl, rfl, eH⟩ | ⟨x, J', rfl, hp, hm, hh, i4⟩)
      · have hD0 : D = [] := List.length_eq_zero_iff.1 (by simpa using hJD.symm)
        subst hD0
        rw [eH]
        have hl0 := g7.len
        simp only [go_sem, Int.reduceEq, Int.reduceAdd, Int.reduceSub, Int.reduceMul, Nat.reduceLT, Int.reduceLT, Int.reduceLE, Int.reduceToNat, Nat.reduceAdd, Nat.reduceSub, Nat.reduceMul, Nat.reduceLeDiff, reduceCtorEq]
        refine (rtake_none hl0).use ?_
        simp only [go_sem, Int.reduceEq, Int.reduceAdd, Int.reduceSub, Int.reduceMul, Nat.reduceLT, Int.reduceLT, Int.reduceLE, Int.reduceToNat, Nat.reduceAdd, Nat.reduceSub, Nat.reduceMul, Nat.reduceLeDiff, reduceCtorEq]
        refine (hLen_spec ib).use ?_
        simp only [go_sem, Int.reduceEq, Int.reduceAdd, Int.reduceSub, Int.reduceMul, Nat.reduceLT, Int.reduceLT, Int.reduceLE, Int.reduceToNat, Nat.reduceAdd, Nat.reduceSub, Nat.reduceMul, Nat.reduceLeDiff, reduceCtorEq, hl0, hJD, List.length_nil, Int.natCast_zero, hadd]
        refine hN (k + 1, u, [], [], c) _ _ _ (by simp only; omega) ?_ (.refl _) ⟨by simp only; omega, h1, both.next, H7, i7, g7, w7⟩
        simp only [go_sem, Int.reduceEq, Int.reduceAdd, Int.reduceSub, Int.reduceMul, Nat.reduceLT, Int.reduceLT, Int.reduceLE, Int.reduceToNat, Nat.reduceAdd, Nat.reduceSub, Nat.reduceMul, Nat.reduceLeDiff, reduceCtorEq, d5_0]
      · have hpl := hp.length_eq
        simp only [List.length_cons] at hpl
        obtain ⟨H8, i8, g8⟩ := HIn.swap gb i4
        rcases g8.how with ⟨_, e, _⟩ | ⟨e, _⟩ | ⟨id, cap, junk, tot, eu, hcap, hT, hid, e4⟩
        · omega
        · exact absurd e (w7.resolve_right (by omega) _ _ _)
        subst eu
        have blk : H4 id = some (.cells (cat encR D ++ junk) tot) := by rw [e4]; exact upd_same
        simp only [go_sem, Int.reduceEq, Int.reduceAdd, Int.reduceSub, Int.reduceMul, Nat.reduceLT, Int.reduceLT, Int.reduceLE, Int.reduceToNat, Nat.reduceAdd, Nat.reduceSub, Nat.reduceMul, Nat.reduceLeDiff, reduceCtorEq]
        refine (rtake_own blk (by omega) (by omega)).use ?_
        rintro _ _ ⟨eH, A, hA, rfl, hmin⟩
        rw [eH]
        obtain ⟨e1, e2, both'⟩ := both.take hp hm hh hA hmin
        have a0 : (cat encR D ++ junk)[A * 2]? = some (.int .i64 D[A].1) := by
          rw [List.getElem?_append_left (by rw [cat_len encR_len]; omega), cat_get0 encR_len (by omega) hA]; rfl
        have a1 : (cat encR D ++ junk)[A * 2 + 1]? = some (.int .i64 D[A].2) := by
          rw [List.getElem?_append_left (by rw [cat_len encR_len]; omega), cat_get encR_len hA (by omega)]; rfl
        have hA0 : (0 : Int) ≤ (A : Int) := by omega
        have hA' : (A : Int) < (D.length : Int) := by omega
        have haddA := wadd1 (k := A) (by omega)
        obtain ⟨s1, c1, y, s2, sl2, c2⟩ := cut_at blk hA hcap
        simp only [go_sem, Int.reduceEq, Int.reduceAdd, Int.reduceSub, Int.reduceMul, Nat.reduceLT, Int.reduceLT, Int.reduceLE, Int.reduceToNat, Nat.reduceAdd, Nat.reduceSub, Nat.reduceMul, Nat.reduceLeDiff, reduceCtorEq, hA0, hA', blk, a0, a1, e1, e2, s1, haddA, s2]
        refine E.Grow.appendW (h0 := H4) (n := 0) (m := A) (Grow.lit rfl rfl) (.inr rfl) c1 rfl (by rw [cat_len encR_len, List.length_take]; omega) (cat_sca encR_sca _) (by omega) fun v1 h1' g1 w1 => ?_
        simp only [go_sem, Int.reduceEq, Int.reduceAdd, Int.reduceSub, Int.reduceMul, Nat.reduceLT, Int.reduceLT, Int.reduceLE, Int.reduceToNat, Nat.reduceAdd, Nat.reduceSub, Nat.reduceMul, Nat.reduceLeDiff, reduceCtorEq]
        refine E.Grow.appendW (m := D.length - (A + 1)) g1 (by rcases w1 with w | w; exact .inl w; exact .inr w) (c2 h1' (g1.keep blk |>.trans blk.symm)) sl2 (by rw [cat_len encR_len, List.length_drop]) (cat_sca encR_sca _) (by omega) fun v2 h2' g2 w2 => ?_
        have hol := outR_len hA
        have eo : [] ++ cat encR (D.take A) ++ cat encR (D.drop (A + 1)) = cat encR (outR D A) := by unfold outR; rw [cat_append, List.nil_append]
        have en : 0 + A + (D.length - (A + 1)) = (outR D A).length := by omega
        rw [eo, en] at g2
        rw [en] at w2
        obtain ⟨hb', _, ib'⟩ := i4.swap' g2
        obtain ⟨H9, g9, s9⟩ := g2.rebase g8.sub
        have hl2 := g2.len
        have hJ2 : J'.length = (outR D A).length := by omega
        simp only [go_sem, Int.reduceEq, Int.reduceAdd, Int.reduceSub, Int.reduceMul, Nat.reduceLT, Int.reduceLT, Int.reduceLE, Int.reduceToNat, Nat.reduceAdd, Nat.reduceSub, Nat.reduceMul, Nat.reduceLeDiff, reduceCtorEq]
        refine (hLen_spec ib').use ?_
        simp only [go_sem, Int.reduceEq, Int.reduceAdd, Int.reduceSub, Int.reduceMul, Nat.reduceLT, Int.reduceLT, Int.reduceLE, Int.reduceToNat, Nat.reduceAdd, Nat.reduceSub, Nat.reduceMul, Nat.reduceLeDiff, reduceCtorEq, hl2, hJ2, hadd]
        refine hN (k + 1, v2, J', outR D A, c) _ _ H9 (by simp only; omega) ?_ (FzH.sub s9) ⟨by simp only; omega, h1, both'.next, H8, i8, g9, w2⟩
        simp only [go_sem, Int.reduceEq, Int.reduceAdd, Int.reduceSub, Int.reduceMul, Nat.reduceLT, Int.reduceLT, Int.reduceLE, Int.reduceToNat, Nat.reduceAdd, Nat.reduceSub, Nat.reduceMul, Nat.reduceLeDiff, reduceCtorEq, d5_0]
    · have htk' : (∃ hk : k < ts.length, ts[k] = false) ∨ ¬ k < ts.length := by
        by_cases g : k < ts.length
        · cases e : ts[k]
          · exact .inl ⟨g, e⟩
          · exact absurd ⟨g, e⟩ htk
        · exact .inr g
      have q0 : ∀ t : Rj, (encR t)[0]? = some (.int .i64 t.1) := fun _ => rfl
      have q1 : ∀ t : Rj, (encR t)[1]? = some (.int .i64 t.2) := fun _ => rfl
      have r0 : ∀ h', aload h' (.rp ((cat encR l).drop (k * 2))) = some (.int .i64 l[k].1) := fun h' => (rd_first (h := h') encR_len (by omega) h1).trans (q0 _)
      have r1 : ∀ h', aload h' (.rp (((cat encR l).drop (k * 2)).drop 1)) = some (.int .i64 l[k].2) := fun h' => (rd_cell (h := h') (off := 1) encR_len h1 (by omega)).trans (q1 _)
      have ra : ∀ h', aloads h' 2 (.rp ((cat encR l).drop (k * 2))) = some (encR l[k]) := fun h' => rd_all (h := h') encR_len h1
      obtain ⟨hb, gb, ib⟩ := i7.swap' g7
      rcases htk' with ⟨hkt, htt⟩ | hkt <;> (first | (simp only [go_sem, Int.reduceEq, Int.reduceAdd, Int.reduceSub, Int.reduceMul, Nat.reduceLT, Int.reduceLT, Int.reduceLE, Int.reduceToNat, Nat.reduceAdd, Nat.reduceSub, Nat.reduceMul, Nat.reduceLeDiff, reduceCtorEq, hkt, rdBo hkt, htt, h1, r0, r1]) | (simp only [go_sem, Int.reduceEq, Int.reduceAdd, Int.reduceSub, Int.reduceMul, Nat.reduceLT, Int.reduceLT, Int.reduceLE, Int.reduceToNat, Nat.reduceAdd, Nat.reduceSub, Nat.reduceMul, Nat.reduceLeDiff, reduceCtorEq, hkt, h1, r0, r1])) <;>
      ( refine (hAdd_spec ib (by omega) (by omega) both.hp l[k].1 l[k].2).use ?_
        rintro _ H5 ⟨rfl, J', hp, hh, i5⟩
        obtain ⟨H8, i8, g8⟩ := HIn.swap gb i5
        simp only [go_sem, Int.reduceEq, Int.reduceAdd, Int.reduceSub, Int.reduceMul, Nat.reduceLT, Int.reduceLT, Int.reduceLE, Int.reduceToNat, Nat.reduceAdd, Nat.reduceSub, Nat.reduceMul, Nat.reduceLeDiff, reduceCtorEq, h1, ra, encR_len, encR_sca]
        refine E.Grow.appendW (m := 1) (ys := encR l[k]) g8 w7 (by simp [E.acells, encR_len]) rfl rfl (encR_sca _) (by omega) fun v2 h2' g2 w2 => ?_
        have eo : cat encR D ++ encR l[k] = cat encR (D ++ [l[k]]) := by rw [cat_append]; simp [cat]
        have en : D.length + 1 = (D ++ [l[k]]).length := by simp
        rw [eo, en] at g2
        rw [en] at w2
        obtain ⟨hb', _, ib'⟩ := i8.swap' g2
        have hl2 := g2.len
        have hpl := hp.length_eq
        simp only [List.length_cons] at hpl
        have hJ2 : J'.length = (D ++ [l[k]]).length := by rw [← en]; omega
        simp only [go_sem, Int.reduceEq, Int.reduceAdd, Int.reduceSub, Int.reduceMul, Nat.reduceLT, Int.reduceLT, Int.reduceLE, Int.reduceToNat, Nat.reduceAdd, Nat.reduceSub, Nat.reduceMul, Nat.reduceLeDiff, reduceCtorEq]
        refine (hLen_spec ib').use ?_
        simp only [go_sem, Int.reduceEq, Int.reduceAdd, Int.reduceSub, Int.reduceMul, Nat.reduceLT, Int.reduceLT, Int.reduceLE, Int.reduceToNat, Nat.reduceAdd, Nat.reduceSub, Nat.reduceMul, Nat.reduceLeDiff, reduceCtorEq, hl2, hJ2, hadd]
        refine hN (k + 1, v2, J', D ++ [l[k]], c + 1) _ _ _ (by simp only; omega) ?_ (.refl _) ⟨by simp only; omega, h1, both.add hp hh, H8, i8, g2, w2⟩
        simp only [go_sem, Int.reduceEq, Int.reduceAdd, Int.reduceSub, Int.reduceMul, Nat.reduceLT, Int.reduceLT, Int.reduceLE, Int.reduceToNat, Nat.reduceAdd, Nat.reduceSub, Nat.reduceMul, Nat.reduceLeDiff, reduceCtorEq, d5_0] )
  · rcases (show (k < l.length ∧ ¬ (k : Int) < 60) ∨ ¬ k < l.length by omega) with ⟨h1, h2⟩ | h1 <;> (first | (simp only [go_sem, Int.reduceEq, Int.reduceAdd, Int.reduceSub, Int.reduceMul, Nat.reduceLT, Int.reduceLT, Int.reduceLE, Int.reduceToNat, Nat.reduceAdd, Nat.reduceSub, Nat.reduceMul, Nat.reduceLeDiff, reduceCtorEq, h1, h2]) | (simp only [go_sem, Int.reduceEq, Int.reduceAdd, Int.reduceSub, Int.reduceMul, Nat.reduceLT, Int.reduceLT, Int.reduceLE, Int.reduceToNat, Nat.reduceAdd, Nat.reduceSub, Nat.reduceMul, Nat.reduceLeDiff, reduceCtorEq, h1])) <;>
    ( refine frz_id ?_
      simp only [go_sem, Int.reduceEq, Int.reduceAdd, Int.reduceSub, Int.reduceMul, Nat.reduceLT, Int.reduceLT, Int.reduceLE, Int.reduceToNat, Nat.reduceAdd, Nat.reduceSub, Nat.reduceMul, Nat.reduceLeDiff, reduceCtorEq]
      refine (hAdd_nil 1 1 _).use ?_
      simp only [go_sem, Int.reduceEq, Int.reduceAdd, Int.reduceSub, Int.reduceMul, Nat.reduceLT, Int.reduceLT, Int.reduceLE, Int.reduceToNat, Nat.reduceAdd, Nat.reduceSub, Nat.reduceMul, Nat.reduceLeDiff, reduceCtorEq]
      refine (hTake_nil _).use ?_
      simp only [go_sem, Int.reduceEq, Int.reduceAdd, Int.reduceSub, Int.reduceMul, Nat.reduceLT, Int.reduceLT, Int.reduceLE, Int.reduceToNat, Nat.reduceAdd, Nat.reduceSub, Nat.reduceMul, Nat.reduceLeDiff, reduceCtorEq]
      refine (known31_spec _).use ?_
      simp only [go_sem, Int.reduceEq, Int.reduceAdd, Int.reduceSub, Int.reduceMul, Nat.reduceLT, Int.reduceLT, Int.reduceLE, Int.reduceToNat, Nat.reduceAdd, Nat.reduceSub, Nat.reduceMul, Nat.reduceLeDiff, reduceCtorEq]
      refine (hLen_nil _).use ?_
      simp only [go_sem, Int.reduceEq, Int.reduceAdd, Int.reduceSub, Int.reduceMul, Nat.reduceLT, Int.reduceLT, Int.reduceLE, Int.reduceToNat, Nat.reduceAdd, Nat.reduceSub, Nat.reduceMul, Nat.reduceLeDiff, reduceCtorEq]
      have sH := Sub.trans i7.sub g7.sub
      refine hQ _ _ _ _ _ (.inr rfl) rfl (FzH.sub sH) (FzL.refl _ _ _) rfl )

end Go.Proofs.Ytaeppifdbcoipaa
