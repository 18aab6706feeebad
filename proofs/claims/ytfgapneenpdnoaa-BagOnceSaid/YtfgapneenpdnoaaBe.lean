/-
  The bag: BagOnce on abstract values.
-/
import Derived.Test.YtfgapneenpdnoaaBd
namespace Go.Proofs.Ytfgapneenpdnoaa
open Go E
set_option linter.unusedVariables false
set_option linter.unusedSimpArgs false
set_option maxRecDepth 100000

theorem same2_spec (xs ys : List Int) (ex ey : Bool) (h : AHeap) (hn : xs.length ≤ 4611686018427387904) : PureA Try.prog 18 [.ro (cat b1 xs) xs.length ex, .ro (cat b1 ys) ys.length ey] h (.bool (decide (xs = ys))) := by
  (refine PureA.enter (ac := c18) (rs := r18) Try.func18 rfl (by decide) c18_ok r18_ok ?_; intro Q hQ; simp only [go_sem, Int.reduceEq, Int.reduceAdd, Int.reduceSub, Int.reduceMul, Nat.reduceLT, Int.reduceLT, Int.reduceLE, Int.reduceToNat, Nat.reduceAdd, Nat.reduceSub, Nat.reduceMul, Nat.reduceLeDiff, reduceCtorEq, c18, Try.ntmps18])
  by_cases hl : xs.length = ys.length
  · simp only [go_sem, Int.reduceEq, Int.reduceAdd, Int.reduceSub, Int.reduceMul, Nat.reduceLT, Int.reduceLT, Int.reduceLE, Int.reduceToNat, Nat.reduceAdd, Nat.reduceSub, Nat.reduceMul, Nat.reduceLeDiff, reduceCtorEq, hl]
    refine loop_range d18_0 (xs.length) (fun k s => s.set 5 (.int .i64 k)) (fun k h' => (xs.take k = ys.take k) ∧ h' = h) ?_ ⟨rfl, rfl⟩ ?_
    · (simp only [go_sem, Int.reduceEq, Int.reduceAdd, Int.reduceSub, Int.reduceMul, Nat.reduceLT, Int.reduceLT, Int.reduceLE, Int.reduceToNat, Nat.reduceAdd, Nat.reduceSub, Nat.reduceMul, Nat.reduceLeDiff, reduceCtorEq, d18_0] <;> rfl)
    rintro N k h' hk ⟨hi, rfl⟩ hN
    simp only [go_sem, Int.reduceEq, Int.reduceAdd, Int.reduceSub, Int.reduceMul, Nat.reduceLT, Int.reduceLT, Int.reduceLE, Int.reduceToNat, Nat.reduceAdd, Nat.reduceSub, Nat.reduceMul, Nat.reduceLeDiff, reduceCtorEq, d18_0]
    have hadd := wadd1 (k := k) (by omega)
    by_cases hlt : k < xs.length
    · have hlt2 : k < ys.length := by omega
      simp only [go_sem, Int.reduceEq, Int.reduceAdd, Int.reduceSub, Int.reduceMul, Nat.reduceLT, Int.reduceLT, Int.reduceLE, Int.reduceToNat, Nat.reduceAdd, Nat.reduceSub, Nat.reduceMul, Nat.reduceLeDiff, reduceCtorEq, hl ▸ hlt, hlt2, hadd, rdB hlt, rdB hlt2]
      repeat' (first | (intro _ hf_; (try simp only [upd_none] at hf_); (try simp only [go_sem, Int.reduceEq, Int.reduceAdd, Int.reduceSub, Int.reduceMul, Nat.reduceLT, Int.reduceLT, Int.reduceLE, Int.reduceToNat, Nat.reduceAdd, Nat.reduceSub, Nat.reduceMul, Nat.reduceLeDiff, reduceCtorEq, upd_ne, ne_eq, not_false_eq_true, *])) | (refine guard_split (fun hb_ => ?_) (fun hb_ => ?_) <;> (try simp only [decide_eq_true_eq, decide_eq_false_iff_not, Bool.not_eq_true', Bool.not_eq_false'] at hb_) <;> (try simp only [go_sem, Int.reduceEq, Int.reduceAdd, Int.reduceSub, Int.reduceMul, Nat.reduceLT, Int.reduceLT, Int.reduceLE, Int.reduceToNat, Nat.reduceAdd, Nat.reduceSub, Nat.reduceMul, Nat.reduceLeDiff, reduceCtorEq, upd_ne, ne_eq, not_false_eq_true, *])) | (refine cond_split (fun hb_ => ?_) (fun hb_ => ?_) <;> (try simp only [decide_eq_true_eq, decide_eq_false_iff_not, Bool.not_eq_true', Bool.not_eq_false'] at hb_) <;> (try simp only [go_sem, Int.reduceEq, Int.reduceAdd, Int.reduceSub, Int.reduceMul, Nat.reduceLT, Int.reduceLT, Int.reduceLE, Int.reduceToNat, Nat.reduceAdd, Nat.reduceSub, Nat.reduceMul, Nat.reduceLeDiff, reduceCtorEq, upd_ne, ne_eq, not_false_eq_true, *])) | (refine readG_split (fun hb_ => ?_) (fun hb_ => ?_) <;> (try simp only [decide_eq_true_eq, decide_eq_false_iff_not, Bool.not_eq_true', Bool.not_eq_false'] at hb_) <;> (try simp only [go_sem, Int.reduceEq, Int.reduceAdd, Int.reduceSub, Int.reduceMul, Nat.reduceLT, Int.reduceLT, Int.reduceLE, Int.reduceToNat, Nat.reduceAdd, Nat.reduceSub, Nat.reduceMul, Nat.reduceLeDiff, reduceCtorEq, upd_ne, ne_eq, not_false_eq_true, *])) | (refine frz_id ?_ <;> (try simp only [go_sem, Int.reduceEq, Int.reduceAdd, Int.reduceSub, Int.reduceMul, Nat.reduceLT, Int.reduceLT, Int.reduceLE, Int.reduceToNat, Nat.reduceAdd, Nat.reduceSub, Nat.reduceMul, Nat.reduceLeDiff, reduceCtorEq, upd_ne, ne_eq, not_false_eq_true, *])))
      · refine hQ _ _ _ _ _ (by first | exact .inr rfl | exact .inl rfl) rfl (by first | exact FzH.refl _ | exact FzH.sub (by (repeat' (first | exact Sub.refl _ | assumption | (refine Sub.upd ?_ (by first | assumption | (simp only [*]; done) | exact Sub.isNone (by assumption) (by assumption) | exact Sub.isNone (by assumption) (by simp only [*]))))))) (FzL.refl _ _ _) ?_
        simp only [go_sem, Int.reduceEq, Int.reduceAdd, Int.reduceSub, Int.reduceMul, Nat.reduceLT, Int.reduceLT, Int.reduceLE, Int.reduceToNat, Nat.reduceAdd, Nat.reduceSub, Nat.reduceMul, Nat.reduceLeDiff, reduceCtorEq, ne_of_at hlt hlt2 (by omega)]
      · (refine hN _ _ hlt ?_ ⟨?_, rfl⟩; (simp only [go_sem, Int.reduceEq, Int.reduceAdd, Int.reduceSub, Int.reduceMul, Nat.reduceLT, Int.reduceLT, Int.reduceLE, Int.reduceToNat, Nat.reduceAdd, Nat.reduceSub, Nat.reduceMul, Nat.reduceLeDiff, reduceCtorEq, d18_0]))
        exact take_eq_next hlt hlt2 hi (by omega)
    · (simp only [go_sem, Int.reduceEq, Int.reduceAdd, Int.reduceSub, Int.reduceMul, Nat.reduceLT, Int.reduceLT, Int.reduceLE, Int.reduceToNat, Nat.reduceAdd, Nat.reduceSub, Nat.reduceMul, Nat.reduceLeDiff, reduceCtorEq, show ¬ k < ys.length by omega]; refine frz_id ?_; simp only [go_sem, Int.reduceEq, Int.reduceAdd, Int.reduceSub, Int.reduceMul, Nat.reduceLT, Int.reduceLT, Int.reduceLE, Int.reduceToNat, Nat.reduceAdd, Nat.reduceSub, Nat.reduceMul, Nat.reduceLeDiff, reduceCtorEq])
      rw [List.take_of_length_le (by omega), List.take_of_length_le (by omega)] at hi
      refine hQ _ _ _ _ _ (by first | exact .inr rfl | exact .inl rfl) rfl (by first | exact FzH.refl _ | exact FzH.sub (by (repeat' (first | exact Sub.refl _ | assumption | (refine Sub.upd ?_ (by first | assumption | (simp only [*]; done) | exact Sub.isNone (by assumption) (by assumption) | exact Sub.isNone (by assumption) (by simp only [*]))))))) (FzL.refl _ _ _) ?_
      simp only [go_sem, Int.reduceEq, Int.reduceAdd, Int.reduceSub, Int.reduceMul, Nat.reduceLT, Int.reduceLT, Int.reduceLE, Int.reduceToNat, Nat.reduceAdd, Nat.reduceSub, Nat.reduceMul, Nat.reduceLeDiff, reduceCtorEq, hi]
  · simp only [go_sem, Int.reduceEq, Int.reduceAdd, Int.reduceSub, Int.reduceMul, Nat.reduceLT, Int.reduceLT, Int.reduceLE, Int.reduceToNat, Nat.reduceAdd, Nat.reduceSub, Nat.reduceMul, Nat.reduceLeDiff, reduceCtorEq, hl]
    refine hQ _ _ _ _ _ (by first | exact .inr rfl | exact .inl rfl) rfl (by first | exact FzH.refl _ | exact FzH.sub (by (repeat' (first | exact Sub.refl _ | assumption | (refine Sub.upd ?_ (by first | assumption | (simp only [*]; done) | exact Sub.isNone (by assumption) (by assumption) | exact Sub.isNone (by assumption) (by simp only [*]))))))) (FzL.refl _ _ _) ?_
    simp only [go_sem, Int.reduceEq, Int.reduceAdd, Int.reduceSub, Int.reduceMul, Nat.reduceLT, Int.reduceLT, Int.reduceLE, Int.reduceToNat, Nat.reduceAdd, Nat.reduceSub, Nat.reduceMul, Nat.reduceLeDiff, reduceCtorEq, ne_of_len hl]

theorem BIn.swap {q : Nat} {n : Int} {l : List Fl} {h H0 H : AHeap} {esz k : Nat} {v7 : AV} {cs : List AV} (i : BIn q n l h H0) (g : Grow H0 esz v7 cs k H) : ∃ h7, Grow h esz v7 cs k h7 ∧ BIn q n l h7 H := by
  rcases g.how with ⟨a1, a2, rfl⟩ | ⟨a1, rfl⟩ | ⟨id, cap, junk, tot, a1, a2, hT, hid, rfl⟩
  · exact ⟨h, ⟨g.size, g.sca, .inl ⟨a1, a2, rfl⟩⟩, i⟩
  · exact ⟨h, ⟨g.size, g.sca, .inr (.inl ⟨a1, rfl⟩)⟩, i⟩
  · exact ⟨upd h id (.cells (cs ++ junk) tot), ⟨g.size, g.sca, .inr (.inr ⟨id, cap, junk, tot, a1, a2, hT, i.sub.isNone hid, rfl⟩)⟩, i.more hid⟩

theorem BIn.swap' {q : Nat} {n : Int} {l : List Fl} {h h7 H : AHeap} {esz k : Nat} {v7 : AV} {cs : List AV} (g : Grow h esz v7 cs k h7) (i : BIn q n l h7 H) : ∃ H0, BIn q n l h H0 ∧ Grow H0 esz v7 cs k H := by
  rcases g.how with ⟨a1, a2, rfl⟩ | ⟨a1, rfl⟩ | ⟨id, cap, junk, tot, a1, a2, hT, hid, rfl⟩
  · exact ⟨H, i, ⟨g.size, g.sca, .inl ⟨a1, a2, rfl⟩⟩⟩
  · exact ⟨H, i, ⟨g.size, g.sca, .inr (.inl ⟨a1, rfl⟩)⟩⟩
  · obtain ⟨H2, i2, n2, s2, e2⟩ := i.less hid
    have : H = upd H2 id (.cells (cs ++ junk) tot) := by
      rw [← e2]
      funext y
      by_cases hy : y = id
      · subst hy; rw [upd_same]; exact s2
      · rw [upd_ne hy]
    exact ⟨H2, i2, ⟨g.size, g.sca, .inr (.inr ⟨id, cap, junk, tot, a1, a2, hT, n2, this⟩)⟩⟩

/-- What is put of the j-th one. -/
def mkF (j : Nat) (x : Fl) : Fl := ⟨(j : Int), x.to % 18446744073709551616 % 64, x.b.take 100, false⟩
def putL (fs : List Fl) (k : Nat) : List Fl := (List.range k).map fun (j : Nat) => mkF j (fs.getD j ⟨0, 0, [], false⟩)
theorem putL_len (fs : List Fl) (k : Nat) : (putL fs k).length = k := by simp [putL]
theorem putL_succ {fs : List Fl} {k : Nat} (hk : k < fs.length) : putL fs (k + 1) = putL fs k ++ [mkF k fs[k]] := by
  simp [putL, List.range_succ, List.getElem?_eq_getElem hk]
theorem putL_at {fs : List Fl} {k j : Nat} (hj : j < k) : ∃ x, (putL fs k)[j]? = some (mkF j x) := by
  refine ⟨fs.getD j ⟨0, 0, [], false⟩, ?_⟩
  simp [putL, hj]

/-- What is still there, and how often each was seen. -/
structure Seen (L R : List Fl) (sn : List Int) : Prop where
  len : sn.length = L.length
  nd : (R.map (·.src)).Nodup
  mem : ∀ x ∈ R, ∃ j : Nat, L[j]? = some x ∧ x.src = (j : Int)
  sn : ∀ j : Nat, j < L.length → sn[j]? = some (if (j : Int) ∈ R.map (·.src) then 0 else 1)

theorem Seen.start {L : List Fl} (h : ∀ j : Nat, j < L.length → ∃ x, L[j]? = some x ∧ x.src = (j : Int)) : Seen L L (List.replicate L.length 0) := by
  refine ⟨by simp, ?_, fun x hx => ?_, fun j hj => ?_⟩
  · show List.Pairwise _ _
    rw [List.pairwise_iff_getElem]
    intro a b ha hb hab
    rw [List.length_map] at ha hb
    obtain ⟨x, e1, e2⟩ := h a ha
    obtain ⟨y, f1, f2⟩ := h b hb
    rw [List.getElem?_eq_getElem ha] at e1
    rw [List.getElem?_eq_getElem hb] at f1
    cases e1; cases f1
    rw [List.getElem_map, List.getElem_map, e2, f2]
    omega
  · obtain ⟨j, hj, rfl⟩ := List.mem_iff_getElem.1 hx
    obtain ⟨x, e1, e2⟩ := h j hj
    rw [List.getElem?_eq_getElem hj] at e1
    cases e1
    exact ⟨j, List.getElem?_eq_getElem hj, e2⟩
  · obtain ⟨x, e1, e2⟩ := h j hj
    have : (j : Int) ∈ L.map (·.src) := List.mem_map.2 ⟨x, List.mem_of_getElem? e1, e2⟩
    rw [if_pos this]
    simp [hj]

theorem cutL_map {R : List Fl} {k : Nat} (hk : k < R.length) : (R.map (·.src)).Perm (R[k].src :: (cutL R k).map (·.src)) := by
  have h1 : R.Perm (R[k] :: cutL R k) := by
    have : R = R.take k ++ R[k] :: R.drop (k + 1) := by rw [← List.drop_eq_getElem_cons hk, List.take_append_drop]
    unfold cutL
    conv => lhs; rw [this]
    exact List.perm_middle
  exact h1.map _

theorem Seen.take {L R : List Fl} {sn : List Int} (s : Seen L R sn) {k : Nat} (hk : k < R.length) :
    ∃ j : Nat, j < L.length ∧ R[k].src = (j : Int) ∧ L[j]? = some R[k] ∧ sn[j]? = some 0 ∧ Seen L (cutL R k) (sn.set j 1) := by
  obtain ⟨j, hj, hs⟩ := s.mem _ (List.getElem_mem hk)
  have hjl : j < L.length := (List.getElem?_eq_some_iff.1 hj).1
  have hp := cutL_map hk
  have hnd := hp.nodup_iff.1 s.nd
  rw [List.nodup_cons] at hnd
  have hin : (j : Int) ∈ R.map (·.src) := hp.mem_iff.2 (by rw [hs]; exact List.mem_cons_self)
  have hsn := s.sn j hjl
  rw [if_pos hin] at hsn
  refine ⟨j, hjl, hs, hj, hsn, by rw [List.length_set]; exact s.len, hnd.2, fun x hx => s.mem x ?_, fun i hi => ?_⟩
  · unfold cutL at hx
    rw [List.mem_append] at hx
    rcases hx with hx | hx
    · exact List.mem_of_mem_take hx
    · exact List.mem_of_mem_drop hx
  · by_cases hij : i = j
    · subst hij
      rw [if_neg (by rw [← hs]; exact hnd.1), List.getElem?_set_self (by rw [s.len]; exact hjl)]
    · rw [List.getElem?_set_ne (Ne.symm hij), s.sn i hi]
      have : ((i : Int) ∈ R.map (·.src)) ↔ (i : Int) ∈ (cutL R k).map (·.src) := by
        rw [hp.mem_iff, List.mem_cons, hs]
        constructor
        · rintro (h | h)
          · omega
          · exact h
        · exact .inr
      simp only [this]

theorem umodB (x n : Int) (hn : 0 < n) : (IntKind.u64.wrap x).tmod n = x % 18446744073709551616 % n := by
  rw [wu64]; exact Int.tmod_eq_emod_of_nonneg (Int.emod_nonneg _ (by omega))

theorem set_ints {l : List Int} {a : Nat} (h : a < l.length) (v : Int) : List.take a (cat i1 l) ++ [AV.int .i64 v] ++ List.drop (a + 1) (cat i1 l) = cat i1 (l.set a v) := by
  have h1 := cat_take i1_len l a
  have h2 := cat_drop i1_len l (a + 1)
  rw [Nat.mul_one] at h1 h2
  rw [h1, h2, List.set_eq_take_append_cons_drop, if_pos h, cat_append, cat_cons]
  simp [i1]

theorem aw_make {P : Program} {K : AV → AHeap → Prop} {s : List AV} {h : AHeap} {bytes : Nat} {z : List AV} {l c : AArg} (n m : Nat) (hl : ev s l = .int .i64 n) (hc : ev s c = .int .i64 m) (hnm : n ≤ m) (hb : bytes * m ≤ 70368744177664) (hm : m < 9223372036854775807)
    (k : ∀ id, h id = none → K (.sl id 0 n m) (upd h id (.cells (zrep z m) (m * z.length)))) : aw P (.makeSlice bytes z l c) K s h := ⟨n, m, hl, hc, hnm, hb, hm, k⟩

theorem zrep_ints (n : Nat) : zrep [.int .i64 0] n = cat i1 (List.replicate n 0) := by
  have h1 : ∀ n : Nat, cat i1 (List.replicate n 0) = List.replicate n (.int .i64 0) := by
    intro n
    induction n with
    | zero => rfl
    | succ n ih => rw [List.replicate_succ, cat_cons, ih]; rfl
  rw [h1]
  unfold zrep
  rw [List.eq_replicate_iff]
  refine ⟨by simp, fun b hb => ?_⟩
  obtain ⟨i, _, rfl⟩ := List.mem_map.1 hb
  simp [Nat.mod_one]

set_option maxHeartbeats 4000000 in
theorem bonce_spec (fs : List Fl) (ps : List Int) (h : AHeap) (hn : fs.length ≤ 9223372036854775807) (hp : ps.length ≤ 9223372036854775807) : PureA Try.prog 5 [.ro (cat encF fs) fs.length false, .ro (cat i1 ps) ps.length false] h (.bool true) := by
  (refine PureA.enter (ac := c5) (rs := r5) Try.func5 rfl (by decide) c5_ok r5_ok ?_; intro Q hQ; simp only [go_sem, Int.reduceEq, Int.reduceAdd, Int.reduceSub, Int.reduceMul, Nat.reduceLT, Int.reduceLT, Int.reduceLE, Int.reduceToNat, Nat.reduceAdd, Nat.reduceSub, Nat.reduceMul, Nat.reduceLeDiff, reduceCtorEq, c5, Try.ntmps5])
  refine (bnew_spec 512 (by omega) (by omega) h).use ?_
  rintro _ H ⟨q, rfl, i⟩
  simp only [go_sem, Int.reduceEq, Int.reduceAdd, Int.reduceSub, Int.reduceMul, Nat.reduceLT, Int.reduceLT, Int.reduceLE, Int.reduceToNat, Nat.reduceAdd, Nat.reduceSub, Nat.reduceMul, Nat.reduceLeDiff, reduceCtorEq]
  refine loop_st d5_0 (fun x : Nat × AV => 20 - x.1) (fun x s => (s.set 8 (.int .i64 (x.1 : Int))).set 7 x.2) (fun x H => x.1 ≤ 20 ∧ x.1 ≤ fs.length ∧ ∃ h7, Grow h 4 x.2 (cat encF (putL fs x.1)) x.1 h7 ∧ BIn q 512 (putL fs x.1) h7 H) (0, .nils) ?_ ⟨Nat.zero_le _, Nat.zero_le _, h, Grow.nil, i⟩ ?_
  · (simp only [go_sem, Int.reduceEq, Int.reduceAdd, Int.reduceSub, Int.reduceMul, Nat.reduceLT, Int.reduceLT, Int.reduceLE, Int.reduceToNat, Nat.reduceAdd, Nat.reduceSub, Nat.reduceMul, Nat.reduceLeDiff, reduceCtorEq, d5_0] <;> rfl)
  rintro N ⟨k, v7⟩ H1 ⟨hk, hkf, h7, g7, ib⟩ hN
  simp only at hk hkf g7 ib hN
  simp only [go_sem, Int.reduceEq, Int.reduceAdd, Int.reduceSub, Int.reduceMul, Nat.reduceLT, Int.reduceLT, Int.reduceLE, Int.reduceToNat, Nat.reduceAdd, Nat.reduceSub, Nat.reduceMul, Nat.reduceLeDiff, reduceCtorEq, d5_0]
  have hadd := wadd1 (k := k) (by omega)
  have hLl := putL_len fs k
  by_cases hlt : k < fs.length ∧ (k : Int) < 20
  · obtain ⟨h1, h2⟩ := hlt
    have r1 := rd_cell (h := H1) (off := 1) encF_len h1 (by omega)
    have r2 := rd_cell (h := H1) (off := 2) encF_len h1 (by omega)
    have ef1 : ∀ x : Fl, (encF x)[1]? = some (.int .i64 x.to) := fun _ => rfl
    have ef2 : ∀ x : Fl, (encF x)[2]? = some (.ro (cat b1 x.b) x.b.length false) := fun _ => rfl
    have hsn := putL_succ h1
    have u1 := umodB fs[k].to 64 (by omega)
    have u2 : IntKind.i64.wrap (fs[k].to % 18446744073709551616 % 64) = fs[k].to % 18446744073709551616 % 64 := w64 (by omega) (by omega)
    have hsl := sl_hi (ex := false) (k1 := .i64) b1_len (l := fs[k].b) (b := min fs[k].b.length 100) (by omega)
    have htk : fs[k].b.take (min fs[k].b.length 100) = fs[k].b.take 100 := by
      rw [List.take_eq_take_iff]; omega
    rw [htk, Bool.false_and] at hsl
    have hmin : (if (100 : Int) < (fs[k].b.length : Int) then (100 : Int) else (fs[k].b.length : Int)) = ((min fs[k].b.length 100 : Nat) : Int) := by omega
    simp only [go_sem, Int.reduceEq, Int.reduceAdd, Int.reduceSub, Int.reduceMul, Nat.reduceLT, Int.reduceLT, Int.reduceLE, Int.reduceToNat, Nat.reduceAdd, Nat.reduceSub, Nat.reduceMul, Nat.reduceLeDiff, reduceCtorEq, h1, h2, r1, r2, ef1, ef2, u1, u2, show ((64 : Int) == 0) = false from rfl, hmin, hsl]
    intro p hp
    simp only [go_sem, Int.reduceEq, Int.reduceAdd, Int.reduceSub, Int.reduceMul, Nat.reduceLT, Int.reduceLT, Int.reduceLE, Int.reduceToNat, Nat.reduceAdd, Nat.reduceSub, Nat.reduceMul, Nat.reduceLeDiff, reduceCtorEq, del_none hp]
    refine CallsA.use (show CallsA Try.prog 13 [.ptr q 0, .ro (encF (mkF k fs[k])) 1 true] H1 _ from bPut_spec (xs := [mkF k fs[k]]) ib true (by rw [hLl]; simp; omega) (by simp [mkF]; omega) (by simp [mkF, chkF, nodeB]; omega)) ?_
    rintro _ H2 ⟨rfl, i2⟩
    have e : runB 512 (putL fs k) [mkF k fs[k]] = (putL fs (k + 1), 0) := by
      show stepB 512 (putL fs k, 0) (mkF k fs[k]) = _
      unfold stepB
      rw [if_neg (by simp only [hLl]; omega), hsn]
    rw [e] at i2
    obtain ⟨H0, i0, g0⟩ := BIn.swap' g7 i2
    simp only [go_sem, Int.reduceEq, Int.reduceAdd, Int.reduceSub, Int.reduceMul, Nat.reduceLT, Int.reduceLT, Int.reduceLE, Int.reduceToNat, Nat.reduceAdd, Nat.reduceSub, Nat.reduceMul, Nat.reduceLeDiff, reduceCtorEq]
    refine g0.add1 (x := encF (mkF k fs[k])) rfl rfl (by omega) fun v' H3 g3 => ?_
    have e3 : cat encF (putL fs k) ++ encF (mkF k fs[k]) = cat encF (putL fs (k + 1)) := by rw [hsn, cat_append]; simp [cat]
    rw [e3] at g3
    obtain ⟨h8, g8, i8⟩ := i0.swap g3
    simp only [go_sem, Int.reduceEq, Int.reduceAdd, Int.reduceSub, Int.reduceMul, Nat.reduceLT, Int.reduceLT, Int.reduceLE, Int.reduceToNat, Nat.reduceAdd, Nat.reduceSub, Nat.reduceMul, Nat.reduceLeDiff, reduceCtorEq, hadd]
    refine hN (k + 1, v') _ _ (by simp only; omega) ?_ ⟨by simp only; omega, by simp only; omega, h8, g8, i8⟩
    simp only [go_sem, Int.reduceEq, Int.reduceAdd, Int.reduceSub, Int.reduceMul, Nat.reduceLT, Int.reduceLT, Int.reduceLE, Int.reduceToNat, Nat.reduceAdd, Nat.reduceSub, Nat.reduceMul, Nat.reduceLeDiff, reduceCtorEq, d5_0]
  · rcases (show (k < fs.length ∧ ¬ (k : Int) < 20) ∨ ¬ k < fs.length by omega) with ⟨h1, h2⟩ | h1 <;> (first | (simp only [go_sem, Int.reduceEq, Int.reduceAdd, Int.reduceSub, Int.reduceMul, Nat.reduceLT, Int.reduceLT, Int.reduceLE, Int.reduceToNat, Nat.reduceAdd, Nat.reduceSub, Nat.reduceMul, Nat.reduceLeDiff, reduceCtorEq, h1, h2]) | (simp only [go_sem, Int.reduceEq, Int.reduceAdd, Int.reduceSub, Int.reduceMul, Nat.reduceLT, Int.reduceLT, Int.reduceLE, Int.reduceToNat, Nat.reduceAdd, Nat.reduceSub, Nat.reduceMul, Nat.reduceLeDiff, reduceCtorEq, h1])) <;>
    ( obtain ⟨H0, i0, g0⟩ := BIn.swap' g7 ib
      refine frz_at 7 rfl g0.fzH g0.fz ?_
      simp only [go_sem, Int.reduceEq, Int.reduceAdd, Int.reduceSub, Int.reduceMul, Nat.reduceLT, Int.reduceLT, Int.reduceLE, Int.reduceToNat, Nat.reduceAdd, Nat.reduceSub, Nat.reduceMul, Nat.reduceLeDiff, reduceCtorEq]
      refine aw_make k k rfl rfl (Nat.le_refl _) (by omega) (by omega) fun p hpp => ?_
      have hLb : ∀ j : Nat, j < (putL fs k).length → ∃ x, (putL fs k)[j]? = some x ∧ x.src = (j : Int) := fun j hj => by
        rw [hLl] at hj
        obtain ⟨x, e⟩ := putL_at (fs := fs) hj
        exact ⟨_, e, rfl⟩
      have hLs : ∀ x ∈ putL fs k, x.b.length ≤ 100 := fun x hx => by
        obtain ⟨j, _, rfl⟩ := List.mem_map.1 hx
        simp [mkF]; omega
      have st := Seen.start hLb
      rw [zrep_ints]
      have hp0 := i0.sub.isNone hpp
      have i3 := i0.more (c := .cells (cat i1 (List.replicate k 0)) (k * [AV.int .i64 0].length)) hpp
      generalize putL fs k = L at *
      subst hLl
      simp only [go_sem, Int.reduceEq, Int.reduceAdd, Int.reduceSub, Int.reduceMul, Nat.reduceLT, Int.reduceLT, Int.reduceLE, Int.reduceToNat, Nat.reduceAdd, Nat.reduceSub, Nat.reduceMul, Nat.reduceLeDiff, reduceCtorEq]
      refine loop_st d5_1 (fun x : Nat × List Fl × List Int => L.length - x.1) (fun x s => s.set 13 (.int .i64 (x.1 : Int))) (fun x H => x.1 ≤ L.length ∧ x.2.1.length + x.1 = L.length ∧ Seen L x.2.1 x.2.2 ∧ BIn q 512 x.2.1 (upd h p (.cells (cat i1 x.2.2) L.length)) H) (0, L, List.replicate L.length 0) ?_ ⟨Nat.zero_le _, rfl, st, by simpa using i3⟩ ?_
      · (simp only [go_sem, Int.reduceEq, Int.reduceAdd, Int.reduceSub, Int.reduceMul, Nat.reduceLT, Int.reduceLT, Int.reduceLE, Int.reduceToNat, Nat.reduceAdd, Nat.reduceSub, Nat.reduceMul, Nat.reduceLeDiff, reduceCtorEq, d5_1] <;> rfl)
      rintro N2 ⟨j, R, sn⟩ H4 ⟨hj, hR, sR, i4⟩ hN2
      simp only at hj hR sR i4 hN2
      simp only [go_sem, Int.reduceEq, Int.reduceAdd, Int.reduceSub, Int.reduceMul, Nat.reduceLT, Int.reduceLT, Int.reduceLE, Int.reduceToNat, Nat.reduceAdd, Nat.reduceSub, Nat.reduceMul, Nat.reduceLeDiff, reduceCtorEq, d5_1]
      have hadd2 := wadd1 (k := j) (by omega)
      by_cases hjl : j < L.length
      · have hsub : IntKind.i64.wrap ((L.length : Int) - (j : Int)) = (R.length : Int) := by rw [w64 (by omega) (by omega)]; omega
        have hconv : IntKind.u64.wrap (R.length : Int) = (R.length : Int) := by
          have h1 := wu64 (R.length : Int)
          rw [h1]; exact Int.emod_eq_of_lt (by omega) (by omega)
        have hz : ((R.length : Int) == 0) = false := beq_eq_false_iff_ne.2 (by omega)
        have body : ∀ (t : Nat) (ht : t < R.length) (K : AV → AHeap → Prop), (∀ H5 x R' a, R'.length + 1 = R.length → a < L.length → x.src = ((a : Nat) : Int) → L[a]? = some x → sn[a]? = some 0 → Seen L R' (sn.set a 1) → BIn q 512 R' (upd h p (.cells (cat i1 sn) L.length)) H5 → K (.tup [.agg (encF x), .int .i64 0]) H5) → callF Try.prog 17 [.ptr q 0, .int .i64 (t : Int)] H4 K := fun t ht K hK => by
          refine (bTake_spec i4 (by omega) t ht).use ?_
          rintro _ H5 ⟨rfl, i5⟩
          obtain ⟨a, ha, hsrc, hLa, hsa, s5⟩ := sR.take ht
          exact hK H5 _ _ a (cutL_len ht) ha hsrc hLa hsa s5 i5
        obtain ⟨t, ht, hpick⟩ : ∃ t : Nat, t < R.length ∧ ((∃ hjp : j < ps.length, (IntKind.u64.wrap ps[j]).tmod (R.length : Int) = (t : Int)) ∨ (¬ j < ps.length ∧ t = 0)) := by
          by_cases hjp : j < ps.length
          · have u := umodB ps[j] (R.length : Int) (by omega)
            have hm1 := Int.emod_nonneg (ps[j] % 18446744073709551616) (show (R.length : Int) ≠ 0 by omega)
            have hm2 := Int.emod_lt_of_pos (ps[j] % 18446744073709551616) (show 0 < (R.length : Int) by omega)
            exact ⟨(ps[j] % 18446744073709551616 % (R.length : Int)).toNat, by omega, .inl ⟨hjp, by rw [u]; omega⟩⟩
          · exact ⟨0, by omega, .inr ⟨hjp, rfl⟩⟩
        have ht64 : IntKind.i64.wrap (t : Int) = (t : Int) := w64 (by omega) (by omega)
        rcases hpick with ⟨hjp, hrem⟩ | ⟨hjp, rfl⟩ <;> (first | (simp only [go_sem, Int.reduceEq, Int.reduceAdd, Int.reduceSub, Int.reduceMul, Nat.reduceLT, Int.reduceLT, Int.reduceLE, Int.reduceToNat, Nat.reduceAdd, Nat.reduceSub, Nat.reduceMul, Nat.reduceLeDiff, reduceCtorEq, hjl, hjp, rdI hjp, hsub, hconv, hz, hrem, ht64]) | (simp only [go_sem, Int.reduceEq, Int.reduceAdd, Int.reduceSub, Int.reduceMul, Nat.reduceLT, Int.reduceLT, Int.reduceLE, Int.reduceToNat, Nat.reduceAdd, Nat.reduceSub, Nat.reduceMul, Nat.reduceLeDiff, reduceCtorEq, hjl, hjp])) <;>
        ( refine body _ ht _ fun H5 x R' a hR' ha hsrc hLa hsa s5 i5 => ?_
          have q1 := rd_cell (h := H5) (off := 1) encF_len ha (by omega)
          have q2 := rd_cell (h := H5) (off := 2) encF_len ha (by omega)
          have hLa2 : L[a] = x := by
            have := List.getElem?_eq_getElem ha
            rw [hLa] at this; injection this with e; exact e.symm
          have ef1 : ∀ x : Fl, (encF x)[1]? = some (.int .i64 x.to) := fun _ => rfl
          have ef2 : ∀ x : Fl, (encF x)[2]? = some (.ro (cat b1 x.b) x.b.length false) := fun _ => rfl
          rw [hLa2, ef1] at q1
          rw [hLa2, ef2] at q2
          have hxb : x.b.length ≤ 100 := hLs x (List.mem_of_getElem? hLa)
          simp only [go_sem, Int.reduceEq, Int.reduceAdd, Int.reduceSub, Int.reduceMul, Nat.reduceLT, Int.reduceLT, Int.reduceLE, Int.reduceToNat, Nat.reduceAdd, Nat.reduceSub, Nat.reduceMul, Nat.reduceLeDiff, reduceCtorEq, encF]
          intro p9 hp9
          have n1 : ¬ (a : Int) < 0 := by omega
          have n2 : ¬ L.length ≤ a := by omega
          have blkp := i5.sub p _ upd_same
          have csl : (cat i1 sn).length = L.length := by rw [cat_len i1_len, sR.len]; omega
          have hsn : a < sn.length := by rw [sR.len]; exact ha
          have q3 : (cat i1 sn)[a]? = some (.int .i64 0) := by
            have := cat_get0 i1_len (by omega) hsn
            rw [List.getElem?_eq_getElem hsn] at hsa
            injection hsa with hsa
            rw [Nat.mul_one, hsa] at this
            exact this
          simp only [go_sem, Int.reduceEq, Int.reduceAdd, Int.reduceSub, Int.reduceMul, Nat.reduceLT, Int.reduceLT, Int.reduceLE, Int.reduceToNat, Nat.reduceAdd, Nat.reduceSub, Nat.reduceMul, Nat.reduceLeDiff, reduceCtorEq, del_none hp9, hsrc, ha, q1, q2, n1, n2]
          refine (same2_spec x.b x.b false false _ (by omega)).use ?_
          have hle : a + 1 ≤ (cat i1 sn).length := by rw [csl]; exact ha
          have hcut : List.take a (cat i1 sn) ++ [AV.int .i64 1] ++ List.drop (a + 1) (cat i1 sn) = cat i1 (sn.set a 1) := set_ints hsn 1
          have i6 := i5.poke (o := .cells (cat i1 (sn.set a 1)) L.length) upd_same
          rw [upd_upd] at i6
          simp only [go_sem, Int.reduceEq, Int.reduceAdd, Int.reduceSub, Int.reduceMul, Nat.reduceLT, Int.reduceLT, Int.reduceLE, Int.reduceToNat, Nat.reduceAdd, Nat.reduceSub, Nat.reduceMul, Nat.reduceLeDiff, reduceCtorEq, ha, n1, hsrc, blkp, q3, hle, hcut, hadd2]
          refine hN2 (j + 1, R', sn.set a 1) _ _ (by simp only; omega) ?_ ⟨by simp only; omega, by simp only; omega, s5, i6⟩
          simp only [go_sem, Int.reduceEq, Int.reduceAdd, Int.reduceSub, Int.reduceMul, Nat.reduceLT, Int.reduceLT, Int.reduceLE, Int.reduceToNat, Nat.reduceAdd, Nat.reduceSub, Nat.reduceMul, Nat.reduceLeDiff, reduceCtorEq, d5_1] )
      · have hR0 : R = [] := List.length_eq_zero_iff.1 (by omega)
        subst hR0
        have blkp := i4.sub p _ upd_same
        simp only [go_sem, Int.reduceEq, Int.reduceAdd, Int.reduceSub, Int.reduceMul, Nat.reduceLT, Int.reduceLT, Int.reduceLE, Int.reduceToNat, Nat.reduceAdd, Nat.reduceSub, Nat.reduceMul, Nat.reduceLeDiff, reduceCtorEq, hjl]
        refine frz_id ?_
        simp only [go_sem, Int.reduceEq, Int.reduceAdd, Int.reduceSub, Int.reduceMul, Nat.reduceLT, Int.reduceLT, Int.reduceLE, Int.reduceToNat, Nat.reduceAdd, Nat.reduceSub, Nat.reduceMul, Nat.reduceLeDiff, reduceCtorEq]
        refine loop_st d5_2 (fun k : Nat => L.length - k) (fun k s => s.set 17 (.int .i64 (k : Int))) (fun k H => k ≤ L.length ∧ H = H4) 0 ?_ ⟨Nat.zero_le _, rfl⟩ ?_
        · (simp only [go_sem, Int.reduceEq, Int.reduceAdd, Int.reduceSub, Int.reduceMul, Nat.reduceLT, Int.reduceLT, Int.reduceLE, Int.reduceToNat, Nat.reduceAdd, Nat.reduceSub, Nat.reduceMul, Nat.reduceLeDiff, reduceCtorEq, d5_2] <;> rfl)
        rintro N3 m H6 ⟨hm, e6⟩ hN3
        rw [e6]
        simp only [go_sem, Int.reduceEq, Int.reduceAdd, Int.reduceSub, Int.reduceMul, Nat.reduceLT, Int.reduceLT, Int.reduceLE, Int.reduceToNat, Nat.reduceAdd, Nat.reduceSub, Nat.reduceMul, Nat.reduceLeDiff, reduceCtorEq, d5_2]
        by_cases hml : m < L.length
        · have hsn : m < sn.length := by rw [sR.len]; exact hml
          have hsm := sR.sn m hml
          have q3 : (cat i1 sn)[m]? = some (.int .i64 1) := by
            have := cat_get0 i1_len (by omega) hsn
            rw [List.getElem?_eq_getElem hsn] at hsm
            injection hsm with hsm
            rw [Nat.mul_one, hsm] at this
            exact this
          have hadd3 := wadd1 (k := m) (by omega)
          simp only [go_sem, Int.reduceEq, Int.reduceAdd, Int.reduceSub, Int.reduceMul, Nat.reduceLT, Int.reduceLT, Int.reduceLE, Int.reduceToNat, Nat.reduceAdd, Nat.reduceSub, Nat.reduceMul, Nat.reduceLeDiff, reduceCtorEq, hml, blkp, q3, hadd3]
          refine hN3 (m + 1) _ _ (by omega) ?_ ⟨by omega, rfl⟩
          simp only [go_sem, Int.reduceEq, Int.reduceAdd, Int.reduceSub, Int.reduceMul, Nat.reduceLT, Int.reduceLT, Int.reduceLE, Int.reduceToNat, Nat.reduceAdd, Nat.reduceSub, Nat.reduceMul, Nat.reduceLeDiff, reduceCtorEq, d5_2]
        · simp only [go_sem, Int.reduceEq, Int.reduceAdd, Int.reduceSub, Int.reduceMul, Nat.reduceLT, Int.reduceLT, Int.reduceLE, Int.reduceToNat, Nat.reduceAdd, Nat.reduceSub, Nat.reduceMul, Nat.reduceLeDiff, reduceCtorEq, hml]
          refine frz_id ?_
          simp only [go_sem, Int.reduceEq, Int.reduceAdd, Int.reduceSub, Int.reduceMul, Nat.reduceLT, Int.reduceLT, Int.reduceLE, Int.reduceToNat, Nat.reduceAdd, Nat.reduceSub, Nat.reduceMul, Nat.reduceLeDiff, reduceCtorEq]
          refine (bknown_spec _).use ?_
          simp only [go_sem, Int.reduceEq, Int.reduceAdd, Int.reduceSub, Int.reduceMul, Nat.reduceLT, Int.reduceLT, Int.reduceLE, Int.reduceToNat, Nat.reduceAdd, Nat.reduceSub, Nat.reduceMul, Nat.reduceLeDiff, reduceCtorEq]
          refine (bLen_spec i4).use ?_
          simp only [go_sem, Int.reduceEq, Int.reduceAdd, Int.reduceSub, Int.reduceMul, Nat.reduceLT, Int.reduceLT, Int.reduceLE, Int.reduceToNat, Nat.reduceAdd, Nat.reduceSub, Nat.reduceMul, Nat.reduceLeDiff, reduceCtorEq, List.length_nil]
          refine hQ _ _ _ _ _ (.inr rfl) rfl (FzH.sub (Sub.trans ((Sub.refl _).upd2 hp0) i4.sub)) (FzL.refl _ _ _) rfl )

theorem bytesL_sh {els : List (List AV)} (h : ∀ el ∈ els, ∃ i, el = [AV.int .u8 i] ∧ (Lit.int .u8 i).wf = true) : ∃ l : List Int, els.flatten = cat b1 l ∧ els.length = l.length := by
  obtain ⟨l, e1, e2, _⟩ := sh_list (enc := b1) (R := fun _ => True) fun el hel => by
    obtain ⟨i, rfl, _⟩ := h el hel
    exact ⟨i, rfl, trivial⟩
  exact ⟨l, e1, e2⟩

theorem fls_sh {els : List (List AV)} (h : ∀ el ∈ els, el.length = 4 ∧ ShC Try.prog 5 51 el) : ∃ l : List Fl, els.flatten = cat encF l ∧ els.length = l.length := by
  obtain ⟨l, e1, e2, _⟩ := sh_list (enc := encF) (R := fun _ => True) (els := els) fun el hel => by
    have := (h el hel).2
    rw [ShC] at this
    simp only [Try.underlying51, ShFs, ShC, Try.underlying3, Try.underlying30, Try.underlying5, Try.underlying4] at this
    obtain ⟨_, _, rfl, _, ⟨a, rfl, _⟩, _, _, rfl, _, ⟨b, rfl, _⟩, _, _, rfl, _, ⟨els, rfl, _, hels⟩, _, _, rfl, _, ⟨c, rfl⟩, rfl⟩ := this
    obtain ⟨xs, e1, e2⟩ := bytesL_sh fun el hel => (hels el hel).2
    refine ⟨⟨a, b, xs, c⟩, ?_, trivial⟩
    rw [e1, e2]; rfl
  exact ⟨l, e1, e2⟩

theorem bonce_law (xs : List AV) (h : ArgsSh Try.prog 6 Try.f5.params.toList xs) : PureA Try.prog 5 xs emp (.bool true) := by
  rw [Try.params5] at h
  simp only [ArgsSh, ArgSh, Try.underlying39, Try.underlying50] at h
  obtain ⟨x, _, rfl, hx, y, _, rfl, hy, rfl⟩ := h
  rw [ShC] at hx hy
  simp only [Try.underlying39] at hx
  simp only [Try.underlying50] at hy
  obtain ⟨els, e, hl, hels⟩ := hx
  cases e
  obtain ⟨l, e1, e2⟩ := fls_sh (els := els) hels
  obtain ⟨els2, e, hl2, hels2⟩ := hy
  cases e
  obtain ⟨l2, f1, f2, _⟩ := sh_list (enc := i1) (R := fun _ => True) (els := els2) fun el hel => by
    have := (hels2 el hel).2
    simp only [ShC, Try.underlying3] at this
    obtain ⟨b, rfl, _⟩ := this
    exact ⟨b, rfl, trivial⟩
  rw [e1, e2, f1, f2]
  exact bonce_spec l l2 emp (by have := maxLen_le; omega) (by have := maxLen_le; omega)

end Go.Proofs.Ytfgapneenpdnoaa
