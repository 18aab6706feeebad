/-
  The bag: slices.Insert.
-/
import Derived.Test.YtfgapneenpdnoaaC5
import Derived.Test.YtfgapneenpdnoaaOv
namespace Go.Proofs.Ytfgapneenpdnoaa
open Go E
set_option linter.unusedVariables false
set_option linter.unusedSimpArgs false
set_option maxRecDepth 100000

theorem callF_mono {P : Program} {f : FuncId} {args : List AV} {h : AHeap} {R K : AV → AHeap → Prop} (c : callF P f args h R) (k : ∀ r h', R r h' → K r h') : callF P f args h K := by
  obtain ⟨h', a, z1, z2, c⟩ := c
  exact ⟨h', a, z1, z2, c.mono k⟩

structure Fl where
  src : Int
  to : Int
  b : List Int
  inj : Bool
def encF (x : Fl) : List AV := [.int .i64 x.src, .int .i64 x.to, .ro (cat b1 x.b) x.b.length false, .bool x.inj]
theorem encF_len (x : Fl) : (encF x).length = 4 := rfl
theorem encF_sca (x : Fl) : (encF x).all scalar = true := rfl

theorem ovl_spec {cs cells : List AV} {n id off m cap tot : Nat} {ex : Bool} {h : AHeap} (hcs : cs ≠ []) (hid : h id = some (.cells cells tot)) (htot : tot ≠ 0) :
    ExtA Try.prog 86 [.ro cs n ex, .sl id off m cap] h (fun r h' => r = .bool false ∧ h' = h) :=
  overlaps_ext (fn := Try.f86) (tS := 46) (tR := 4) (e := 45) (size := 4) Try.func86 (by kernel_rfl) (by kernel_rfl) (by kernel_rfl) (by kernel_rfl) (by kernel_rfl) (by kernel_rfl) hcs hid htot

theorem ins_spec (l : List Fl) (v : AV) (h0 H : AHeap) (gr : Grow h0 4 v (cat encF l) l.length H) (hw : Wr v) (i : Nat) (hi : i ≤ l.length) (hn : l.length ≤ 100000) (x : Fl) :
    callF Try.prog 75 [v, .int .i64 (i : Int), .ro (encF x) 1 true] H (fun r H' => Grow h0 4 r (cat encF (l.take i ++ x :: l.drop i)) (l.length + 1) H' ∧ Wr r) := by
  by_cases hil : i = l.length
  · subst hil
    have hlen := gr.len
    have e0 : l.take l.length ++ x :: l.drop l.length = l ++ [x] := by simp
    rw [e0]
    obtain ⟨y, hy⟩ : ∃ y, sliceA 4 v (some (.int .i64 (l.length : Int))) none none = some y := by
      rcases gr.how with ⟨rfl, e, _⟩ | ⟨rfl, _⟩ | ⟨id, cap, junk, tot, rfl, hcap, hT, hid, rfl⟩
      · rw [e]; exact ⟨_, rfl⟩
      · exact absurd rfl (hw _ _ _)
      · simp [sliceA, bnd, hcap]
    refine CallsA.go ?_
    (refine CallsA.enterR (ac := c75) (rs := r75) Try.func75 rfl (by decide) c75_ok r75_ok ?_; intro Q hQ; simp only [go_sem, Int.reduceEq, Int.reduceAdd, Int.reduceSub, Int.reduceMul, Nat.reduceLT, Int.reduceLT, Int.reduceLE, Int.reduceToNat, Nat.reduceAdd, Nat.reduceSub, Nat.reduceMul, Nat.reduceLeDiff, reduceCtorEq, c75, Try.ntmps75, hy, hlen])
    refine gr.add1W (x := encF x) rfl rfl (by omega) fun v' H' g' w' => ?_
    simp only [go_sem, Int.reduceEq, Int.reduceAdd, Int.reduceSub, Int.reduceMul, Nat.reduceLT, Int.reduceLT, Int.reduceLE, Int.reduceToNat, Nat.reduceAdd, Nat.reduceSub, Nat.reduceMul, Nat.reduceLeDiff, reduceCtorEq]
    have e1 : cat encF l ++ encF x = cat encF (l ++ [x]) := by rw [cat_append]; simp [cat]
    rw [e1] at g'
    refine hQ _ _ _ _ _ _ (.inr rfl) rfl (FzH.refl _) (FzL.refl _ _ _) ⟨g', w'⟩
  have hlt : i < l.length := by omega
  rcases gr.how with ⟨rfl, hl, rfl⟩ | ⟨rfl, _⟩ | ⟨id, cap, junk, tot, rfl, hcap, hT, hid, rfl⟩
  · omega
  · exact absurd rfl (hw _ _ _)
  have hcl := cat_len (enc := encF) encF_len
  have s1 := own_lo (esz := 4) (id := id) (n := l.length) (cap := cap) (k1 := .i64) (a := i) (by omega) hi hcap
  have d1 : decide (i = l.length) = false := decide_eq_false (by omega)
  have a1 := wadd1 (k := l.length) (by omega)
  by_cases hc : cap < l.length + 1
  · have d2 : decide (((cap : Nat) : Int) < ((l.length + 1 : Nat) : Int)) = true := decide_eq_true (by omega)
    have s2 := own_hi (esz := 4) (id := id) (n := l.length) (cap := cap) (k2 := .i64) (b := i) (by omega)
    refine CallsA.go ?_
    (refine CallsA.enterR (ac := c75) (rs := r75) Try.func75 rfl (by decide) c75_ok r75_ok ?_; intro Q hQ; simp only [go_sem, Int.reduceEq, Int.reduceAdd, Int.reduceSub, Int.reduceMul, Nat.reduceLT, Int.reduceLT, Int.reduceLE, Int.reduceToNat, Nat.reduceAdd, Nat.reduceSub, Nat.reduceMul, Nat.reduceLeDiff, reduceCtorEq, c75, Try.ntmps75, s1, d1, a1, hc, s2])
    have hw1 : IntKind.i64.wrap (((l.length + 1 : Nat) : Int) - (i : Int)) = ((l.length + 1 - i : Nat) : Int) := by rw [w64 (by omega) (by omega)]; omega
    have hti : (l.take i).length = i := by rw [List.length_take]; omega
    have hdi : (l.drop i).length = l.length - i := List.length_drop
    have hA : (cat encF (l.take i)).length = i * 4 := by rw [hcl, hti]
    have e0 : cat encF l ++ junk = cat encF (l.take i) ++ (cat encF (l.drop i) ++ junk) := by rw [← List.append_assoc, ← cat_append, List.take_append_drop]
    have hNN : i + (l.length + 1 - i) = l.length + 1 := by omega
    rw [hw1]
    refine ⟨cat encF (l.take i), ?_, by omega, ?_, ?_, ?_⟩
    · have := part_at (h := upd h0 id (.cells (cat encF l ++ junk) tot)) (esz := 4) (a := 0) (m := i) (c := cap) (P := []) (Q := cat encF (l.take i)) (R := cat encF (l.drop i) ++ junk) (by rw [upd_same, e0]; rfl) rfl hA
      exact this
    · rw [Int.toNat_natCast, hNN]; omega
    · rw [Int.toNat_natCast, hNN]; exact hc
    rw [Int.toNat_natCast, hNN]
    generalize hZ : zrep _ (l.length + 1 - i) = Z
    have hZl : Z.length = (l.length + 1 - i) * 4 := by rw [← hZ]; simp [zrep]
    intro id2 cap2 hid2 hcap2
    have hne : id ≠ id2 := by rintro rfl; rw [upd_same] at hid2; cases hid2
    have h02 : h0 id2 = none := by rw [upd_ne hne.symm] at hid2; exact hid2
    have s3 := own_lo (esz := 4) (id := id2) (n := l.length + 1) (cap := cap2) (k1 := .i64) (a := i) (by omega) (by omega) hcap2
    have a2 := wadd1 (k := i) (by omega)
    have s4 := own_lo (esz := 4) (id := id2) (n := l.length + 1) (cap := cap2) (k1 := .i64) (a := i + 1) (by omega) (by omega) hcap2
    simp only [go_sem, Int.reduceEq, Int.reduceAdd, Int.reduceSub, Int.reduceMul, Nat.reduceLT, Int.reduceLT, Int.reduceLE, Int.reduceToNat, Nat.reduceAdd, Nat.reduceSub, Nat.reduceMul, Nat.reduceLeDiff, reduceCtorEq, s3]
    have m1 : Nat.min 1 (l.length + 1 - i) = 1 := Nat.min_eq_left (by omega)
    refine copy_at (P := cat encF (l.take i)) (Q := Z) (new := encF x) upd_same hA (by rw [hZl]; exact Nat.le_refl _) (by simp only [acells]; rfl) ?_ ?_
    · simp only [slen, m1]; rfl
    simp only [slen, m1]
    rw [show List.take (1 * 4) (encF x) = encF x from rfl, encF_len, upd_upd]
    simp only [go_sem, Int.reduceEq, Int.reduceAdd, Int.reduceSub, Int.reduceMul, Nat.reduceLT, Int.reduceLT, Int.reduceLE, Int.reduceToNat, Nat.reduceAdd, Nat.reduceSub, Nat.reduceMul, Nat.reduceLeDiff, reduceCtorEq, a2, s4, s1]
    have m2 : Nat.min (l.length - i) (l.length + 1 - (i + 1)) = l.length - i := Nat.min_eq_left (by omega)
    have hD : (cat encF (l.drop i)).length = (l.length - i) * 4 := by rw [hcl, hdi]
    have htk : (cat encF (l.drop i)).take ((l.length - i) * 4) = cat encF (l.drop i) := List.take_of_length_le (by omega)
    have hX : (cat encF (l.take i) ++ encF x).length = (i + 1) * 4 := by rw [List.length_append, hA, encF_len]; omega
    refine copy_at (P := cat encF (l.take i) ++ encF x) (Q := Z.drop 4) (new := cat encF (l.drop i)) (by rw [upd_same, List.append_assoc]) hX (by rw [List.length_drop, hZl]; omega) ?_ ?_ ?_
    · refine part_at (P := cat encF (l.take i)) (Q := cat encF (l.drop i)) (R := junk) (by rw [upd_ne hne, upd_same, e0]) hA hD
    · simp only [slen, m2, htk]; exact cat_sca encF_sca _
    simp only [slen, m2, htk, upd_upd]
    simp only [go_sem, Int.reduceEq, Int.reduceAdd, Int.reduceSub, Int.reduceMul, Nat.reduceLT, Int.reduceLT, Int.reduceLE, Int.reduceToNat, Nat.reduceAdd, Nat.reduceSub, Nat.reduceMul, Nat.reduceLeDiff, reduceCtorEq]
    have hfin : cat encF (l.take i) ++ encF x ++ (cat encF (l.drop i) ++ List.drop (cat encF (l.drop i)).length (Z.drop 4)) = cat encF (l.take i ++ x :: l.drop i) ++ List.drop (cat encF (l.drop i)).length (Z.drop 4) := by
      rw [cat_append, cat_cons]; simp only [List.append_assoc]
    rw [hfin]
    have hLL : (l.take i ++ x :: l.drop i).length = l.length + 1 := by rw [List.length_append, List.length_cons, hti, hdi]; omega
    refine hQ _ _ _ _ (upd h0 id2 (.cells (cat encF (l.take i ++ x :: l.drop i) ++ List.drop (cat encF (l.drop i)).length (Z.drop 4)) (cap2 * 4))) _ (.inr rfl) rfl (FzH.sub fun y o e => ?_) (FzL.refl _ _ _) ⟨⟨by rw [hcl, hLL], cat_sca encF_sca _, .inr (.inr ⟨id2, cap2, _, _, rfl, hcap2, Nat.le_refl _, h02, rfl⟩)⟩, Wr.sl⟩
    by_cases hy : y = id2
    · subst hy; rw [upd_same] at e ⊢; exact e
    · rw [upd_ne hy] at e ⊢
      rw [upd_ne (by rintro rfl; rw [hid] at e; cases e)]; exact e
  · have hTn : (l.length + 1) * 4 ≤ tot := Nat.le_trans (Nat.mul_le_mul_right 4 (by omega)) hT
    obtain ⟨J, hJ, hz⟩ : ∃ J, 4 ≤ J.length ∧ FzH (upd h0 id (.cells (cat encF l ++ junk) tot)) (upd h0 id (.cells (cat encF l ++ J) tot)) := by
      by_cases h4 : 4 ≤ junk.length
      · exact ⟨junk, h4, FzH.refl _⟩
      · refine ⟨junk ++ List.replicate (4 - junk.length) .undef, by rw [List.length_append, List.length_replicate]; omega, fun y o e => ?_⟩
        by_cases hy : y = id
        · subst hy
          rw [upd_same] at e ⊢
          cases e
          refine ⟨_, rfl, ?_⟩
          rw [← List.append_assoc]
          exact .pad _ (by rw [List.length_append, hcl]; omega)
        · rw [upd_ne hy] at e ⊢; exact ⟨o, e, .refl _⟩
    refine ⟨_, _, hz, FzL.refl _ _ _, .inl ?_⟩
    have d2 : ¬ cap < l.length + 1 := hc
    have s2 := own_hi (esz := 4) (id := id) (n := l.length) (cap := cap) (k2 := .i64) (b := l.length + 1) (by omega)
    have s4 := own_lo (esz := 4) (id := id) (n := l.length + 1) (cap := cap) (k1 := .i64) (a := i + 1) (by omega) (by omega) (by omega)
    have s5 := own_lo (esz := 4) (id := id) (n := l.length + 1) (cap := cap) (k1 := .i64) (a := i) (by omega) (by omega) (by omega)
    have a2 := wadd1 (k := i) (by omega)
    (refine CallsA.enterR (ac := c75) (rs := r75) Try.func75 rfl (by decide) c75_ok r75_ok ?_; intro Q hQ; simp only [go_sem, Int.reduceEq, Int.reduceAdd, Int.reduceSub, Int.reduceMul, Nat.reduceLT, Int.reduceLT, Int.reduceLE, Int.reduceToNat, Nat.reduceAdd, Nat.reduceSub, Nat.reduceMul, Nat.reduceLeDiff, reduceCtorEq, c75, Try.ntmps75, s1, d1, a1, d2, s2, a2, s4])
    refine ExtA.use (ovl_spec (tot := tot) (by simp [encF]) upd_same (by omega)) ?_
    rintro _ _ ⟨rfl, rfl⟩
    simp only [go_sem, Int.reduceEq, Int.reduceAdd, Int.reduceSub, Int.reduceMul, Nat.reduceLT, Int.reduceLT, Int.reduceLE, Int.reduceToNat, Nat.reduceAdd, Nat.reduceSub, Nat.reduceMul, Nat.reduceLeDiff, reduceCtorEq, s4, s5, a2]
    have hti : (l.take i).length = i := by rw [List.length_take]; omega
    have hti1 : (l.take (i + 1)).length = i + 1 := by rw [List.length_take]; omega
    have hdi : (l.drop i).length = l.length - i := List.length_drop
    have hdi1 : (l.drop (i + 1)).length = l.length - (i + 1) := List.length_drop
    have hA : (cat encF (l.take i)).length = i * 4 := by rw [hcl, hti]
    have hA1 : (cat encF (l.take (i + 1))).length = (i + 1) * 4 := by rw [hcl, hti1]
    have hD : (cat encF (l.drop i)).length = (l.length - i) * 4 := by rw [hcl, hdi]
    have hD1 : (cat encF (l.drop (i + 1))).length = (l.length - (i + 1)) * 4 := by rw [hcl, hdi1]
    have e1 : cat encF l ++ J = cat encF (l.take (i + 1)) ++ (cat encF (l.drop (i + 1)) ++ J) := by rw [← List.append_assoc, ← cat_append, List.take_append_drop]
    have e0 : cat encF l ++ J = cat encF (l.take i) ++ (cat encF (l.drop i) ++ J.take 4 ++ J.drop 4) := by
      rw [List.append_assoc, List.take_append_drop, ← List.append_assoc, ← cat_append, List.take_append_drop]
    have m2 : Nat.min (l.length + 1 - i) (l.length + 1 - (i + 1)) = l.length - i := by
      rw [show l.length + 1 - (i + 1) = l.length - i by omega]; exact Nat.min_eq_right (by omega)
    have htk : (cat encF (l.drop i) ++ J.take 4).take ((l.length - i) * 4) = cat encF (l.drop i) := by rw [← hD, List.take_left]
    refine copy_at (P := cat encF (l.take (i + 1))) (Q := cat encF (l.drop (i + 1)) ++ J) (new := cat encF (l.drop i) ++ J.take 4) (by rw [upd_same, e1]) hA1 (by rw [List.length_append, hD1]; omega) ?_ ?_ ?_
    · refine part_at (P := cat encF (l.take i)) (Q := cat encF (l.drop i) ++ J.take 4) (R := J.drop 4) (by rw [upd_same, e0]) hA ?_
      rw [List.length_append, hD, List.length_take, Nat.min_eq_left hJ]; omega
    · simp only [slen, m2, htk]; exact cat_sca encF_sca _
    simp only [slen, m2, htk, upd_upd]
    simp only [go_sem, Int.reduceEq, Int.reduceAdd, Int.reduceSub, Int.reduceMul, Nat.reduceLT, Int.reduceLT, Int.reduceLE, Int.reduceToNat, Nat.reduceAdd, Nat.reduceSub, Nat.reduceMul, Nat.reduceLeDiff, reduceCtorEq, s5]
    have m1 : Nat.min 1 (l.length + 1 - i) = 1 := Nat.min_eq_left (by omega)
    obtain ⟨R, hR⟩ : ∃ R, cat encF (l.take (i + 1)) ++ (cat encF (l.drop i) ++ List.drop (cat encF (l.drop i)).length (cat encF (l.drop (i + 1)) ++ J)) = cat encF (l.take i) ++ (encF l[i] ++ (cat encF (l.drop i) ++ R)) := by
      refine ⟨List.drop (cat encF (l.drop i)).length (cat encF (l.drop (i + 1)) ++ J), ?_⟩
      rw [List.take_succ_eq_append_getElem hlt, cat_append]
      simp [cat]
    rw [hR]
    refine copy_at (P := cat encF (l.take i)) (Q := encF l[i] ++ (cat encF (l.drop i) ++ R)) (new := encF x) upd_same hA (by rw [List.length_append, List.length_append, hD, encF_len]; omega) (by simp only [acells]; rfl) ?_ ?_
    · simp only [slen, m1]; rfl
    simp only [slen, m1]
    rw [show List.take (1 * 4) (encF x) = encF x from rfl, show (encF x).length = (encF l[i]).length from rfl, List.drop_left, upd_upd]
    simp only [go_sem, Int.reduceEq, Int.reduceAdd, Int.reduceSub, Int.reduceMul, Nat.reduceLT, Int.reduceLT, Int.reduceLE, Int.reduceToNat, Nat.reduceAdd, Nat.reduceSub, Nat.reduceMul, Nat.reduceLeDiff, reduceCtorEq]
    have hfin : cat encF (l.take i) ++ (encF x ++ (cat encF (l.drop i) ++ R)) = cat encF (l.take i ++ x :: l.drop i) ++ R := by
      rw [cat_append, cat_cons]; simp only [List.append_assoc]
    rw [hfin]
    have hLL : (l.take i ++ x :: l.drop i).length = l.length + 1 := by rw [List.length_append, List.length_cons, hti, hdi]; omega
    refine hQ _ _ _ _ _ _ (.inr rfl) rfl (FzH.refl _) (FzL.refl _ _ _) ⟨⟨by rw [hcl, hLL], cat_sca encF_sca _, .inr (.inr ⟨id, cap, R, tot, rfl, by omega, hT, hid, rfl⟩)⟩, Wr.sl⟩

end Go.Proofs.Ytfgapneenpdnoaa
