/-
  Targets: what the document's table does.
-/
import Derived.Test.YtaifdlegjhncaaaTw
namespace Go.Proofs.Ytaifdlegjhncaaa
open Go E
set_option linter.unusedVariables false
set_option linter.unusedSimpArgs false
set_option maxRecDepth 100000

/-- The document's table, as cells. -/
def dT (most : Int) (L : List Rt) : AObj := .cells [.int .i64 most, .ro (cat Rt.av L) L.length false] 2

theorem rfind_spec {q : Nat} {most : Int} {L : List Rt} {h : AHeap} (hd : h q = some (dT most L)) (hn : L.length ≤ 1000000) (n : Int) : PureA Try.prog 22 [.ptr q 0, .int .i64 n] h (.int .i64 (idxP (fun e => decide (e.node = n)) L)) := by
  unfold dT at hd
  (refine PureA.enter (ac := c22) (rs := r22) Try.func22 rfl (by decide) c22_ok r22_ok ?_; intro Q hQ; simp only [go_sem, Int.reduceEq, Int.reduceAdd, Int.reduceSub, Int.reduceMul, Nat.reduceLT, Int.reduceLT, Int.reduceLE, Int.reduceToNat, Nat.reduceAdd, Nat.reduceSub, Nat.reduceMul, Nat.reduceLeDiff, reduceCtorEq, c22, Try.ntmps22])
  refine loop_range d22_0 (L.length) (fun k s => s.set 5 (.int .i64 k)) (fun k h' => ((L.take k).any (fun e => decide (e.node = n)) = false) ∧ h' = h) ?_ ⟨rfl, rfl⟩ ?_
  · (simp only [go_sem, Int.reduceEq, Int.reduceAdd, Int.reduceSub, Int.reduceMul, Nat.reduceLT, Int.reduceLT, Int.reduceLE, Int.reduceToNat, Nat.reduceAdd, Nat.reduceSub, Nat.reduceMul, Nat.reduceLeDiff, reduceCtorEq, d22_0] <;> rfl)
  rintro N k h' hk ⟨hall, rfl⟩ hN
  simp only [go_sem, Int.reduceEq, Int.reduceAdd, Int.reduceSub, Int.reduceMul, Nat.reduceLT, Int.reduceLT, Int.reduceLE, Int.reduceToNat, Nat.reduceAdd, Nat.reduceSub, Nat.reduceMul, Nat.reduceLeDiff, reduceCtorEq, d22_0]
  have hadd := wadd1 (k := k) (by omega)
  by_cases hlt : k < L.length
  · have ht := take_any hlt hall
    have hh := idx_hit hlt hall
    have q0 : ∀ t : Rt, (Rt.av t)[0]? = some (.int .i64 t.node) := fun _ => rfl
    have r0 := fun h' => (rd_first (h := h') Rt.len (by omega) hlt).trans (q0 _)
    simp only [go_sem, Int.reduceEq, Int.reduceAdd, Int.reduceSub, Int.reduceMul, Nat.reduceLT, Int.reduceLT, Int.reduceLE, Int.reduceToNat, Nat.reduceAdd, Nat.reduceSub, Nat.reduceMul, Nat.reduceLeDiff, reduceCtorEq, hd, hlt, hadd, r0]
    cases e : decide (L[k].node = n)
    · simp only [go_sem, Int.reduceEq, Int.reduceAdd, Int.reduceSub, Int.reduceMul, Nat.reduceLT, Int.reduceLT, Int.reduceLE, Int.reduceToNat, Nat.reduceAdd, Nat.reduceSub, Nat.reduceMul, Nat.reduceLeDiff, reduceCtorEq, e]
      (refine hN _ _ hlt ?_ ⟨?_, rfl⟩; (simp only [go_sem, Int.reduceEq, Int.reduceAdd, Int.reduceSub, Int.reduceMul, Nat.reduceLT, Int.reduceLT, Int.reduceLE, Int.reduceToNat, Nat.reduceAdd, Nat.reduceSub, Nat.reduceMul, Nat.reduceLeDiff, reduceCtorEq, d22_0, hadd]))
      rw [ht]; exact e
    · simp only [go_sem, Int.reduceEq, Int.reduceAdd, Int.reduceSub, Int.reduceMul, Nat.reduceLT, Int.reduceLT, Int.reduceLE, Int.reduceToNat, Nat.reduceAdd, Nat.reduceSub, Nat.reduceMul, Nat.reduceLeDiff, reduceCtorEq, e]
      (refine hQ _ _ _ _ _ (by first | exact .inr rfl | exact .inl rfl) rfl (by first | exact FzH.refl _ | exact FzH.sub (by (repeat' (first | exact Sub.refl _ | assumption | (refine Sub.upd ?_ (by first | assumption | (simp only [*]; done) | exact Sub.isNone (by assumption) (by assumption) | exact Sub.isNone (by assumption) (by simp only [*]))))))) (FzL.refl _ _ _) ?_; try (simp only [go_sem, Int.reduceEq, Int.reduceAdd, Int.reduceSub, Int.reduceMul, Nat.reduceLT, Int.reduceLT, Int.reduceLE, Int.reduceToNat, Nat.reduceAdd, Nat.reduceSub, Nat.reduceMul, Nat.reduceLeDiff, reduceCtorEq, hh e]))
  · simp only [go_sem, Int.reduceEq, Int.reduceAdd, Int.reduceSub, Int.reduceMul, Nat.reduceLT, Int.reduceLT, Int.reduceLE, Int.reduceToNat, Nat.reduceAdd, Nat.reduceSub, Nat.reduceMul, Nat.reduceLeDiff, reduceCtorEq, hd, hlt]
    refine frz_id ?_
    simp only [go_sem, Int.reduceEq, Int.reduceAdd, Int.reduceSub, Int.reduceMul, Nat.reduceLT, Int.reduceLT, Int.reduceLE, Int.reduceToNat, Nat.reduceAdd, Nat.reduceSub, Nat.reduceMul, Nat.reduceLeDiff, reduceCtorEq]
    refine hQ _ _ _ _ _ (by first | exact .inr rfl | exact .inl rfl) rfl (by first | exact FzH.refl _ | exact FzH.sub (by (repeat' (first | exact Sub.refl _ | assumption | (refine Sub.upd ?_ (by first | assumption | (simp only [*]; done) | exact Sub.isNone (by assumption) (by assumption) | exact Sub.isNone (by assumption) (by simp only [*]))))))) (FzL.refl _ _ _) ?_
    rw [List.take_of_length_le (by omega)] at hall
    simp only [go_sem, Int.reduceEq, Int.reduceAdd, Int.reduceSub, Int.reduceMul, Nat.reduceLT, Int.reduceLT, Int.reduceLE, Int.reduceToNat, Nat.reduceAdd, Nat.reduceSub, Nat.reduceMul, Nat.reduceLeDiff, reduceCtorEq, idx_none hall]

theorem idx_allR {f : Tr} (ok : trOk f) (n : Int) : (alook f n = none ∧ idxP (fun e => decide (e.node = n)) (allR f) = -1) ∨ ∃ i, ∃ hi : i < (allR f).length, (allR f)[i].node = n ∧ alook f n = some (allR f)[i] ∧ idxP (fun e => decide (e.node = n)) (allR f) = (i : Int) := by
  rcases look_idx ok n with ⟨h1, h2⟩ | ⟨i, hi, h1, h2⟩
  · exact .inl ⟨h1, idx_none (List.any_eq_false.2 fun x hx => by simpa using h2 x hx)⟩
  · refine .inr ⟨i, hi, h1, h2, idx_hit hi ?_ (decide_eq_true h1)⟩
    rw [List.any_eq_false]
    intro x hx
    obtain ⟨j, hj, rfl⟩ := List.mem_iff_getElem.1 hx
    rw [List.length_take] at hj
    rw [List.getElem_take]
    simp only [decide_eq_true_eq]
    intro e
    have := sort_inj (allR_sort ok) (i := j) (j := i) (by omega) hi (by rw [e, h1])
    omega

theorem upd_self {H : AHeap} {q : Nat} {o : AObj} (h : H q = some o) : upd H q o = H := by
  funext x
  unfold upd
  split
  · rename_i e; rw [e, h]
  · rfl

/-- A list that one built is laid into the table. -/
theorem E.Grow.fzd {h0 h k h' : AHeap} {esz n : Nat} {v : AV} {cs : List AV} (c : Grow h0 esz v cs n h) (hs : ∀ id o, h0 id = Option.none → h id = some o → k id = some o) (hn : ∀ id, h0 id = Option.none → h' id = Option.none) : Fz k h' v (.ro cs n false) := by
  have hsz := c.size
  rcases c.how with ⟨rfl, rfl, rfl⟩ | ⟨rfl, rfl⟩ | ⟨id, cap, junk, tot, rfl, hc, hT, hid, rfl⟩
  · have : cs = [] := by simpa using hsz
    subst this; exact .nils
  · exact .ro (FzL.refl _ _ _) (by simp)
  · refine .sl (cs := cs ++ junk) (tot := tot) cs.length (hs id _ hid upd_same) (hn id hid) (by simp) ?_ (by simp)
    simp only [List.drop_zero, List.take_left]
    exact FzL.refl _ _ _

theorem still_dT {H h2 : AHeap} {q n : Nat} {v : AV} {cs : List AV} {most : AV} {p : AObj} (g : Grow H 4 v cs n h2) (hq : H q = some p) : FzH (upd h2 q (.cells [most, v] 2)) (upd H q (.cells [most, .ro cs n false] 2)) := by
  intro x o hx
  by_cases e : x = q
  · subst e
    rw [upd_same] at hx ⊢
    cases hx
    refine ⟨_, rfl, .cells (.cons (.refl _) (.cons (g.fzd (fun y o h1 h2 => ?_) fun y h1 => ?_) .nil))⟩
    · have hy : y ≠ x := fun e => by rw [e, hq] at h1; cases h1
      rw [upd_ne hy]; exact h2
    · have hy : y ≠ x := fun e => by rw [e, hq] at h1; cases h1
      rw [upd_ne hy]; exact h1
  · rw [upd_ne e] at hx ⊢
    exact ⟨o, g.keep hx, .refl _⟩

theorem rdrop_spec {q : Nat} {most : Int} {L : List Rt} {H : AHeap} (hd : H q = some (dT most L)) (hn : L.length ≤ 1000) {i : Nat} (hi : i < L.length) :
    CallsA Try.prog 30 [.ptr q 0, .int .i64 (i : Int)] H (fun r H' => r = .tup [] ∧ H' = upd H q (dT most (L.take i ++ L.drop (i + 1)))) := by
  have hdc := hd
  unfold dT at hdc
  have haddi := wadd1 (k := i) (by omega)
  have s1 := sl_hi (ex := false) (k1 := .i64) Rt.len (l := L) (b := i) (by omega)
  have s2 := sl_lo (ex := false) (k1 := .i64) Rt.len (l := L) (a := i + 1) (by omega)
  (refine CallsA.enterR (ac := c30) (rs := r30) Try.func30 rfl (by decide) c30_ok r30_ok ?_; intro Q hQ; simp only [go_sem, Int.reduceEq, Int.reduceAdd, Int.reduceSub, Int.reduceMul, Nat.reduceLT, Int.reduceLT, Int.reduceLE, Int.reduceToNat, Nat.reduceAdd, Nat.reduceSub, Nat.reduceMul, Nat.reduceLeDiff, reduceCtorEq, c30, Try.ntmps30])
  simp only [go_sem, Int.reduceEq, Int.reduceAdd, Int.reduceSub, Int.reduceMul, Nat.reduceLT, Int.reduceLT, Int.reduceLE, Int.reduceToNat, Nat.reduceAdd, Nat.reduceSub, Nat.reduceMul, Nat.reduceLeDiff, reduceCtorEq, hdc, haddi, s1, s2]
  refine (Grow.lit (h0 := H) (esz := 4) (cs := []) (n := 0) rfl rfl).addN (b := 32) (m := (L.take i).length) (by rw [cat_len Rt.len]) (cat_sca Rt.sca _) (by rw [List.length_take]; omega) fun v1 h1' g1 => ?_
  simp only [go_sem, Int.reduceEq, Int.reduceAdd, Int.reduceSub, Int.reduceMul, Nat.reduceLT, Int.reduceLT, Int.reduceLE, Int.reduceToNat, Nat.reduceAdd, Nat.reduceSub, Nat.reduceMul, Nat.reduceLeDiff, reduceCtorEq, g1.keep hdc]
  refine g1.addN (b := 32) (m := (L.drop (i + 1)).length) (by rw [cat_len Rt.len]) (cat_sca Rt.sca _) (by rw [List.length_take, List.length_drop]; omega) fun v2 h2' g2 => ?_
  have eo : [] ++ cat Rt.av (L.take i) ++ cat Rt.av (L.drop (i + 1)) = cat Rt.av (L.take i ++ L.drop (i + 1)) := by rw [cat_append, List.nil_append]
  have en : 0 + (L.take i).length + (L.drop (i + 1)).length = (L.take i ++ L.drop (i + 1)).length := by rw [List.length_append]; omega
  rw [eo, en] at g2
  have hb := g2.box
  simp only [go_sem, Int.reduceEq, Int.reduceAdd, Int.reduceSub, Int.reduceMul, Nat.reduceLT, Int.reduceLT, Int.reduceLE, Int.reduceToNat, Nat.reduceAdd, Nat.reduceSub, Nat.reduceMul, Nat.reduceLeDiff, reduceCtorEq, g2.keep hdc, g1.keep hdc, hb.1, hb.2]
  refine hQ _ _ _ _ (upd H q (dT most (L.take i ++ L.drop (i + 1)))) _ (.inl rfl) rfl (still_dT g2 hd) (FzL.refl _ _ _) ⟨rfl, rfl⟩

/-- In its place. -/
theorem repl_allR {f : Tr} (ok : trOk f) (r : Rt) {i : Nat} (hi : i < (allR f).length) (h : (allR f)[i].node = r.node) : (allR f).take i ++ r :: (allR f).drop (i + 1) = allR (aset f r.node r) := by
  have hs := allR_sort ok
  have h1 : allR (adel f r.node) = (allR f).take i ++ (allR f).drop (i + 1) := by rw [← dropD_allN ok, ← h]; exact dropD_at hs hi
  have hp := List.pairwise_iff_getElem.1 hs
  have hl : ((allR f).take i).length = i := by rw [List.length_take]; omega
  have t1 : (allR (adel f r.node)).take i = (allR f).take i := by rw [h1, List.take_append_of_le_length (by omega), List.take_of_length_le (by omega)]
  have t2 : (allR (adel f r.node)).drop i = (allR f).drop (i + 1) := by rw [h1, List.drop_append_of_le_length (by omega), List.drop_of_length_le (by omega)]; rfl
  have := addD_allN ok r (i := i) (by rw [h1, List.length_append]; omega) (fun x hx => by
    rw [t1] at hx
    obtain ⟨j, hj, rfl⟩ := List.mem_iff_getElem.1 hx
    rw [List.length_take] at hj
    rw [List.getElem_take]
    have := hp j i (by omega) hi (by omega)
    omega) (fun x hx => by
    rw [t2] at hx
    obtain ⟨j, hj, rfl⟩ := List.mem_iff_getElem.1 hx
    rw [List.length_drop] at hj
    rw [List.getElem_drop]
    have := hp i (i + 1 + j) hi (by omega) (by omega)
    omega)
  rw [t1, t2] at this
  exact this

theorem adel_none {f : Tr} {n : Int} (h : alook f n = none) : adel f n = f := adel_eq (by have := alook_none.1 h; exact this)

def tGood (f : Tr) : Prop := ∀ p ∈ f, okR p.2 = true
theorem okR_parts {r : Rt} (h : okR r = true) : isNode r.node = true ∧ isNode r.via = true ∧ isCtr r.sq = true := by
  unfold okR at h
  simp only [Bool.and_eq_true] at h
  exact ⟨h.1.1.1, h.1.1.2, h.1.2⟩
theorem tGood_all {f : Tr} (g : tGood f) {x : Rt} (hx : x ∈ allR f) : okR x = true := by
  obtain ⟨p, hp, rfl⟩ := List.mem_map.1 (mem_allN.1 hx)
  exact g p hp

set_option maxHeartbeats 4000000 in
theorem rlearn_spec {q : Nat} {most : Int} {f : Tr} {h : AHeap} (ok : trOk f) (gd : tGood f) (r : Rt) (hd : h q = some (dT most (allR f))) (hn : f.length ≤ 1000) :
    CallsA Try.prog 8 [.ptr q 0, .agg r.av] h (fun v H' => v = .int .i64 (learnE most f r) ∧ H' = upd h q (dT most (allR (learnF most f r)))) := by
  have hal : (allR f).length = f.length := allR_len f
  have htk : List.take 4 r.av = r.av := rfl
  have hd0 : r.av.head? = some (.int .i64 r.node) := rfl
  have q0 : ∀ t : Rt, (Rt.av t)[0]? = some (.int .i64 t.node) := fun _ => rfl
  have q1 : ∀ t : Rt, (Rt.av t)[1]? = some (.int .i64 t.via) := fun _ => rfl
  have q2 : ∀ t : Rt, (Rt.av t)[2]? = some (.int .i64 t.sq) := fun _ => rfl
  have hdc := hd
  unfold dT at hdc
  (refine CallsA.enterR (ac := c8) (rs := r8) Try.func8 rfl (by decide) c8_ok r8_ok ?_; intro Q hQ; simp only [go_sem, Int.reduceEq, Int.reduceAdd, Int.reduceSub, Int.reduceMul, Nat.reduceLT, Int.reduceLT, Int.reduceLE, Int.reduceToNat, Nat.reduceAdd, Nat.reduceSub, Nat.reduceMul, Nat.reduceLeDiff, reduceCtorEq, c8, Try.ntmps8])
  simp only [go_sem, Int.reduceEq, Int.reduceAdd, Int.reduceSub, Int.reduceMul, Nat.reduceLT, Int.reduceLT, Int.reduceLE, Int.reduceToNat, Nat.reduceAdd, Nat.reduceSub, Nat.reduceMul, Nat.reduceLeDiff, reduceCtorEq, htk, Rt.len]
  refine (rright_spec r _).use ?_
  cases g1 : okR r
  · have e : learnE most f r = 1 := by unfold learnE; rw [g1]; rfl
    have e2 : learnF most f r = f := by unfold learnF; rw [e]; rfl
    rw [e2, upd_self hd, e] at hQ
    simp only [go_sem, Int.reduceEq, Int.reduceAdd, Int.reduceSub, Int.reduceMul, Nat.reduceLT, Int.reduceLT, Int.reduceLE, Int.reduceToNat, Nat.reduceAdd, Nat.reduceSub, Nat.reduceMul, Nat.reduceLeDiff, reduceCtorEq]
    exact hQ _ _ _ _ h _ (.inr rfl) rfl (FzH.refl _) (FzL.refl _ _ _) ⟨rfl, rfl⟩
  have p1 := okR_parts g1
  simp only [go_sem, Int.reduceEq, Int.reduceAdd, Int.reduceSub, Int.reduceMul, Nat.reduceLT, Int.reduceLT, Int.reduceLE, Int.reduceToNat, Nat.reduceAdd, Nat.reduceSub, Nat.reduceMul, Nat.reduceLeDiff, reduceCtorEq, hd0]
  refine (rfind_spec hd (by omega) r.node).use ?_
  rcases idx_allR ok r.node with ⟨i1, i2⟩ | ⟨i, hi, i1, i2, i3⟩
  · by_cases g3 : most ≤ (f.length : Int)
    · have e : learnE most f r = 7 := by unfold learnE; rw [g1, i1]; simp [g3]
      have e2 : learnF most f r = f := by unfold learnF; rw [e]; rfl
      rw [e2, upd_self hd, e] at hQ
      have g3' : most ≤ ((allR f).length : Int) := by omega
      simp only [go_sem, Int.reduceEq, Int.reduceAdd, Int.reduceSub, Int.reduceMul, Nat.reduceLT, Int.reduceLT, Int.reduceLE, Int.reduceToNat, Nat.reduceAdd, Nat.reduceSub, Nat.reduceMul, Nat.reduceLeDiff, reduceCtorEq, i2, hdc, g3']
      exact hQ _ _ _ _ h _ (.inr rfl) rfl (FzH.refl _) (FzL.refl _ _ _) ⟨rfl, rfl⟩
    · have e : learnE most f r = 0 := by unfold learnE; rw [g1, i1]; simp [g3]
      have e2 : learnF most f r = aset f r.node r := by unfold learnF; rw [if_pos e]
      rw [e2, e] at hQ
      have g3' : ¬ most ≤ ((allR f).length : Int) := by omega
      have hadd := fun i => addD_allN ok r (i := i)
      rw [adel_none i1] at hadd
      have hs := allR_sort ok
      have hne : ∀ x ∈ allR f, x.node ≠ r.node := fun x hx he => by
        have := valR_look ok (mem_allN.1 hx)
        rw [he, i1] at this; cases this
      generalize allR f = L at *
      simp only [go_sem, Int.reduceEq, Int.reduceAdd, Int.reduceSub, Int.reduceMul, Nat.reduceLT, Int.reduceLT, Int.reduceLE, Int.reduceToNat, Nat.reduceAdd, Nat.reduceSub, Nat.reduceMul, Nat.reduceLeDiff, reduceCtorEq, i2, hdc, g3']
      refine loop_st d8_0 (fun k : Nat => L.length - k) (fun k s => s.set 8 (.int .i64 (k : Int))) (fun k H' => k ≤ L.length ∧ H' = h ∧ ∀ x ∈ L.take k, x.node < r.node) 0 ?_ ⟨Nat.zero_le _, rfl, fun x hx => by simp at hx⟩ ?_
      · (simp only [go_sem, Int.reduceEq, Int.reduceAdd, Int.reduceSub, Int.reduceMul, Nat.reduceLT, Int.reduceLT, Int.reduceLE, Int.reduceToNat, Nat.reduceAdd, Nat.reduceSub, Nat.reduceMul, Nat.reduceLeDiff, reduceCtorEq, d8_0] <;> rfl)
      rintro N k H1 ⟨hk, eH, hall⟩ hN
      rw [eH]
      simp only [go_sem, Int.reduceEq, Int.reduceAdd, Int.reduceSub, Int.reduceMul, Nat.reduceLT, Int.reduceLT, Int.reduceLE, Int.reduceToNat, Nat.reduceAdd, Nat.reduceSub, Nat.reduceMul, Nat.reduceLeDiff, reduceCtorEq, d8_0, hdc]
      have haddk := wadd1 (k := k) (by omega)
      by_cases hgo : ∃ hlt : k < L.length, L[k].node < r.node
      · obtain ⟨hlt, hlt2⟩ := hgo
        have r0 := (rd_first (h := h) Rt.len (by omega) hlt).trans (q0 _)
        simp only [go_sem, Int.reduceEq, Int.reduceAdd, Int.reduceSub, Int.reduceMul, Nat.reduceLT, Int.reduceLT, Int.reduceLE, Int.reduceToNat, Nat.reduceAdd, Nat.reduceSub, Nat.reduceMul, Nat.reduceLeDiff, reduceCtorEq, hlt, hdc, r0, hd0, hlt2, haddk]
        refine hN (k + 1) _ _ (by omega) ?_ ⟨hlt, rfl, fun x hx => ?_⟩
        · simp only [go_sem, Int.reduceEq, Int.reduceAdd, Int.reduceSub, Int.reduceMul, Nat.reduceLT, Int.reduceLT, Int.reduceLE, Int.reduceToNat, Nat.reduceAdd, Nat.reduceSub, Nat.reduceMul, Nat.reduceLeDiff, reduceCtorEq, d8_0]
        · rw [List.take_succ_eq_append_getElem hlt] at hx
          rcases List.mem_append.1 hx with hx | hx
          · exact hall x hx
          · simp at hx; rw [hx]; exact hlt2
      · have hdrop : ∀ x ∈ L.drop k, r.node ≤ x.node := fun x hx => by
          by_cases hlt : k < L.length
          · have h1 : ¬ L[k].node < r.node := fun g => hgo ⟨hlt, g⟩
            have hp := List.pairwise_iff_getElem.1 hs
            obtain ⟨j, hj, rfl⟩ := List.mem_iff_getElem.1 hx
            rw [List.length_drop] at hj
            rw [List.getElem_drop]
            rcases Nat.eq_zero_or_pos j with h0 | h0
            · subst h0; simp only [Nat.add_zero]; omega
            · have := hp k (k + j) hlt (by omega) (by omega); omega
          · rw [List.drop_of_length_le (by omega)] at hx; cases hx
        have hres := hadd k hk hall hdrop
        rw [← hres] at hQ
        have s1 := sl_hi (ex := false) (k1 := .i64) Rt.len (l := L) (b := k) (by omega)
        have s2 := sl_lo (ex := false) (k1 := .i64) Rt.len (l := L) (a := k) (by omega)
        rcases (show (∃ hlt : k < L.length, ¬ L[k].node < r.node) ∨ ¬ k < L.length by
            by_cases hlt : k < L.length
            · exact .inl ⟨hlt, fun g => hgo ⟨hlt, g⟩⟩
            · exact .inr hlt) with ⟨hlt, hlt2⟩ | hlt <;> (first | (simp only [go_sem, Int.reduceEq, Int.reduceAdd, Int.reduceSub, Int.reduceMul, Nat.reduceLT, Int.reduceLT, Int.reduceLE, Int.reduceToNat, Nat.reduceAdd, Nat.reduceSub, Nat.reduceMul, Nat.reduceLeDiff, reduceCtorEq, hlt, hdc, (rd_first (h := h) Rt.len (by omega) hlt).trans (q0 _), hd0, hlt2]) | (simp only [go_sem, Int.reduceEq, Int.reduceAdd, Int.reduceSub, Int.reduceMul, Nat.reduceLT, Int.reduceLT, Int.reduceLE, Int.reduceToNat, Nat.reduceAdd, Nat.reduceSub, Nat.reduceMul, Nat.reduceLeDiff, reduceCtorEq, hlt])) <;>
        ( refine frz_id ?_
          simp only [go_sem, Int.reduceEq, Int.reduceAdd, Int.reduceSub, Int.reduceMul, Nat.reduceLT, Int.reduceLT, Int.reduceLE, Int.reduceToNat, Nat.reduceAdd, Nat.reduceSub, Nat.reduceMul, Nat.reduceLeDiff, reduceCtorEq, hdc, s1, s2, htk, Rt.len]
          refine (Grow.lit (h0 := h) (esz := 4) (cs := []) (n := 0) rfl rfl).addN (b := 32) (m := (L.take k).length) (by rw [cat_len Rt.len]) (cat_sca Rt.sca _) (by rw [List.length_take]; omega) fun v1 h1' g1 => ?_
          simp only [go_sem, Int.reduceEq, Int.reduceAdd, Int.reduceSub, Int.reduceMul, Nat.reduceLT, Int.reduceLT, Int.reduceLE, Int.reduceToNat, Nat.reduceAdd, Nat.reduceSub, Nat.reduceMul, Nat.reduceLeDiff, reduceCtorEq, g1.keep hdc, htk, Rt.len]
          refine g1.addN (b := 32) (m := 1) (ys := r.av) rfl rfl (by rw [List.length_take]; omega) fun v2 h2' g2 => ?_
          simp only [go_sem, Int.reduceEq, Int.reduceAdd, Int.reduceSub, Int.reduceMul, Nat.reduceLT, Int.reduceLT, Int.reduceLE, Int.reduceToNat, Nat.reduceAdd, Nat.reduceSub, Nat.reduceMul, Nat.reduceLeDiff, reduceCtorEq, g2.keep hdc]
          refine g2.addN (b := 32) (m := (L.drop k).length) (by rw [cat_len Rt.len]) (cat_sca Rt.sca _) (by rw [List.length_take, List.length_drop]; omega) fun v3 h3' g3 => ?_
          have eo : [] ++ cat Rt.av (L.take k) ++ r.av ++ cat Rt.av (L.drop k) = cat Rt.av (L.take k ++ r :: L.drop k) := by rw [cat_append, cat_cons, List.nil_append, List.append_assoc]
          have en : 0 + (L.take k).length + 1 + (L.drop k).length = (L.take k ++ r :: L.drop k).length := by rw [List.length_append, List.length_cons]; omega
          rw [eo, en] at g3
          have hb := g3.box
          simp only [go_sem, Int.reduceEq, Int.reduceAdd, Int.reduceSub, Int.reduceMul, Nat.reduceLT, Int.reduceLT, Int.reduceLE, Int.reduceToNat, Nat.reduceAdd, Nat.reduceSub, Nat.reduceMul, Nat.reduceLeDiff, reduceCtorEq, g3.keep hdc, hb.1, hb.2]
          refine hQ _ _ _ _ (upd h q (dT most (L.take k ++ r :: L.drop k))) _ (.inr rfl) rfl (still_dT g3 hd) (FzL.refl _ _ _) ⟨rfl, rfl⟩ )
  · have pi := okR_parts (tGood_all gd (List.getElem_mem hi))
    have hrep := repl_allR ok r hi i1
    have hfr : freshB r (allR f)[i] = true ↔ (cmpL r.sq (allR f)[i].sq = 2 ∨ (cmpL r.sq (allR f)[i].sq = 0 ∧ r.via = (allR f)[i].via)) := by
      unfold freshB newerB
      rw [p1.2.2, pi.2.2, cmpL_zero]
      simp
    have eT : freshB r (allR f)[i] = true → learnE most f r = 0 := fun g => by unfold learnE; rw [g1, i2]; simp [g]
    have eF : freshB r (allR f)[i] = false → learnE most f r = 9 := fun g => by unfold learnE; rw [g1, i2]; simp [g]
    have hT : freshB r (allR f)[i] = true → learnF most f r = aset f r.node r := fun g => by unfold learnF; rw [if_pos (eT g)]
    have hF : freshB r (allR f)[i] = false → learnF most f r = f := fun g => by unfold learnF; rw [eF g]; rfl
    have ra : ∀ h', aloads h' 4 (.rp ((cat Rt.av (allR f)).drop (i * 4))) = some (Rt.av (allR f)[i]) := fun h' => rd_all (h := h') Rt.len hi
    have hi0 : (0 : Int) ≤ (i : Int) := by omega
    have hneg : ¬ ((i : Int) < 0) := by omega
    have haddi := wadd1 (k := i) (by omega)
    have s1 := sl_hi (ex := false) (k1 := .i64) Rt.len (l := allR f) (b := i) (by omega)
    have s2 := sl_lo (ex := false) (k1 := .i64) Rt.len (l := allR f) (a := i + 1) (by omega)
    have hlen : (allR f).length ≤ 1000 := by omega
    have c3 : (allR f)[i].sq = (allR f)[i].sq := rfl
    have hcmp := fun H => rcompare_spec r.sq (allR f)[i].sq p1.2.2 pi.2.2 H
    clear i2 pi gd
    generalize hlist : allR f = L at *
    generalize hold : L[i] = old at *
    simp only [go_sem, Int.reduceEq, Int.reduceAdd, Int.reduceSub, Int.reduceMul, Nat.reduceLT, Int.reduceLT, Int.reduceLE, Int.reduceToNat, Nat.reduceAdd, Nat.reduceSub, Nat.reduceMul, Nat.reduceLeDiff, reduceCtorEq, i3, hi0, hneg, hdc, hi, ra, Rt.len, Rt.sca]
    intro p hp
    have hqp : q ≠ p := by rintro rfl; rw [hd] at hp; cases hp
    simp only [go_sem, Int.reduceEq, Int.reduceAdd, Int.reduceSub, Int.reduceMul, Nat.reduceLT, Int.reduceLT, Int.reduceLE, Int.reduceToNat, Nat.reduceAdd, Nat.reduceSub, Nat.reduceMul, Nat.reduceLeDiff, reduceCtorEq, Rt.av, upd_same]
    refine (hcmp _).use ?_
    rcases (show (cmpL r.sq old.sq = 2 ∨ (cmpL r.sq old.sq = 0 ∧ r.via = old.via)) ∨ ((cmpL r.sq old.sq = 0 ∧ ¬ r.via = old.via) ∨ (¬ cmpL r.sq old.sq = 2 ∧ ¬ cmpL r.sq old.sq = 0)) by
        by_cases a1 : cmpL r.sq old.sq = 2
        · exact .inl (.inl a1)
        · by_cases a2 : cmpL r.sq old.sq = 0
          · by_cases a3 : r.via = old.via
            · exact .inl (.inr ⟨a2, a3⟩)
            · exact .inr (.inl ⟨a2, a3⟩)
          · exact .inr (.inr ⟨a1, a2⟩)) with c | c
    · have gT := hfr.2 c
      rw [eT gT, hT gT, ← hrep] at hQ
      have c2' : r.via = old.via → decide (r.via = old.via) = true := fun c => decide_eq_true c
      rcases c with c1 | ⟨c1, c2⟩
      all_goals
        (first
          | (simp only [go_sem, Int.reduceEq, Int.reduceAdd, Int.reduceSub, Int.reduceMul, Nat.reduceLT, Int.reduceLT, Int.reduceLE, Int.reduceToNat, Nat.reduceAdd, Nat.reduceSub, Nat.reduceMul, Nat.reduceLeDiff, reduceCtorEq, c1, c2' c2, del_same, del_none hp, hdc, s1, haddi, s2])
          | (simp only [go_sem, Int.reduceEq, Int.reduceAdd, Int.reduceSub, Int.reduceMul, Nat.reduceLT, Int.reduceLT, Int.reduceLE, Int.reduceToNat, Nat.reduceAdd, Nat.reduceSub, Nat.reduceMul, Nat.reduceLeDiff, reduceCtorEq, c1, del_same, del_none hp, hdc, s1, haddi, s2]))
        refine (Grow.lit (h0 := h) (esz := 4) (cs := []) (n := 0) rfl rfl).addN (b := 32) (m := (L.take i).length) (by rw [cat_len Rt.len]) (cat_sca Rt.sca _) (by rw [List.length_take]; omega) fun v1 h1' g1 => ?_
        simp only [go_sem, Int.reduceEq, Int.reduceAdd, Int.reduceSub, Int.reduceMul, Nat.reduceLT, Int.reduceLT, Int.reduceLE, Int.reduceToNat, Nat.reduceAdd, Nat.reduceSub, Nat.reduceMul, Nat.reduceLeDiff, reduceCtorEq, g1.keep hdc]
        refine g1.addN (b := 32) (m := 1) (ys := r.av) rfl rfl (by rw [List.length_take]; omega) fun v2 h2' g2 => ?_
        simp only [go_sem, Int.reduceEq, Int.reduceAdd, Int.reduceSub, Int.reduceMul, Nat.reduceLT, Int.reduceLT, Int.reduceLE, Int.reduceToNat, Nat.reduceAdd, Nat.reduceSub, Nat.reduceMul, Nat.reduceLeDiff, reduceCtorEq, g2.keep hdc]
        refine g2.addN (b := 32) (m := (L.drop (i + 1)).length) (by rw [cat_len Rt.len]) (cat_sca Rt.sca _) (by rw [List.length_take, List.length_drop]; omega) fun v3 h3' g3 => ?_
        have eo : [] ++ cat Rt.av (L.take i) ++ r.av ++ cat Rt.av (L.drop (i + 1)) = cat Rt.av (L.take i ++ r :: L.drop (i + 1)) := by rw [cat_append, cat_cons, List.nil_append, List.append_assoc]
        have en : 0 + (L.take i).length + 1 + (L.drop (i + 1)).length = (L.take i ++ r :: L.drop (i + 1)).length := by rw [List.length_append, List.length_cons]; omega
        rw [eo, en] at g3
        have hb := g3.box
        simp only [go_sem, Int.reduceEq, Int.reduceAdd, Int.reduceSub, Int.reduceMul, Nat.reduceLT, Int.reduceLT, Int.reduceLE, Int.reduceToNat, Nat.reduceAdd, Nat.reduceSub, Nat.reduceMul, Nat.reduceLeDiff, reduceCtorEq, g3.keep hdc, hb.1, hb.2]
        exact hQ _ _ _ _ (upd h q (dT most (L.take i ++ r :: L.drop (i + 1)))) _ (.inr rfl) rfl (still_dT g3 hd) (FzL.refl _ _ _) ⟨rfl, rfl⟩
    · have gF : freshB r old = false := by
        cases e : freshB r old with
        | false => rfl
        | true =>
          have := hfr.1 e
          rcases c with ⟨c1, c2⟩ | ⟨c1, c2⟩
          · rcases this with a | a
            · rw [c1] at a; cases a
            · exact absurd a.2 c2
          · rcases this with a | a
            · exact absurd a c1
            · exact absurd a.1 c2
      rw [eF gF, hF gF] at hQ
      have hq2 := hQ
      rw [hlist, upd_self hd] at hq2
      rcases c with ⟨c1, c2⟩ | ⟨c1, c2⟩
      all_goals
        simp only [go_sem, Int.reduceEq, Int.reduceAdd, Int.reduceSub, Int.reduceMul, Nat.reduceLT, Int.reduceLT, Int.reduceLE, Int.reduceToNat, Nat.reduceAdd, Nat.reduceSub, Nat.reduceMul, Nat.reduceLeDiff, reduceCtorEq, c1, c2, del_same, del_none hp]
        exact hq2 _ _ _ _ h _ (.inr rfl) rfl (FzH.refl _) (FzL.refl _ _ _) ⟨rfl, rfl⟩

/-- What is forgotten. -/
theorem rforget_spec {q : Nat} {most : Int} {f : Tr} {h : AHeap} (ok : trOk f) (gd : tGood f) (node via sq : Int) (hd : h q = some (dT most (allR f))) (hn : f.length ≤ 1000) :
    CallsA Try.prog 12 [.ptr q 0, .int .i64 node, .int .i64 via, .int .i64 sq] h (fun v H' => v = .int .i64 (forgetN f node via sq).2 ∧ H' = upd h q (dT most (allR (forgetN f node via sq).1))) := by
  have hal : (allR f).length = f.length := allR_len f
  have q1 : ∀ t : Rt, (Rt.av t)[1]? = some (.int .i64 t.via) := fun _ => rfl
  have q2 : ∀ t : Rt, (Rt.av t)[2]? = some (.int .i64 t.sq) := fun _ => rfl
  have hdc := hd
  unfold dT at hdc
  (refine CallsA.enterR (ac := c12) (rs := r12) Try.func12 rfl (by decide) c12_ok r12_ok ?_; intro Q hQ; simp only [go_sem, Int.reduceEq, Int.reduceAdd, Int.reduceSub, Int.reduceMul, Nat.reduceLT, Int.reduceLT, Int.reduceLE, Int.reduceToNat, Nat.reduceAdd, Nat.reduceSub, Nat.reduceMul, Nat.reduceLeDiff, reduceCtorEq, c12, Try.ntmps12])
  have bad : (isNode node && isNode via && isCtr sq) = false → forgetN f node via sq = (f, 1) := fun g => by
    unfold forgetN; rw [g]; rfl
  refine (rnode_spec node _).use ?_
  cases g1 : isNode node
  · rw [bad (by rw [g1]; rfl), upd_self hd] at hQ
    simp only [go_sem, Int.reduceEq, Int.reduceAdd, Int.reduceSub, Int.reduceMul, Nat.reduceLT, Int.reduceLT, Int.reduceLE, Int.reduceToNat, Nat.reduceAdd, Nat.reduceSub, Nat.reduceMul, Nat.reduceLeDiff, reduceCtorEq]
    exact hQ _ _ _ _ h _ (.inr rfl) rfl (FzH.refl _) (FzL.refl _ _ _) ⟨rfl, rfl⟩
  simp only [go_sem, Int.reduceEq, Int.reduceAdd, Int.reduceSub, Int.reduceMul, Nat.reduceLT, Int.reduceLT, Int.reduceLE, Int.reduceToNat, Nat.reduceAdd, Nat.reduceSub, Nat.reduceMul, Nat.reduceLeDiff, reduceCtorEq]
  refine (rnode_spec via _).use ?_
  cases g2 : isNode via
  · rw [bad (by rw [g1, g2]; rfl), upd_self hd] at hQ
    simp only [go_sem, Int.reduceEq, Int.reduceAdd, Int.reduceSub, Int.reduceMul, Nat.reduceLT, Int.reduceLT, Int.reduceLE, Int.reduceToNat, Nat.reduceAdd, Nat.reduceSub, Nat.reduceMul, Nat.reduceLeDiff, reduceCtorEq]
    exact hQ _ _ _ _ h _ (.inr rfl) rfl (FzH.refl _) (FzL.refl _ _ _) ⟨rfl, rfl⟩
  simp only [go_sem, Int.reduceEq, Int.reduceAdd, Int.reduceSub, Int.reduceMul, Nat.reduceLT, Int.reduceLT, Int.reduceLE, Int.reduceToNat, Nat.reduceAdd, Nat.reduceSub, Nat.reduceMul, Nat.reduceLeDiff, reduceCtorEq]
  refine (rvalid_spec sq _).use ?_
  cases g3 : isCtr sq
  · rw [bad (by rw [g1, g2, g3]; rfl), upd_self hd] at hQ
    simp only [go_sem, Int.reduceEq, Int.reduceAdd, Int.reduceSub, Int.reduceMul, Nat.reduceLT, Int.reduceLT, Int.reduceLE, Int.reduceToNat, Nat.reduceAdd, Nat.reduceSub, Nat.reduceMul, Nat.reduceLeDiff, reduceCtorEq]
    exact hQ _ _ _ _ h _ (.inr rfl) rfl (FzH.refl _) (FzL.refl _ _ _) ⟨rfl, rfl⟩
  simp only [go_sem, Int.reduceEq, Int.reduceAdd, Int.reduceSub, Int.reduceMul, Nat.reduceLT, Int.reduceLT, Int.reduceLE, Int.reduceToNat, Nat.reduceAdd, Nat.reduceSub, Nat.reduceMul, Nat.reduceLeDiff, reduceCtorEq]
  refine (rfind_spec hd (by omega) node).use ?_
  rcases idx_allR ok node with ⟨i1, i2⟩ | ⟨i, hi, i1, i2, i3⟩
  · have e : forgetN f node via sq = (f, 8) := by unfold forgetN; rw [g1, g2, g3, i1]; rfl
    rw [e, upd_self hd] at hQ
    simp only [go_sem, Int.reduceEq, Int.reduceAdd, Int.reduceSub, Int.reduceMul, Nat.reduceLT, Int.reduceLT, Int.reduceLE, Int.reduceToNat, Nat.reduceAdd, Nat.reduceSub, Nat.reduceMul, Nat.reduceLeDiff, reduceCtorEq, i2]
    exact hQ _ _ _ _ h _ (.inr rfl) rfl (FzH.refl _) (FzL.refl _ _ _) ⟨rfl, rfl⟩
  have pi := okR_parts (tGood_all gd (List.getElem_mem hi))
  have hneg : ¬ ((i : Int) < 0) := by omega
  have rv := (rd_cell (h := h) (off := 1) Rt.len hi (by omega)).trans (q1 _)
  have rs := (rd_cell (h := h) (off := 2) Rt.len hi (by omega)).trans (q2 _)
  have hdel : (allR f).take i ++ (allR f).drop (i + 1) = allR (adel f node) := by rw [← dropD_allN ok, ← i1]; exact (dropD_at (allR_sort ok) hi).symm
  have hF : forgetN f node via sq = if (allR f)[i].via = via then (if sq = (allR f)[i].sq ∨ newerB sq (allR f)[i].sq = true then (adel f node, 0) else (f, 9)) else (f, 1) := by
    unfold forgetN; rw [g1, g2, g3, i2]; rfl
  have hnw : newerB sq (allR f)[i].sq = decide (cmpL sq (allR f)[i].sq = 2) := by unfold newerB; rw [g3, pi.2.2]; rfl
  have hcmp := fun H => rcompare_spec sq (allR f)[i].sq g3 pi.2.2 H
  have hdrop := rdrop_spec hd (by omega) hi
  rw [hdel] at hdrop
  by_cases c1 : (allR f)[i].via = via
  · rw [if_pos c1] at hF
    simp only [go_sem, Int.reduceEq, Int.reduceAdd, Int.reduceSub, Int.reduceMul, Nat.reduceLT, Int.reduceLT, Int.reduceLE, Int.reduceToNat, Nat.reduceAdd, Nat.reduceSub, Nat.reduceMul, Nat.reduceLeDiff, reduceCtorEq, i3, hneg, hdc, hi, rv, rs, c1]
    refine (hcmp _).use ?_
    by_cases c2 : cmpL sq (allR f)[i].sq = 2
    · rw [if_pos (.inr (by rw [hnw]; exact decide_eq_true c2))] at hF
      rw [hF] at hQ
      simp only [go_sem, Int.reduceEq, Int.reduceAdd, Int.reduceSub, Int.reduceMul, Nat.reduceLT, Int.reduceLT, Int.reduceLE, Int.reduceToNat, Nat.reduceAdd, Nat.reduceSub, Nat.reduceMul, Nat.reduceLeDiff, reduceCtorEq, c2]
      refine hdrop.use ?_
      rintro _ H1 ⟨rfl, rfl⟩
      simp only [go_sem, Int.reduceEq, Int.reduceAdd, Int.reduceSub, Int.reduceMul, Nat.reduceLT, Int.reduceLT, Int.reduceLE, Int.reduceToNat, Nat.reduceAdd, Nat.reduceSub, Nat.reduceMul, Nat.reduceLeDiff, reduceCtorEq]
      exact hQ _ _ _ _ _ _ (.inr rfl) rfl (FzH.refl _) (FzL.refl _ _ _) ⟨rfl, rfl⟩
    · by_cases c3 : cmpL sq (allR f)[i].sq = 0
      · rw [if_pos (.inl (cmpL_zero.1 c3))] at hF
        rw [hF] at hQ
        simp only [go_sem, Int.reduceEq, Int.reduceAdd, Int.reduceSub, Int.reduceMul, Nat.reduceLT, Int.reduceLT, Int.reduceLE, Int.reduceToNat, Nat.reduceAdd, Nat.reduceSub, Nat.reduceMul, Nat.reduceLeDiff, reduceCtorEq, c3]
        refine hdrop.use ?_
        rintro _ H1 ⟨rfl, rfl⟩
        simp only [go_sem, Int.reduceEq, Int.reduceAdd, Int.reduceSub, Int.reduceMul, Nat.reduceLT, Int.reduceLT, Int.reduceLE, Int.reduceToNat, Nat.reduceAdd, Nat.reduceSub, Nat.reduceMul, Nat.reduceLeDiff, reduceCtorEq]
        exact hQ _ _ _ _ _ _ (.inr rfl) rfl (FzH.refl _) (FzL.refl _ _ _) ⟨rfl, rfl⟩
      · rw [if_neg (by rintro (a | a); · exact c3 (cmpL_zero.2 a)
                       · rw [hnw] at a; exact c2 (of_decide_eq_true a))] at hF
        rw [hF, upd_self hd] at hQ
        simp only [go_sem, Int.reduceEq, Int.reduceAdd, Int.reduceSub, Int.reduceMul, Nat.reduceLT, Int.reduceLT, Int.reduceLE, Int.reduceToNat, Nat.reduceAdd, Nat.reduceSub, Nat.reduceMul, Nat.reduceLeDiff, reduceCtorEq, c2, c3]
        exact hQ _ _ _ _ h _ (.inr rfl) rfl (FzH.refl _) (FzL.refl _ _ _) ⟨rfl, rfl⟩
  · rw [if_neg c1] at hF
    rw [hF, upd_self hd] at hQ
    simp only [go_sem, Int.reduceEq, Int.reduceAdd, Int.reduceSub, Int.reduceMul, Nat.reduceLT, Int.reduceLT, Int.reduceLE, Int.reduceToNat, Nat.reduceAdd, Nat.reduceSub, Nat.reduceMul, Nat.reduceLeDiff, reduceCtorEq, i3, hneg, hdc, hi, rv, rs, c1]
    exact hQ _ _ _ _ h _ (.inr rfl) rfl (FzH.refl _) (FzL.refl _ _ _) ⟨rfl, rfl⟩

/-- What is gone. -/
def prG (now via : Int) (r : Rt) : Bool := if via < 0 then decide (r.til ≤ now) else decide (r.via = via)
theorem allR_left {f : Tr} (ok : trOk f) (pr : Rt → Bool) : (allR f).filter (fun r => !pr r) = allR (leftF f pr) := by
  refine allR_of (leftF_ok ok pr) ?_ (List.Pairwise.filter _ (allR_sort ok))
  have e : valR (leftF f pr) = (valR f).filter (fun r => !pr r) := by
    unfold valR leftF
    rw [List.filter_map]
    rfl
  rw [e]
  exact (allR_perm f).filter _

set_option maxHeartbeats 4000000 in
theorem rgone_spec {q : Nat} {most : Int} {f : Tr} {h : AHeap} (ok : trOk f) (now via : Int) (hd : h q = some (dT most (allR f))) (hn : f.length ≤ 1000) :
    CallsA Try.prog 15 [.ptr q 0, .int .i64 now, .int .i64 via] h (fun v H' => v = .ro (cat i1 (goneN f (prG now via))) (goneN f (prG now via)).length false ∧ H' = upd h q (dT most (allR (leftF f (prG now via))))) := by
  have hal : (allR f).length = f.length := allR_len f
  have q0 : ∀ t : Rt, (Rt.av t)[0]? = some (.int .i64 t.node) := fun _ => rfl
  have q1 : ∀ t : Rt, (Rt.av t)[1]? = some (.int .i64 t.via) := fun _ => rfl
  have q3 : ∀ t : Rt, (Rt.av t)[3]? = some (.int .i64 t.til) := fun _ => rfl
  have hleft := allR_left ok (prG now via)
  rw [← hleft]
  have hg : goneN f (prG now via) = ((allR f).filter (prG now via)).map (·.node) := rfl
  rw [hg]
  generalize hpr : prG now via = pr at *
  have hprx : ∀ x : Rt, pr x = if via < 0 then decide (x.til ≤ now) else decide (x.via = via) := fun x => by rw [← hpr]; rfl
  generalize allR f = L at *
  clear hleft hg ok
  (refine CallsA.enterR (ac := c15) (rs := r15) Try.func15 rfl (by decide) c15_ok r15_ok ?_; intro Q hQ; simp only [go_sem, Int.reduceEq, Int.reduceAdd, Int.reduceSub, Int.reduceMul, Nat.reduceLT, Int.reduceLT, Int.reduceLE, Int.reduceToNat, Nat.reduceAdd, Nat.reduceSub, Nat.reduceMul, Nat.reduceLeDiff, reduceCtorEq, c15, Try.ntmps15])
  refine loop_st d15_0 (fun x : Nat × AV => L.length - x.1) (fun x s => (s.set 8 (.int .i64 (((L.take x.1).filter (fun r => !pr r)).length : Int))).set 7 x.2) (fun x H => x.1 ≤ L.length ∧ Grow (upd h q (dT most ((L.take x.1).filter (fun r => !pr r) ++ L.drop x.1))) 1 x.2 (cat i1 (((L.take x.1).filter pr).map (·.node))) (((L.take x.1).filter pr).map (·.node)).length H ∧ Wr x.2) (0, .nils) ?_ ⟨Nat.zero_le _, ?_, Wr.nils⟩ ?_
  · (simp only [go_sem, Int.reduceEq, Int.reduceAdd, Int.reduceSub, Int.reduceMul, Nat.reduceLT, Int.reduceLT, Int.reduceLE, Int.reduceToNat, Nat.reduceAdd, Nat.reduceSub, Nat.reduceMul, Nat.reduceLeDiff, reduceCtorEq, d15_0] <;> rfl)
  · have : upd h q (dT most L) = h := upd_self hd
    simp only [List.take_zero, List.filter_nil, List.nil_append, List.drop_zero, List.map_nil]
    rw [this]; exact Grow.nil
  rintro N ⟨j, v⟩ H1 ⟨hj, gr, hw⟩ hN
  simp only at hj gr hw hN
  have hkl : ((L.take j).filter (fun r => !pr r)).length ≤ j := by
    have := List.length_filter_le (fun r => !pr r) (L.take j)
    rw [List.length_take] at this; omega
  have hgl : (((L.take j).filter pr).map (·.node)).length ≤ j := by
    have := List.length_filter_le pr (L.take j)
    rw [List.length_take] at this; rw [List.length_map]; omega
  by_cases hlt : j < L.length
  · have hcur : ((L.take j).filter (fun r => !pr r) ++ L.drop j)[((L.take j).filter (fun r => !pr r)).length]? = some L[j] := by
      rw [List.getElem?_append_right (Nat.le_refl _), Nat.sub_self, List.getElem?_drop, Nat.add_zero, List.getElem?_eq_getElem hlt]
    have e1 : (L.take (j + 1)).filter (fun r => !pr r) = (L.take j).filter (fun r => !pr r) ++ if pr L[j] then [] else [L[j]] := by
      rw [List.take_succ_eq_append_getElem hlt, List.filter_append, List.filter_cons]
      cases pr L[j] <;> rfl
    have e2 : ((L.take (j + 1)).filter pr).map (·.node) = ((L.take j).filter pr).map (·.node) ++ if pr L[j] then [L[j].node] else [] := by
      rw [List.take_succ_eq_append_getElem hlt, List.filter_append, List.filter_cons, List.map_append]
      cases pr L[j] <;> rfl
    have hdj : L.drop j = L[j] :: L.drop (j + 1) := List.drop_eq_getElem_cons hlt
    have hlen2 : ((L.take j).filter (fun r => !pr r) ++ L.drop j).length ≤ L.length := by rw [List.length_append, List.length_drop]; omega
    have hi : ((L.take j).filter (fun r => !pr r)).length < ((L.take j).filter (fun r => !pr r) ++ L.drop j).length := by rw [List.length_append, List.length_drop]; omega
    have hnx : ((L.take j).filter (fun r => !pr r) ++ L.drop j).take ((L.take j).filter (fun r => !pr r)).length ++ ((L.take j).filter (fun r => !pr r) ++ L.drop j).drop (((L.take j).filter (fun r => !pr r)).length + 1) = (L.take j).filter (fun r => !pr r) ++ L.drop (j + 1) := by
      rw [List.take_left' rfl, hdj, List.drop_append, List.drop_of_length_le (by omega), Nat.add_sub_cancel_left]; rfl
    have hnk : (L.take j).filter (fun r => !pr r) ++ [L[j]] ++ L.drop (j + 1) = (L.take j).filter (fun r => !pr r) ++ L.drop j := by rw [hdj, List.append_assoc]; rfl
    have hx := hprx L[j]
    generalize (L.take j).filter (fun r => !pr r) = K at *
    generalize ((L.take j).filter pr).map (·.node) = G at *
    generalize hC : K ++ L.drop j = C at *
    have hCx : C[K.length] = L[j] := by rw [List.getElem?_eq_getElem hi] at hcur; injection hcur
    have hd1 : H1 q = some (dT most C) := gr.keep upd_same
    have hdc := hd1
    unfold dT at hdc
    have r0 := (rd_first (h := H1) Rt.len (by omega) hi).trans (q0 _)
    have r1 := (rd_cell (h := H1) (off := 1) Rt.len hi (by omega)).trans (q1 _)
    have r3 := (rd_cell (h := H1) (off := 3) Rt.len hi (by omega)).trans (q3 _)
    rw [hCx] at r0 r1 r3
    have hadd := wadd1 (k := K.length) (by omega)
    have hsub : IntKind.i64.wrap ((K.length : Int) - 1) = (K.length : Int) - 1 := w64 (by omega) (by omega)
    have hsa : IntKind.i64.wrap ((K.length : Int) - 1 + 1) = (K.length : Int) := by rw [w64 (by omega) (by omega)]; omega
    simp only [go_sem, Int.reduceEq, Int.reduceAdd, Int.reduceSub, Int.reduceMul, Nat.reduceLT, Int.reduceLT, Int.reduceLE, Int.reduceToNat, Nat.reduceAdd, Nat.reduceSub, Nat.reduceMul, Nat.reduceLeDiff, reduceCtorEq, d15_0, hdc, hi]
    cases hp : pr L[j]
    · rw [hp, if_neg (by decide), List.append_nil] at e2
      rw [hp, if_neg (by decide)] at e1
      rw [hp] at hx
      have stay : N = N := rfl
      rcases (show (via < 0 ∧ ¬ L[j].til ≤ now) ∨ (¬ via < 0 ∧ 0 ≤ via ∧ ¬ L[j].via = via) by
          by_cases c : via < 0
          · rw [if_pos c] at hx; exact .inl ⟨c, of_decide_eq_false hx.symm⟩
          · rw [if_neg c] at hx; exact .inr ⟨c, by omega, of_decide_eq_false hx.symm⟩) with ⟨c1, c2⟩ | ⟨c1, c2, c3⟩
      · have c3 : ¬ 0 ≤ via := by omega
        simp only [go_sem, Int.reduceEq, Int.reduceAdd, Int.reduceSub, Int.reduceMul, Nat.reduceLT, Int.reduceLT, Int.reduceLE, Int.reduceToNat, Nat.reduceAdd, Nat.reduceSub, Nat.reduceMul, Nat.reduceLeDiff, reduceCtorEq, c1, c2, c3, hdc, hi, r3, hadd]
        refine hN (j + 1, v) _ _ (by simp only; omega) ?_ ⟨hlt, ?_, hw⟩
        · simp only [e1]; (simp only [go_sem, Int.reduceEq, Int.reduceAdd, Int.reduceSub, Int.reduceMul, Nat.reduceLT, Int.reduceLT, Int.reduceLE, Int.reduceToNat, Nat.reduceAdd, Nat.reduceSub, Nat.reduceMul, Nat.reduceLeDiff, reduceCtorEq, d15_0, List.length_append, List.length_cons, List.length_nil] <;> rfl)
        · simp only [e1, e2, hnk]; exact gr
      · simp only [go_sem, Int.reduceEq, Int.reduceAdd, Int.reduceSub, Int.reduceMul, Nat.reduceLT, Int.reduceLT, Int.reduceLE, Int.reduceToNat, Nat.reduceAdd, Nat.reduceSub, Nat.reduceMul, Nat.reduceLeDiff, reduceCtorEq, c1, c2, c3, hdc, hi, r1, hadd]
        refine hN (j + 1, v) _ _ (by simp only; omega) ?_ ⟨hlt, ?_, hw⟩
        · simp only [e1]; (simp only [go_sem, Int.reduceEq, Int.reduceAdd, Int.reduceSub, Int.reduceMul, Nat.reduceLT, Int.reduceLT, Int.reduceLE, Int.reduceToNat, Nat.reduceAdd, Nat.reduceSub, Nat.reduceMul, Nat.reduceLeDiff, reduceCtorEq, d15_0, List.length_append, List.length_cons, List.length_nil] <;> rfl)
        · simp only [e1, e2, hnk]; exact gr
    · rw [hp, if_pos rfl] at e2
      rw [hp, if_pos rfl, List.append_nil] at e1
      rw [hp] at hx
      rcases (show (via < 0 ∧ ¬ 0 ≤ via ∧ L[j].til ≤ now) ∨ (¬ via < 0 ∧ 0 ≤ via ∧ L[j].via = via) by
          by_cases c : via < 0
          · rw [if_pos c] at hx; exact .inl ⟨c, by omega, of_decide_eq_true hx.symm⟩
          · rw [if_neg c] at hx; exact .inr ⟨c, by omega, of_decide_eq_true hx.symm⟩) with ⟨c1, c2, c3⟩ | ⟨c1, c2, c3⟩
      all_goals
        simp only [go_sem, Int.reduceEq, Int.reduceAdd, Int.reduceSub, Int.reduceMul, Nat.reduceLT, Int.reduceLT, Int.reduceLE, Int.reduceToNat, Nat.reduceAdd, Nat.reduceSub, Nat.reduceMul, Nat.reduceLeDiff, reduceCtorEq, c1, c2, c3, hdc, hi, r0, r1, r3]
        refine gr.add1W (b := 8) (x := i1 L[j].node) rfl rfl (by omega) fun v' H3 g3 w3 => ?_
        have eg : cat i1 G ++ i1 L[j].node = cat i1 (G ++ [L[j].node]) := by rw [cat_append]; simp [cat]
        have eG : G.length + 1 = (G ++ [L[j].node]).length := by simp
        rw [eg, eG, ← e2] at g3
        simp only [go_sem, Int.reduceEq, Int.reduceAdd, Int.reduceSub, Int.reduceMul, Nat.reduceLT, Int.reduceLT, Int.reduceLE, Int.reduceToNat, Nat.reduceAdd, Nat.reduceSub, Nat.reduceMul, Nat.reduceLeDiff, reduceCtorEq]
        refine (rdrop_spec (g3.keep upd_same) (by omega) hi).use ?_
        rintro _ H4 ⟨rfl, rfl⟩
        rw [hnx]
        have g4 := g3.poke (o := dT most (K ++ L.drop (j + 1))) upd_same
        rw [upd_upd] at g4
        simp only [go_sem, Int.reduceEq, Int.reduceAdd, Int.reduceSub, Int.reduceMul, Nat.reduceLT, Int.reduceLT, Int.reduceLE, Int.reduceToNat, Nat.reduceAdd, Nat.reduceSub, Nat.reduceMul, Nat.reduceLeDiff, reduceCtorEq, hsub, hsa]
        refine hN (j + 1, v') _ _ (by simp only; omega) ?_ ⟨hlt, by simp only [e1]; exact g4, w3⟩
        simp only [e1]; (simp only [go_sem, Int.reduceEq, Int.reduceAdd, Int.reduceSub, Int.reduceMul, Nat.reduceLT, Int.reduceLT, Int.reduceLE, Int.reduceToNat, Nat.reduceAdd, Nat.reduceSub, Nat.reduceMul, Nat.reduceLeDiff, reduceCtorEq, d15_0] <;> rfl)
  · have hj2 : j = L.length := by omega
    subst hj2
    rw [List.take_length] at gr hkl hgl ⊢
    rw [List.drop_length, List.append_nil] at gr
    have hd1 := gr.keep (upd_same (x := q))
    have hdc := hd1
    unfold dT at hdc
    simp only [go_sem, Int.reduceEq, Int.reduceAdd, Int.reduceSub, Int.reduceMul, Nat.reduceLT, Int.reduceLT, Int.reduceLE, Int.reduceToNat, Nat.reduceAdd, Nat.reduceSub, Nat.reduceMul, Nat.reduceLeDiff, reduceCtorEq, d15_0, hdc, Nat.lt_irrefl]
    refine frz_id ?_
    simp only [go_sem, Int.reduceEq, Int.reduceAdd, Int.reduceSub, Int.reduceMul, Nat.reduceLT, Int.reduceLT, Int.reduceLE, Int.reduceToNat, Nat.reduceAdd, Nat.reduceSub, Nat.reduceMul, Nat.reduceLeDiff, reduceCtorEq]
    exact hQ _ _ _ _ _ [.ro _ _ false] (.inr rfl) rfl (FzH.sub gr.sub) (.cons gr.fz .nil) ⟨rfl, rfl⟩

end Go.Proofs.Ytaifdlegjhncaaa
