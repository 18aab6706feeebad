/-
  HystStays on abstract values.
-/
import Derived.Test.YtaeppifdbcoipaaLb
namespace Go.Proofs.Ytaeppifdbcoipaa
open Go E
set_option linter.unusedVariables false
set_option linter.unusedSectionVars false
set_option linter.unusedSimpArgs false
set_option maxRecDepth 100000

theorem snoc_ind {α : Type} {p : List α → Prop} (h0 : p []) (h1 : ∀ l x, p l → p (l ++ [x])) (l : List α) : p l := by
  rw [← List.reverse_reverse l]
  generalize l.reverse = q
  induction q with
  | nil => exact h0
  | cons x q ih => rw [List.reverse_cons]; exact h1 _ _ ih

theorem uniq_n {m : List Cd} (h : rightL m = true) {c d : Cd} (hc : c ∈ m) (hd : d ∈ m) (e : c.n = d.n) : c = d := by
  simp only [rightL, Bool.and_eq_true, decide_eq_true_eq] at h
  obtain ⟨i, hi, rfl⟩ := List.getElem_of_mem hc
  obtain ⟨j, hj, rfl⟩ := List.getElem_of_mem hd
  have := (List.getElem_inj (xs := m.map (·.n)) h.2 (i := i) (j := j) (h₀ := by simpa using hi) (h₁ := by simpa using hj)).1 (by simpa using e)
  subst this; rfl

theorem shC_lt (a b : Off) : shC a b < 0 ↔ (a.v < b.v ∨ a.v = b.v ∧ a.c.n < b.c.n) := by
  simp only [shC, or0, cmpI]
  by_cases h1 : a.v < b.v
  · simp [h1]
  · by_cases h2 : b.v < a.v
    · simp [h1, h2]; omega
    · have : a.v = b.v := by omega
      by_cases h3 : a.c.n < b.c.n
      · simp [h1, h2, h3, this]
      · by_cases h4 : b.c.n < a.c.n
        · simp [h1, h2, h3, h4]
        · simp [h1, h2, h3, h4]

theorem sways_sorted (f : HF) (m : List Cd) : (isort shC (waysL f m)).Pairwise (fun a b => ¬ shC b a < 0) :=
  isort_sorted (fun a b h1 h2 => by rw [shC_lt] at h1 h2; omega) (fun a b d h1 h2 h3 => by rw [shC_lt] at h1 h2 h3; omega) _

theorem sways_first {f : HF} {m : List Cd} {o : Off} (h : o ∈ isort shC (waysL f m)) : (offAt (isort shC (waysL f m)) 0).v ≤ o.v := by
  have hs := sways_sorted f m
  generalize isort shC (waysL f m) = S at *
  cases S with
  | nil => cases h
  | cons x S =>
    rw [List.pairwise_cons] at hs
    show x.v ≤ o.v
    rcases List.mem_cons.1 h with rfl | h
    · omega
    · have := hs.1 _ h; rw [shC_lt] at this; omega

def ownF (f : HF) (now : Int) (l : List Cd) : Int := l.foldl (fun o c => if c.n = now then pathN f c else o) 65535
def leastF (f : HF) (l : List Cd) : Int := l.foldl (fun b c => min b (pathN f c)) 65535
theorem ownF_snoc (f : HF) (now : Int) (l : List Cd) (c : Cd) : ownF f now (l ++ [c]) = if c.n = now then pathN f c else ownF f now l := by simp [ownF]
theorem leastF_snoc (f : HF) (l : List Cd) (c : Cd) : leastF f (l ++ [c]) = min (leastF f l) (pathN f c) := by simp [leastF]
theorem leastF_ge {f : HF} {v : Int} (hv : v ≤ 65535) {l : List Cd} (h : ∀ c ∈ l, v ≤ pathN f c) : v ≤ leastF f l := by
  induction l using snoc_ind with
  | h0 => exact hv
  | h1 l c ih =>
    rw [leastF_snoc]
    have h1 := ih fun d hd => h d (List.mem_append_left _ hd)
    have h2 := h c (by simp)
    omega
theorem leastF_le {f : HF} {l : List Cd} {c : Cd} (h : c ∈ l) : leastF f l ≤ pathN f c := by
  induction l using snoc_ind with
  | h0 => cases h
  | h1 l d ih =>
    rw [leastF_snoc]
    rcases List.mem_append.1 h with h | h
    · have := ih h; omega
    · simp at h; subst h; omega
theorem ownF_mem {f : HF} {now : Int} {l : List Cd} (h : ownF f now l ≠ 65535) : ∃ c ∈ l, c.n = now ∧ ownF f now l = pathN f c := by
  induction l using snoc_ind with
  | h0 => exact absurd rfl h
  | h1 l d ih =>
    rw [ownF_snoc] at h ⊢
    split at h
    · rename_i e; exact ⟨d, by simp, e, by rw [if_pos e]⟩
    · rename_i e
      obtain ⟨c, h1, h2, h3⟩ := ih h
      exact ⟨c, List.mem_append_left _ h1, h2, by rw [if_neg e]; exact h3⟩
theorem ownF_eq {f : HF} {l : List Cd} (hr : rightL l = true) {c : Cd} (h : c ∈ l) : ownF f c.n l = pathN f c := by
  have key : ∀ q : List Cd, (∀ d ∈ q, d ∈ l) → c ∈ q → ownF f c.n q = pathN f c := by
    intro q hq hc
    induction q using snoc_ind with
    | h0 => cases hc
    | h1 q d ih =>
      rw [ownF_snoc]
      by_cases e : d.n = c.n
      · rw [if_pos e, uniq_n hr (hq d (by simp)) h e]
      · rw [if_neg e]
        refine ih (fun x hx => hq x (List.mem_append_left _ hx)) ?_
        rcases List.mem_append.1 hc with hc | hc
        · exact hc
        · simp at hc; subst hc; exact absurd rfl e
  exact key l (fun _ h => h) h

section
variable {f : HF} {now : Int} {m : List Cd} (hf : f.good = true) (hr : rightL m = true) (hw : waysL f m ≠ [])
include hf hr hw

theorem sw_ne : isort shC (waysL f m) ≠ [] := fun e => hw (List.length_eq_zero_iff.1 (by rw [← isort_len (c := shC) (waysL f m), e]; rfl))
theorem bestN_mem : bestN f now m ∈ isort shC (waysL f m) := by
  have hc := choose_lt (f := f) (now := now) (sw_ne hf hr hw)
  unfold bestN; rw [offAt_get hc]; exact List.getElem_mem _
theorem first_mem : offAt (isort shC (waysL f m)) 0 ∈ isort shC (waysL f m) := by
  have hc := List.length_pos_iff.2 (sw_ne hf hr hw)
  rw [offAt_get hc]; exact List.getElem_mem _
theorem v0_lt : (offAt (isort shC (waysL f m)) 0).v < 65535 := by
  obtain ⟨h1, h2, h3⟩ := mem_ways (mem_isort.1 (first_mem hf hr hw))
  have := path_range hf (List.all_eq_true.1 (rightL_one hr) _ h1)
  omega
theorem v0_le {c : Cd} (hc : c ∈ m) : (offAt (isort shC (waysL f m)) 0).v ≤ pathN f c := by
  by_cases e : pathN f c = 65535
  · have := v0_lt hf hr hw; omega
  · have : (⟨c, pathN f c⟩ : Off) ∈ waysL f m := List.mem_filterMap.2 ⟨c, hc, by rw [if_neg e]⟩
    exact sways_first (mem_isort.2 this)
theorem least_v0 : leastF f m = (offAt (isort shC (waysL f m)) 0).v := by
  have h1 := leastF_ge (f := f) (l := m) (v := (offAt (isort shC (waysL f m)) 0).v) (by have := v0_lt hf hr hw; omega) fun c hc => v0_le hf hr hw hc
  obtain ⟨h2, h3, _⟩ := mem_ways (mem_isort.1 (first_mem hf hr hw))
  have h4 := leastF_le (f := f) h2
  omega
theorem best_first (h : (bestN f now m).c.n ≠ now) : bestN f now m = offAt (isort shC (waysL f m)) 0 := by
  unfold bestN at h ⊢
  unfold chooseN at h ⊢
  split at h
  · rename_i i e
    split at h
    · obtain ⟨hi, h1, _⟩ := List.findIdx?_eq_some_iff_getElem.1 e
      rw [offAt_get hi] at h
      exact absurd (of_decide_eq_true h1) h
    · rename_i hle; rw [if_neg hle]
  · rfl
theorem stays_own {q : List Cd} (hq : ∀ d ∈ q, d ∈ m) (hn : (bestN f now m).c.n ≠ now) {c : Cd} (hc : c ∈ m) (e : c.n = (bestN f now m).c.n) : pathN f c ≤ leastF f q := by
  obtain ⟨h1, h2, _⟩ := mem_ways (mem_isort.1 (bestN_mem (now := now) hf hr hw))
  have : c = (bestN f now m).c := uniq_n hr hc h1 e
  rw [this, ← h2, best_first hf hr hw hn]
  exact leastF_ge (by have := v0_lt hf hr hw; omega) fun d hd => v0_le hf hr hw (hq d hd)
theorem stays_none (h : ownF f now m = 65535) : (bestN f now m).c.n ≠ now := by
  intro e
  obtain ⟨h1, h2, h3⟩ := mem_ways (mem_isort.1 (bestN_mem (now := now) hf hr hw))
  have := ownF_eq (f := f) hr h1
  rw [e, h, ← h2] at this
  exact h3 this.symm
theorem stays_iff (h : ownF f now m ≠ 65535) : (bestN f now m).c.n = now ↔ ownF f now m ≤ leastF f m + f.th := by
  have hg := HF.good_iff.1 hf
  rw [least_v0 hf hr hw]
  obtain ⟨c, hc, hcn, ho⟩ := ownF_mem h
  have hin : (⟨c, pathN f c⟩ : Off) ∈ isort shC (waysL f m) := mem_isort.2 (List.mem_filterMap.2 ⟨c, hc, by rw [if_neg (by rw [← ho]; exact h)]⟩)
  cases e : (isort shC (waysL f m)).findIdx? (fun o => decide (o.c.n = now)) with
  | none =>
    have := List.findIdx?_eq_none_iff.1 e _ hin
    simp [hcn] at this
  | some i =>
    obtain ⟨hi, h1, _⟩ := List.findIdx?_eq_some_iff_getElem.1 e
    have h1' := of_decide_eq_true h1
    obtain ⟨g1, g2, _⟩ := mem_ways (mem_isort.1 (List.getElem_mem hi))
    have hci : (isort shC (waysL f m))[i].c = c := uniq_n hr g1 hc (by rw [h1', hcn])
    have hvi : (isort shC (waysL f m))[i].v = ownF f now m := by rw [g2, hci, ho]
    have hb : chooseN f now (isort shC (waysL f m)) = if ownF f now m ≤ (offAt (isort shC (waysL f m)) 0).v + f.th then i else 0 := by
      unfold chooseN; rw [e]; simp only [offAt_get hi, hvi]
    by_cases hle : ownF f now m ≤ (offAt (isort shC (waysL f m)) 0).v + f.th
    · rw [if_pos hle] at hb
      simp only [hle, iff_true]
      unfold bestN; rw [hb, offAt_get hi]; exact h1'
    · rw [if_neg hle] at hb
      simp only [hle, iff_false]
      intro en
      unfold bestN at en; rw [hb] at en
      obtain ⟨k1, k2, _⟩ := mem_ways (mem_isort.1 (first_mem hf hr hw))
      have : (offAt (isort shC (waysL f m)) 0).c = c := uniq_n hr k1 hc (by rw [en, hcn])
      rw [this, ← ho] at k2
      omega
end

theorem leastF_range {f : HF} (hf : f.good = true) : ∀ {l : List Cd}, l.all oneB = true → 0 ≤ leastF f l ∧ leastF f l ≤ 65535 := by
  intro l h
  induction l using snoc_ind with
  | h0 => exact ⟨by show (0 : Int) ≤ 65535; decide, by show (65535 : Int) ≤ 65535; decide⟩
  | h1 l c ih =>
    rw [List.all_append, Bool.and_eq_true] at h
    have := ih h.1
    have h2 := path_range hf (c := c) (by simpa using h.2)
    rw [leastF_snoc]; omega

theorem hstays_spec (f : HF) (now : Int) (l : List Cd) (h : AHeap) (hn : l.length ≤ 9223372036854775807) : PureA Try.prog 7 [.agg f.av, .int .i64 now, .ro (cat encC l) l.length false] h (.bool true) := by
  have h12 : (l.take 12).length ≤ 12 := by rw [List.length_take]; omega
  (refine PureA.enter (ac := c7) (rs := r7) Try.func7 rfl (by decide) c7_ok r7_ok ?_; intro Q hQ; simp only [go_sem, Int.reduceEq, Int.reduceAdd, Int.reduceSub, Int.reduceMul, Nat.reduceLT, Int.reduceLT, Int.reduceLE, Int.reduceToNat, Nat.reduceAdd, Nat.reduceSub, Nat.reduceMul, Nat.reduceLeDiff, reduceCtorEq, c7, Try.ntmps7, HF.av])
  refine (hto_spec f _).use ?_
  simp only [go_sem, Int.reduceEq, Int.reduceAdd, Int.reduceSub, Int.reduceMul, Nat.reduceLT, Int.reduceLT, Int.reduceLE, Int.reduceToNat, Nat.reduceAdd, Nat.reduceSub, Nat.reduceMul, Nat.reduceLeDiff, reduceCtorEq, HF.av]
  intro p hp
  simp only [go_sem, Int.reduceEq, Int.reduceAdd, Int.reduceSub, Int.reduceMul, Nat.reduceLT, Int.reduceLT, Int.reduceLE, Int.reduceToNat, Nat.reduceAdd, Nat.reduceSub, Nat.reduceMul, Nat.reduceLeDiff, reduceCtorEq, del_same, del_none hp]
  refine (to15_spec l false _ hn).use ?_
  generalize hm : l.take 12 = m at *
  simp only [go_sem, Int.reduceEq, Int.reduceAdd, Int.reduceSub, Int.reduceMul, Nat.reduceLT, Int.reduceLT, Int.reduceLE, Int.reduceToNat, Nat.reduceAdd, Nat.reduceSub, Nat.reduceMul, Nat.reduceLeDiff, reduceCtorEq]
  refine (bigchoose_spec f now m _ _ h12).use ?_
  cases g : f.good && rightL m
  · simp only [go_sem, Int.reduceEq, Int.reduceAdd, Int.reduceSub, Int.reduceMul, Nat.reduceLT, Int.reduceLT, Int.reduceLE, Int.reduceToNat, Nat.reduceAdd, Nat.reduceSub, Nat.reduceMul, Nat.reduceLeDiff, reduceCtorEq, show decide ((1 : Int) = 0) = false from rfl]
    refine (known16_spec _).use ?_
    simp only [go_sem, Int.reduceEq, Int.reduceAdd, Int.reduceSub, Int.reduceMul, Nat.reduceLT, Int.reduceLT, Int.reduceLE, Int.reduceToNat, Nat.reduceAdd, Nat.reduceSub, Nat.reduceMul, Nat.reduceLeDiff, reduceCtorEq]
    (refine hQ _ _ _ _ _ (by first | exact .inr rfl | exact .inl rfl) rfl (by first | exact FzH.refl _ | exact FzH.sub (by (repeat' (first | exact Sub.refl _ | assumption | (refine Sub.upd ?_ (by first | assumption | (simp only [*]; done) | exact Sub.isNone (by assumption) (by assumption) | exact Sub.isNone (by assumption) (by simp only [*]))))))) (FzL.refl _ _ _) ?_; try (simp only [go_sem, Int.reduceEq, Int.reduceAdd, Int.reduceSub, Int.reduceMul, Nat.reduceLT, Int.reduceLT, Int.reduceLE, Int.reduceToNat, Nat.reduceAdd, Nat.reduceSub, Nat.reduceMul, Nat.reduceLeDiff, reduceCtorEq]))
  obtain ⟨hf, hr⟩ := Bool.and_eq_true_iff.1 g
  by_cases he : waysL f m = []
  · simp only [go_sem, Int.reduceEq, Int.reduceAdd, Int.reduceSub, Int.reduceMul, Nat.reduceLT, Int.reduceLT, Int.reduceLE, Int.reduceToNat, Nat.reduceAdd, Nat.reduceSub, Nat.reduceMul, Nat.reduceLeDiff, reduceCtorEq, he, show decide ((8 : Int) = 0) = false from rfl]
    refine (known16_spec _).use ?_
    simp only [go_sem, Int.reduceEq, Int.reduceAdd, Int.reduceSub, Int.reduceMul, Nat.reduceLT, Int.reduceLT, Int.reduceLE, Int.reduceToNat, Nat.reduceAdd, Nat.reduceSub, Nat.reduceMul, Nat.reduceLeDiff, reduceCtorEq]
    (refine hQ _ _ _ _ _ (by first | exact .inr rfl | exact .inl rfl) rfl (by first | exact FzH.refl _ | exact FzH.sub (by (repeat' (first | exact Sub.refl _ | assumption | (refine Sub.upd ?_ (by first | assumption | (simp only [*]; done) | exact Sub.isNone (by assumption) (by assumption) | exact Sub.isNone (by assumption) (by simp only [*]))))))) (FzL.refl _ _ _) ?_; try (simp only [go_sem, Int.reduceEq, Int.reduceAdd, Int.reduceSub, Int.reduceMul, Nat.reduceLT, Int.reduceLT, Int.reduceLE, Int.reduceToNat, Nat.reduceAdd, Nat.reduceSub, Nat.reduceMul, Nat.reduceLeDiff, reduceCtorEq]))
  have hg := HF.good_iff.1 hf
  simp only [go_sem, Int.reduceEq, Int.reduceAdd, Int.reduceSub, Int.reduceMul, Nat.reduceLT, Int.reduceLT, Int.reduceLE, Int.reduceToNat, Nat.reduceAdd, Nat.reduceSub, Nat.reduceMul, Nat.reduceLeDiff, reduceCtorEq, he]
  refine loop_range d7_0 m.length (fun k s => ((s.set 11 (.int .i64 (ownF f now (m.take k)))).set 12 (.int .i64 (leastF f (m.take k)))).set 13 (.int .i64 k)) (fun k H => H = h) ?_ rfl ?_
  · (simp only [go_sem, Int.reduceEq, Int.reduceAdd, Int.reduceSub, Int.reduceMul, Nat.reduceLT, Int.reduceLT, Int.reduceLE, Int.reduceToNat, Nat.reduceAdd, Nat.reduceSub, Nat.reduceMul, Nat.reduceLeDiff, reduceCtorEq, d7_0] <;> rfl)
  rintro N k H hk rfl hN
  simp only [go_sem, Int.reduceEq, Int.reduceAdd, Int.reduceSub, Int.reduceMul, Nat.reduceLT, Int.reduceLT, Int.reduceLE, Int.reduceToNat, Nat.reduceAdd, Nat.reduceSub, Nat.reduceMul, Nat.reduceLeDiff, reduceCtorEq, d7_0]
  have hadd := wadd1 (k := k) (by omega)
  by_cases hlt : k < m.length
  · have hone : oneB m[k] = true := List.all_eq_true.1 (rightL_one hr) _ (List.getElem_mem hlt)
    have htk := List.take_succ_eq_append_getElem hlt
    have r0 := rd_cell (h := H) (off := 0) encC_len hlt (by omega)
    simp only [encC, List.drop_zero, List.getElem?_cons_zero] at r0
    have hmin := leastF_snoc f (m.take k) m[k]
    have hown := ownF_snoc f now (m.take k) m[k]
    rw [← htk] at hmin hown
    have hpre : ∀ d ∈ m.take (k + 1), d ∈ m := fun d hd => List.mem_of_mem_take hd
    have never : m[k].n = (bestN f now m).c.n → (bestN f now m).c.n ≠ now → ¬ leastF f (m.take (k + 1)) < pathN f m[k] := fun e hnn => by
      have := stays_own hf hr he hpre hnn (List.getElem_mem hlt) e
      omega
    rw [hmin] at never
    have next : ∀ s' : List AV, kill d7_0 s' = ((( kill d7_0 _).set 11 (.int .i64 (ownF f now (m.take (k + 1))))).set 12 (.int .i64 (leastF f (m.take (k + 1))))).set 13 (.int .i64 ((k + 1 : Nat) : Int)) → N s' H := fun s' e => hN s' H hlt e rfl
    simp only [go_sem, Int.reduceEq, Int.reduceAdd, Int.reduceSub, Int.reduceMul, Nat.reduceLT, Int.reduceLT, Int.reduceLE, Int.reduceToNat, Nat.reduceAdd, Nat.reduceSub, Nat.reduceMul, Nat.reduceLeDiff, reduceCtorEq, hlt, rd_all encC_len hlt]
    refine (bigpath_spec f m[k] _).use ?_
    have hgo : (f.good && oneB m[k]) = true := by rw [hf, hone]; rfl
    simp only [go_sem, Int.reduceEq, Int.reduceAdd, Int.reduceSub, Int.reduceMul, Nat.reduceLT, Int.reduceLT, Int.reduceLE, Int.reduceToNat, Nat.reduceAdd, Nat.reduceSub, Nat.reduceMul, Nat.reduceLeDiff, reduceCtorEq, hgo, if_min, hlt, r0]
    cases e1 : decide (m[k].n = now)
    · rw [if_neg (of_decide_eq_false e1)] at hown
      simp only [go_sem, Int.reduceEq, Int.reduceAdd, Int.reduceSub, Int.reduceMul, Nat.reduceLT, Int.reduceLT, Int.reduceLE, Int.reduceToNat, Nat.reduceAdd, Nat.reduceSub, Nat.reduceMul, Nat.reduceLeDiff, reduceCtorEq, hlt, r0]
      cases e2 : decide (m[k].n = (bestN f now m).c.n)
      · simp only [go_sem, Int.reduceEq, Int.reduceAdd, Int.reduceSub, Int.reduceMul, Nat.reduceLT, Int.reduceLT, Int.reduceLE, Int.reduceToNat, Nat.reduceAdd, Nat.reduceSub, Nat.reduceMul, Nat.reduceLeDiff, reduceCtorEq, hadd]
        refine next _ ?_
        simp only [go_sem, Int.reduceEq, Int.reduceAdd, Int.reduceSub, Int.reduceMul, Nat.reduceLT, Int.reduceLT, Int.reduceLE, Int.reduceToNat, Nat.reduceAdd, Nat.reduceSub, Nat.reduceMul, Nat.reduceLeDiff, reduceCtorEq, d7_0, hown, hmin]
      · have e2' := of_decide_eq_true e2
        cases e3 : decide ((bestN f now m).c.n = now)
        · have e4 := decide_eq_false (never e2' (of_decide_eq_false e3))
          simp only [go_sem, Int.reduceEq, Int.reduceAdd, Int.reduceSub, Int.reduceMul, Nat.reduceLT, Int.reduceLT, Int.reduceLE, Int.reduceToNat, Nat.reduceAdd, Nat.reduceSub, Nat.reduceMul, Nat.reduceLeDiff, reduceCtorEq, e3]
          cases e5 : decide (pathN f m[k] = min (leastF f (m.take k)) (pathN f m[k]))
          · simp only [go_sem, Int.reduceEq, Int.reduceAdd, Int.reduceSub, Int.reduceMul, Nat.reduceLT, Int.reduceLT, Int.reduceLE, Int.reduceToNat, Nat.reduceAdd, Nat.reduceSub, Nat.reduceMul, Nat.reduceLeDiff, reduceCtorEq, e4, hadd]
            refine next _ ?_
            simp only [go_sem, Int.reduceEq, Int.reduceAdd, Int.reduceSub, Int.reduceMul, Nat.reduceLT, Int.reduceLT, Int.reduceLE, Int.reduceToNat, Nat.reduceAdd, Nat.reduceSub, Nat.reduceMul, Nat.reduceLeDiff, reduceCtorEq, d7_0, hown, hmin]
          · simp only [go_sem, Int.reduceEq, Int.reduceAdd, Int.reduceSub, Int.reduceMul, Nat.reduceLT, Int.reduceLT, Int.reduceLE, Int.reduceToNat, Nat.reduceAdd, Nat.reduceSub, Nat.reduceMul, Nat.reduceLeDiff, reduceCtorEq, hadd]
            refine next _ ?_
            simp only [go_sem, Int.reduceEq, Int.reduceAdd, Int.reduceSub, Int.reduceMul, Nat.reduceLT, Int.reduceLT, Int.reduceLE, Int.reduceToNat, Nat.reduceAdd, Nat.reduceSub, Nat.reduceMul, Nat.reduceLeDiff, reduceCtorEq, d7_0, hown, hmin]
        · simp only [go_sem, Int.reduceEq, Int.reduceAdd, Int.reduceSub, Int.reduceMul, Nat.reduceLT, Int.reduceLT, Int.reduceLE, Int.reduceToNat, Nat.reduceAdd, Nat.reduceSub, Nat.reduceMul, Nat.reduceLeDiff, reduceCtorEq, e3, hadd]
          refine next _ ?_
          simp only [go_sem, Int.reduceEq, Int.reduceAdd, Int.reduceSub, Int.reduceMul, Nat.reduceLT, Int.reduceLT, Int.reduceLE, Int.reduceToNat, Nat.reduceAdd, Nat.reduceSub, Nat.reduceMul, Nat.reduceLeDiff, reduceCtorEq, d7_0, hown, hmin]
    · rw [if_pos (of_decide_eq_true e1)] at hown
      simp only [go_sem, Int.reduceEq, Int.reduceAdd, Int.reduceSub, Int.reduceMul, Nat.reduceLT, Int.reduceLT, Int.reduceLE, Int.reduceToNat, Nat.reduceAdd, Nat.reduceSub, Nat.reduceMul, Nat.reduceLeDiff, reduceCtorEq, hlt, r0]
      cases e2 : decide (m[k].n = (bestN f now m).c.n)
      · simp only [go_sem, Int.reduceEq, Int.reduceAdd, Int.reduceSub, Int.reduceMul, Nat.reduceLT, Int.reduceLT, Int.reduceLE, Int.reduceToNat, Nat.reduceAdd, Nat.reduceSub, Nat.reduceMul, Nat.reduceLeDiff, reduceCtorEq, hadd]
        refine next _ ?_
        simp only [go_sem, Int.reduceEq, Int.reduceAdd, Int.reduceSub, Int.reduceMul, Nat.reduceLT, Int.reduceLT, Int.reduceLE, Int.reduceToNat, Nat.reduceAdd, Nat.reduceSub, Nat.reduceMul, Nat.reduceLeDiff, reduceCtorEq, d7_0, hown, hmin]
      · have e3 : decide ((bestN f now m).c.n = now) = true := decide_eq_true (by rw [← of_decide_eq_true e2, of_decide_eq_true e1])
        simp only [go_sem, Int.reduceEq, Int.reduceAdd, Int.reduceSub, Int.reduceMul, Nat.reduceLT, Int.reduceLT, Int.reduceLE, Int.reduceToNat, Nat.reduceAdd, Nat.reduceSub, Nat.reduceMul, Nat.reduceLeDiff, reduceCtorEq, e3, hadd]
        refine next _ ?_
        simp only [go_sem, Int.reduceEq, Int.reduceAdd, Int.reduceSub, Int.reduceMul, Nat.reduceLT, Int.reduceLT, Int.reduceLE, Int.reduceToNat, Nat.reduceAdd, Nat.reduceSub, Nat.reduceMul, Nat.reduceLeDiff, reduceCtorEq, d7_0, hown, hmin]
  · have hkl : k = m.length := by omega
    subst hkl
    rw [List.take_length]
    simp only [go_sem, Int.reduceEq, Int.reduceAdd, Int.reduceSub, Int.reduceMul, Nat.reduceLT, Int.reduceLT, Int.reduceLE, Int.reduceToNat, Nat.reduceAdd, Nat.reduceSub, Nat.reduceMul, Nat.reduceLeDiff, reduceCtorEq, hlt]
    refine frz_id ?_
    cases e1 : decide (ownF f now m = 65535)
    · have hi := stays_iff hf hr he (now := now) (of_decide_eq_false e1)
      have hl := leastF_range hf (rightL_one hr)
      have hw : IntKind.i64.wrap (leastF f m + f.th) = leastF f m + f.th := w64 (by omega) (by omega)
      have hd : decide ((bestN f now m).c.n = now) = decide (ownF f now m ≤ leastF f m + f.th) := decide_eq_decide.2 hi
      simp only [go_sem, Int.reduceEq, Int.reduceAdd, Int.reduceSub, Int.reduceMul, Nat.reduceLT, Int.reduceLT, Int.reduceLE, Int.reduceToNat, Nat.reduceAdd, Nat.reduceSub, Nat.reduceMul, Nat.reduceLeDiff, reduceCtorEq, e1]
      refine (known16_spec _).use ?_
      simp only [go_sem, Int.reduceEq, Int.reduceAdd, Int.reduceSub, Int.reduceMul, Nat.reduceLT, Int.reduceLT, Int.reduceLE, Int.reduceToNat, Nat.reduceAdd, Nat.reduceSub, Nat.reduceMul, Nat.reduceLeDiff, reduceCtorEq, hw, hd]
      (refine hQ _ _ _ _ _ (by first | exact .inr rfl | exact .inl rfl) rfl (by first | exact FzH.refl _ | exact FzH.sub (by (repeat' (first | exact Sub.refl _ | assumption | (refine Sub.upd ?_ (by first | assumption | (simp only [*]; done) | exact Sub.isNone (by assumption) (by assumption) | exact Sub.isNone (by assumption) (by simp only [*]))))))) (FzL.refl _ _ _) ?_; try (simp only [go_sem, Int.reduceEq, Int.reduceAdd, Int.reduceSub, Int.reduceMul, Nat.reduceLT, Int.reduceLT, Int.reduceLE, Int.reduceToNat, Nat.reduceAdd, Nat.reduceSub, Nat.reduceMul, Nat.reduceLeDiff, reduceCtorEq]))
    · have hi := decide_eq_false (stays_none hf hr he (now := now) (of_decide_eq_true e1))
      simp only [go_sem, Int.reduceEq, Int.reduceAdd, Int.reduceSub, Int.reduceMul, Nat.reduceLT, Int.reduceLT, Int.reduceLE, Int.reduceToNat, Nat.reduceAdd, Nat.reduceSub, Nat.reduceMul, Nat.reduceLeDiff, reduceCtorEq, e1]
      refine (known16_spec _).use ?_
      simp only [go_sem, Int.reduceEq, Int.reduceAdd, Int.reduceSub, Int.reduceMul, Nat.reduceLT, Int.reduceLT, Int.reduceLE, Int.reduceToNat, Nat.reduceAdd, Nat.reduceSub, Nat.reduceMul, Nat.reduceLeDiff, reduceCtorEq, hi]
      (refine hQ _ _ _ _ _ (by first | exact .inr rfl | exact .inl rfl) rfl (by first | exact FzH.refl _ | exact FzH.sub (by (repeat' (first | exact Sub.refl _ | assumption | (refine Sub.upd ?_ (by first | assumption | (simp only [*]; done) | exact Sub.isNone (by assumption) (by assumption) | exact Sub.isNone (by assumption) (by simp only [*]))))))) (FzL.refl _ _ _) ?_; try (simp only [go_sem, Int.reduceEq, Int.reduceAdd, Int.reduceSub, Int.reduceMul, Nat.reduceLT, Int.reduceLT, Int.reduceLE, Int.reduceToNat, Nat.reduceAdd, Nat.reduceSub, Nat.reduceMul, Nat.reduceLeDiff, reduceCtorEq]))

theorem hstays_law (xs : List AV) (h : ArgsSh Try.prog 6 Try.f7.params.toList xs) : PureA Try.prog 7 xs emp (.bool true) := by
  rw [Try.params7] at h
  simp only [ArgsSh, ArgSh, Try.underlying26, Try.underlying77, Try.underlying3] at h
  obtain ⟨x, _, rfl, hx, y, _, rfl, hy, z, _, rfl, hz, rfl⟩ := h
  rw [ShC] at hz
  simp only [Try.underlying77] at hz
  simp only [Try.underlying26, Try.underlying3, ShC, ShFs] at hx hy
  obtain ⟨_, rfl, _, _, rfl, _, ⟨a, rfl, _⟩, _, _, rfl, _, ⟨b, rfl, _⟩, _, _, rfl, _, ⟨c, rfl, _⟩, _, _, rfl, _, ⟨d, rfl, _⟩, rfl⟩ := hx
  obtain ⟨m, hm, _⟩ := hy
  cases hm
  obtain ⟨els, e, hl, hels⟩ := hz
  cases e
  obtain ⟨l, e1, e2, e3⟩ := cds_sh (els := els) fun el hel => ⟨(hels el hel).1, by
    have := (hels el hel).2
    rw [ShC] at this
    simp only [Try.underlying67] at this ⊢
    exact this⟩
  rw [e1, e2]
  exact hstays_spec ⟨a, b, c, d⟩ m l emp (by have := maxLen_le; omega)

end Go.Proofs.Ytaeppifdbcoipaa
