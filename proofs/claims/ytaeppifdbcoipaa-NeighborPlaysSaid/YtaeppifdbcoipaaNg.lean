/-
  Neighbours: the document's table against the plain one.
-/
import Derived.Test.YtaeppifdbcoipaaNa
namespace Go.Proofs.Ytaeppifdbcoipaa
open Go E
set_option linter.unusedVariables false
set_option linter.unusedSimpArgs false

def SortN (L : List En) : Prop := L.Pairwise (fun a b => a.node < b.node)

theorem sortN_eq {L M : List En} (hp : L.Perm M) (h1 : SortN L) (h2 : SortN M) : L = M :=
  sorted_eq (lt := fun a b : En => a.node < b.node) (fun a b => by omega) hp h1 h2

theorem allN_perm (f : Tb) : (allN f).Perm (vals f) := isort_perm _
theorem allN_sort {f : Tb} (ok : tbOk f) : SortN (allN f) := by
  have asy : ∀ a b : En, nodeC a b < 0 → ¬ nodeC b a < 0 := fun a b => by unfold nodeC cmpZ; split <;> split <;> omega
  have tr : ∀ a b d : En, ¬ nodeC b a < 0 → ¬ nodeC d b < 0 → ¬ nodeC d a < 0 := fun a b d => by unfold nodeC cmpZ; split <;> split <;> split <;> omega
  have h1 := isort_sorted asy tr (vals f)
  have hnd : ((isort nodeC (vals f)).map (·.node)).Nodup := by
    have h2 : ((isort nodeC (vals f)).map (·.node)).Perm ((vals f).map (·.node)) := (isort_perm _).map _
    rw [h2.nodup_iff]
    have : (vals f).map (·.node) = f.map (·.1) := by
      unfold vals; rw [List.map_map]; exact List.map_congr_left fun p hp => (ok.2 p hp).symm
    rw [this]; exact ok.1
  have h3 : (isort nodeC (vals f)).Pairwise (fun a b => a.node ≠ b.node) := List.Pairwise.of_map (·.node) (fun a b h => h) hnd
  refine (h1.and h3).imp fun {a b} h => ?_
  have h4 := h.1
  unfold nodeC cmpZ at h4
  have h5 := h.2
  split at h4 <;> rename_i g
  · exact absurd (by decide) h4
  · omega

theorem allN_of {f : Tb} (ok : tbOk f) {L : List En} (hp : L.Perm (vals f)) (hs : SortN L) : L = allN f :=
  sortN_eq (hp.trans (allN_perm f).symm) hs (allN_sort ok)

/-- All but a node's. -/
def dropD (L : List En) (n : Int) : List En := L.filter fun x => decide (x.node ≠ n)
theorem dropD_sort {L : List En} (h : SortN L) (n : Int) : SortN (dropD L n) := List.Pairwise.filter _ h
theorem dropD_none {L : List En} {n : Int} (h : ∀ x ∈ L, x.node ≠ n) : dropD L n = L := List.filter_eq_self.2 fun x hx => decide_eq_true (h x hx)
theorem dropD_at {L : List En} (h : SortN L) {i : Nat} (hi : i < L.length) : dropD L L[i].node = L.take i ++ L.drop (i + 1) := by
  have e : L = L.take i ++ L[i] :: L.drop (i + 1) := by rw [← List.drop_eq_getElem_cons hi, List.take_append_drop]
  have hp := List.pairwise_iff_getElem.1 h
  generalize hn : L[i].node = n at *
  have e2 : dropD L n = (L.take i ++ L[i] :: L.drop (i + 1)).filter fun x => decide (x.node ≠ n) := by
    rw [← e]; rfl
  rw [e2, List.filter_append, List.filter_cons, if_neg (by simp [hn])]
  congr 1
  · refine List.filter_eq_self.2 fun x hx => ?_
    obtain ⟨j, hj, rfl⟩ := List.mem_iff_getElem.1 hx
    rw [List.length_take] at hj
    rw [List.getElem_take]
    have := hp j i (by omega) hi (by omega)
    rw [hn] at this
    exact decide_eq_true (by omega)
  · refine List.filter_eq_self.2 fun x hx => ?_
    obtain ⟨j, hj, rfl⟩ := List.mem_iff_getElem.1 hx
    rw [List.length_drop] at hj
    rw [List.getElem_drop]
    have := hp i (i + 1 + j) hi (by omega) (by omega)
    rw [hn] at this
    exact decide_eq_true (by omega)

theorem vals_adel {f : Tb} (ok : tbOk f) (n : Int) : vals (adel f n) = dropD (vals f) n := by
  unfold vals adel dropD
  rw [List.filter_map]
  congr 1
  refine List.filter_congr fun p hp => ?_
  have := ok.2 p hp
  simp only [Function.comp]
  rw [this]
  simp
theorem dropD_allN {f : Tb} (ok : tbOk f) (n : Int) : dropD (allN f) n = allN (adel f n) := by
  refine allN_of (tbOk_del ok n) ?_ (dropD_sort (allN_sort ok) n)
  rw [vals_adel ok]
  exact (allN_perm f).filter _

theorem adel_eq {f : Tb} {k : Int} (h : f.any (fun p => p.1 = k) = false) : adel f k = f := by
  unfold adel
  refine List.filter_eq_self.2 fun p hp => ?_
  have := List.any_eq_false.1 h p hp
  simpa using this

theorem aset_perm {f : Tb} (hn : AKeys f) (k : Int) (v : En) : (aset f k v).Perm ((k, v) :: adel f k) := by
  cases h : f.any (fun p => p.1 = k) with
  | false =>
    unfold aset
    rw [h, adel_eq h]
    exact List.perm_append_singleton _ _
  | true =>
    unfold aset
    rw [h, if_pos rfl]
    induction f with
    | nil => cases h
    | cons p f ih =>
      unfold AKeys at hn ih
      rw [List.map_cons, List.nodup_cons] at hn
      rw [List.map_cons]
      by_cases e : p.1 = k
      · have hno : f.any (fun p => p.1 = k) = false := by
          rw [List.any_eq_false]
          intro q hq
          simp only [decide_eq_true_eq]
          rintro rfl
          exact hn.1 (by rw [e]; exact List.mem_map_of_mem hq)
        have h1 : adel (p :: f) k = f := by
          have := adel_eq hno
          unfold adel at this ⊢
          rw [List.filter_cons, if_neg (by simp [e])]; exact this
        have h2 : f.map (fun p => if p.1 = k then (k, v) else p) = f := by
          conv => rhs; rw [← List.map_id f]
          refine List.map_congr_left fun q hq => ?_
          have := List.any_eq_false.1 hno q hq
          rw [if_neg (by simpa using this)]; rfl
        rw [if_pos e, h1, h2]
      · have hy : f.any (fun p => p.1 = k) = true := by
          rw [List.any_cons] at h
          simpa [e] using h
        have h1 : adel (p :: f) k = p :: adel f k := by unfold adel; rw [List.filter_cons, if_pos (by simp [e])]
        rw [if_neg e, h1]
        exact ((ih hn.2 hy).cons p).trans (List.Perm.swap _ _ _)

/-- One more, in its place. -/
theorem addD_allN {f : Tb} (ok : tbOk f) (e : En) {i : Nat} (hi : i ≤ (allN (adel f e.node)).length) (h1 : ∀ x ∈ (allN (adel f e.node)).take i, x.node < e.node) (h2 : ∀ x ∈ (allN (adel f e.node)).drop i, e.node ≤ x.node) :
    (allN (adel f e.node)).take i ++ e :: (allN (adel f e.node)).drop i = allN (aset f e.node e) := by
  have okd := tbOk_del ok e.node
  have hne : ∀ x ∈ allN (adel f e.node), x.node ≠ e.node := fun x hx => by
    rw [← dropD_allN ok] at hx
    exact of_decide_eq_true (List.mem_filter.1 hx).2
  refine allN_of (tbOk_set ok e) ?_ ?_
  · have p1 : (vals (aset f e.node e)).Perm (e :: vals (adel f e.node)) := (aset_perm ok.1 e.node e).map _
    refine List.Perm.trans ?_ (((allN_perm (adel f e.node)).cons e).trans p1.symm)
    refine List.perm_middle.trans ?_
    rw [List.take_append_drop]
  · have hs := allN_sort okd
    generalize allN (adel f e.node) = L at *
    have hs2 : SortN (L.take i ++ L.drop i) := by rw [List.take_append_drop]; exact hs
    unfold SortN at hs2 ⊢
    rw [List.pairwise_append] at hs2 ⊢
    refine ⟨hs2.1, ?_, fun a ha b hb => ?_⟩
    · rw [List.pairwise_cons]
      refine ⟨fun b hb => ?_, hs2.2.1⟩
      have := h2 b hb
      have := hne b (List.mem_of_mem_drop hb)
      omega
    · rcases List.mem_cons.1 hb with rfl | hb
      · exact h1 a ha
      · exact hs2.2.2 a ha b hb

/-- A node's place. -/
theorem look_idx {f : Tb} (ok : tbOk f) (n : Int) : (alook f n = none ∧ ∀ x ∈ allN f, x.node ≠ n) ∨ ∃ i, ∃ hi : i < (allN f).length, (allN f)[i].node = n ∧ alook f n = some (allN f)[i] := by
  cases h : alook f n with
  | none =>
    refine .inl ⟨rfl, fun x hx e => ?_⟩
    have := vals_look ok (mem_allN.1 hx)
    rw [e, h] at this; cases this
  | some v =>
    have h1 := look_mem h
    have h2 := ok.2 _ h1
    simp only at h2
    have h3 : v ∈ allN f := mem_allN.2 (List.mem_map.2 ⟨_, h1, rfl⟩)
    obtain ⟨i, hi, e⟩ := List.mem_iff_getElem.1 h3
    exact .inr ⟨i, hi, by rw [e, ← h2], by rw [e]⟩

theorem sort_inj {L : List En} (hs : SortN L) {i j : Nat} (hi : i < L.length) (hj : j < L.length) (e : L[i].node = L[j].node) : i = j := by
  have hp := List.pairwise_iff_getElem.1 hs
  rcases Nat.lt_trichotomy i j with g | g | g
  · have := hp i j hi hj g; omega
  · exact g
  · have := hp j i hj hi g; omega

end Go.Proofs.Ytaeppifdbcoipaa
