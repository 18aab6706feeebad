/-
  Targets: the plain table, and the document's, in order.
-/
import Derived.Test.YtaifdlegjhncaaaTt
import Derived.Test.YtaifdlegjhncaaaEZ
import Derived.Test.YtaifdlegjhncaaaEQ
namespace Go.Proofs.Ytaifdlegjhncaaa
open Go E
set_option linter.unusedVariables false
set_option linter.unusedSimpArgs false
set_option linter.unusedSectionVars false

def nodeR (a b : Rt) : Int := if a.node < b.node then -1 else if b.node < a.node then 1 else 0

abbrev Tr := List (Int × Rt)

def trOk (f : Tr) : Prop := AKeys f ∧ ∀ p ∈ f, p.1 = p.2.node

def valR (f : Tr) : List Rt := f.map (·.2)

def allR (f : Tr) : List Rt := isort nodeR (valR f)

theorem look_mem {f : Tr} {k : Int} {v : Rt} (h : alook f k = some v) : (k, v) ∈ f := by
  induction f with
  | nil => simp [alook_nil] at h
  | cons p f ih =>
    rw [alook_cons] at h
    split at h
    · rename_i e; cases h; subst e; simp
    · exact List.mem_cons_of_mem _ (ih h)

theorem look_of_mem {f : Tr} (hn : AKeys f) {k : Int} {v : Rt} (h : (k, v) ∈ f) : alook f k = some v := by
  induction f with
  | nil => cases h
  | cons p f ih =>
    unfold AKeys at hn ih
    rw [List.map_cons, List.nodup_cons] at hn
    rw [alook_cons]
    rcases List.mem_cons.1 h with e | h
    · subst e; simp
    · rw [if_neg]
      · exact ih hn.2 h
      · rintro e; exact hn.1 (by rw [e]; exact List.mem_map_of_mem h)

theorem trOk_nil : trOk [] := ⟨AKeys_nil, by simp⟩

theorem aset_new {f : Tr} {k : Int} (v : Rt) (h : alook f k = none) : aset f k v = f ++ [(k, v)] := by
  unfold aset; rw [if_neg (by rw [alook_none.1 h]; simp)]

theorem mem_aset {f : Tr} {k : Int} {v : Rt} {p : Int × Rt} (h : p ∈ aset f k v) : p = (k, v) ∨ p ∈ f := by
  unfold aset at h
  split at h
  · obtain ⟨q, hq, rfl⟩ := List.mem_map.1 h
    split
    · exact .inl rfl
    · exact .inr hq
  · rcases List.mem_append.1 h with h | h
    · exact .inr h
    · simp at h; exact .inl h

theorem trOk_set {f : Tr} (h : trOk f) (e : Rt) : trOk (aset f e.node e) :=
  ⟨AKeys_set h.1, fun p hp => by rcases mem_aset hp with rfl | hp; rfl; exact h.2 p hp⟩

theorem trOk_del {f : Tr} (h : trOk f) (k : Int) : trOk (adel f k) := ⟨AKeys_del h.1, fun p hp => h.2 p (List.mem_filter.1 hp).1⟩

theorem adel_len {f : Tr} (hn : AKeys f) {k : Int} (h : (alook f k).isSome = true) : (adel f k).length + 1 = f.length := by
  induction f with
  | nil => simp [alook_nil] at h
  | cons p f ih =>
    unfold AKeys at hn ih
    rw [List.map_cons, List.nodup_cons] at hn
    rw [alook_cons] at h
    unfold adel at ih ⊢
    rw [List.filter_cons]
    by_cases e : p.1 = k
    · have : f.filter (fun p => !decide (p.1 = k)) = f := List.filter_eq_self.2 fun q hq => by
        have : ¬ q.1 = k := fun e2 => hn.1 (by rw [e, ← e2]; exact List.mem_map_of_mem hq)
        simp [this]
      simp [e, this]
    · rw [if_neg e] at h
      simp [e, ih hn.2 h]

theorem mem_allN {f : Tr} {x : Rt} : x ∈ allR f ↔ x ∈ valR f := mem_isort

theorem allR_len (f : Tr) : (allR f).length = f.length := by unfold allR; rw [isort_len]; simp [valR]

theorem valR_look {f : Tr} (h : trOk f) {x : Rt} (hx : x ∈ valR f) : alook f x.node = some x := by
  obtain ⟨p, hp, rfl⟩ := List.mem_map.1 hx
  have := look_of_mem h.1 (k := p.1) (v := p.2) hp
  rw [h.2 p hp] at this; exact this

def SortR (L : List Rt) : Prop := L.Pairwise (fun a b => a.node < b.node)

theorem sortR_eq {L M : List Rt} (hp : L.Perm M) (h1 : SortR L) (h2 : SortR M) : L = M :=
  sorted_eq (lt := fun a b : Rt => a.node < b.node) (fun a b => by omega) hp h1 h2

theorem allR_perm (f : Tr) : (allR f).Perm (valR f) := isort_perm _
theorem allR_sort {f : Tr} (ok : trOk f) : SortR (allR f) := by
  have asy : ∀ a b : Rt, nodeR a b < 0 → ¬ nodeR b a < 0 := fun a b => by unfold nodeR; split <;> split <;> omega
  have tr : ∀ a b d : Rt, ¬ nodeR b a < 0 → ¬ nodeR d b < 0 → ¬ nodeR d a < 0 := fun a b d => by unfold nodeR; split <;> split <;> split <;> omega
  have h1 := isort_sorted asy tr (valR f)
  have hnd : ((isort nodeR (valR f)).map (·.node)).Nodup := by
    have h2 : ((isort nodeR (valR f)).map (·.node)).Perm ((valR f).map (·.node)) := (isort_perm _).map _
    rw [h2.nodup_iff]
    have : (valR f).map (·.node) = f.map (·.1) := by
      unfold valR; rw [List.map_map]; exact List.map_congr_left fun p hp => (ok.2 p hp).symm
    rw [this]; exact ok.1
  have h3 : (isort nodeR (valR f)).Pairwise (fun a b => a.node ≠ b.node) := List.Pairwise.of_map (·.node) (fun a b h => h) hnd
  refine (h1.and h3).imp fun {a b} h => ?_
  have h4 := h.1
  unfold nodeR at h4
  have h5 := h.2
  split at h4 <;> rename_i g
  · exact absurd (by decide) h4
  · omega

theorem allR_of {f : Tr} (ok : trOk f) {L : List Rt} (hp : L.Perm (valR f)) (hs : SortR L) : L = allR f :=
  sortR_eq (hp.trans (allR_perm f).symm) hs (allR_sort ok)

/-- All but a node's. -/
def dropD (L : List Rt) (n : Int) : List Rt := L.filter fun x => decide (x.node ≠ n)
theorem dropD_sort {L : List Rt} (h : SortR L) (n : Int) : SortR (dropD L n) := List.Pairwise.filter _ h
theorem dropD_none {L : List Rt} {n : Int} (h : ∀ x ∈ L, x.node ≠ n) : dropD L n = L := List.filter_eq_self.2 fun x hx => decide_eq_true (h x hx)
theorem dropD_at {L : List Rt} (h : SortR L) {i : Nat} (hi : i < L.length) : dropD L L[i].node = L.take i ++ L.drop (i + 1) := by
  have e : L = L.take i ++ L[i] :: L.drop (i + 1) := by rw [← List.drop_eq_getElem_cons hi, List.take_append_drop]
  have hp := List.pairwise_iff_getElem.1 h
  generalize hn : L[i].node = n at *
  have e2 : dropD L n = (L.take i ++ L[i] :: L.drop (i + 1)).filter fun x => decide (x.node ≠ n) := by
    rw [← e]; rfl
  rw [e2, List.filter_append, List.filter_cons, if_neg (by simp [hn])]
  congr 1
  · refine List.filter_eq_self.2 fun x hx => ?_
    obtain ⟨j, hj, rfl⟩ := List.mem_iff_getElem.1 hx
    rw [List.length_take] at hj
    rw [List.getElem_take]
    have := hp j i (by omega) hi (by omega)
    rw [hn] at this
    exact decide_eq_true (by omega)
  · refine List.filter_eq_self.2 fun x hx => ?_
    obtain ⟨j, hj, rfl⟩ := List.mem_iff_getElem.1 hx
    rw [List.length_drop] at hj
    rw [List.getElem_drop]
    have := hp i (i + 1 + j) hi (by omega) (by omega)
    rw [hn] at this
    exact decide_eq_true (by omega)

theorem valR_adel {f : Tr} (ok : trOk f) (n : Int) : valR (adel f n) = dropD (valR f) n := by
  unfold valR adel dropD
  rw [List.filter_map]
  congr 1
  refine List.filter_congr fun p hp => ?_
  have := ok.2 p hp
  simp only [Function.comp]
  rw [this]
  simp
theorem dropD_allN {f : Tr} (ok : trOk f) (n : Int) : dropD (allR f) n = allR (adel f n) := by
  refine allR_of (trOk_del ok n) ?_ (dropD_sort (allR_sort ok) n)
  rw [valR_adel ok]
  exact (allR_perm f).filter _

theorem adel_eq {f : Tr} {k : Int} (h : f.any (fun p => p.1 = k) = false) : adel f k = f := by
  unfold adel
  refine List.filter_eq_self.2 fun p hp => ?_
  have := List.any_eq_false.1 h p hp
  simpa using this

theorem aset_perm {f : Tr} (hn : AKeys f) (k : Int) (v : Rt) : (aset f k v).Perm ((k, v) :: adel f k) := by
  cases h : f.any (fun p => p.1 = k) with
  | false =>
    unfold aset
    rw [h, adel_eq h]
    exact List.perm_append_singleton _ _
  | true =>
    unfold aset
    rw [h, if_pos rfl]
    induction f with
    | nil => cases h
    | cons p f ih =>
      unfold AKeys at hn ih
      rw [List.map_cons, List.nodup_cons] at hn
      rw [List.map_cons]
      by_cases e : p.1 = k
      · have hno : f.any (fun p => p.1 = k) = false := by
          rw [List.any_eq_false]
          intro q hq
          simp only [decide_eq_true_eq]
          rintro rfl
          exact hn.1 (by rw [e]; exact List.mem_map_of_mem hq)
        have h1 : adel (p :: f) k = f := by
          have := adel_eq hno
          unfold adel at this ⊢
          rw [List.filter_cons, if_neg (by simp [e])]; exact this
        have h2 : f.map (fun p => if p.1 = k then (k, v) else p) = f := by
          conv => rhs; rw [← List.map_id f]
          refine List.map_congr_left fun q hq => ?_
          have := List.any_eq_false.1 hno q hq
          rw [if_neg (by simpa using this)]; rfl
        rw [if_pos e, h1, h2]
      · have hy : f.any (fun p => p.1 = k) = true := by
          rw [List.any_cons] at h
          simpa [e] using h
        have h1 : adel (p :: f) k = p :: adel f k := by unfold adel; rw [List.filter_cons, if_pos (by simp [e])]
        rw [if_neg e, h1]
        exact ((ih hn.2 hy).cons p).trans (List.Perm.swap _ _ _)

/-- One more, in its place. -/
theorem addD_allN {f : Tr} (ok : trOk f) (e : Rt) {i : Nat} (hi : i ≤ (allR (adel f e.node)).length) (h1 : ∀ x ∈ (allR (adel f e.node)).take i, x.node < e.node) (h2 : ∀ x ∈ (allR (adel f e.node)).drop i, e.node ≤ x.node) :
    (allR (adel f e.node)).take i ++ e :: (allR (adel f e.node)).drop i = allR (aset f e.node e) := by
  have okd := trOk_del ok e.node
  have hne : ∀ x ∈ allR (adel f e.node), x.node ≠ e.node := fun x hx => by
    rw [← dropD_allN ok] at hx
    exact of_decide_eq_true (List.mem_filter.1 hx).2
  refine allR_of (trOk_set ok e) ?_ ?_
  · have p1 : (valR (aset f e.node e)).Perm (e :: valR (adel f e.node)) := (aset_perm ok.1 e.node e).map _
    refine List.Perm.trans ?_ (((allR_perm (adel f e.node)).cons e).trans p1.symm)
    refine List.perm_middle.trans ?_
    rw [List.take_append_drop]
  · have hs := allR_sort okd
    generalize allR (adel f e.node) = L at *
    have hs2 : SortR (L.take i ++ L.drop i) := by rw [List.take_append_drop]; exact hs
    unfold SortR at hs2 ⊢
    rw [List.pairwise_append] at hs2 ⊢
    refine ⟨hs2.1, ?_, fun a ha b hb => ?_⟩
    · rw [List.pairwise_cons]
      refine ⟨fun b hb => ?_, hs2.2.1⟩
      have := h2 b hb
      have := hne b (List.mem_of_mem_drop hb)
      omega
    · rcases List.mem_cons.1 hb with rfl | hb
      · exact h1 a ha
      · exact hs2.2.2 a ha b hb

/-- A node's place. -/
theorem look_idx {f : Tr} (ok : trOk f) (n : Int) : (alook f n = none ∧ ∀ x ∈ allR f, x.node ≠ n) ∨ ∃ i, ∃ hi : i < (allR f).length, (allR f)[i].node = n ∧ alook f n = some (allR f)[i] := by
  cases h : alook f n with
  | none =>
    refine .inl ⟨rfl, fun x hx e => ?_⟩
    have := valR_look ok (mem_allN.1 hx)
    rw [e, h] at this; cases this
  | some v =>
    have h1 := look_mem h
    have h2 := ok.2 _ h1
    simp only at h2
    have h3 : v ∈ allR f := mem_allN.2 (List.mem_map.2 ⟨_, h1, rfl⟩)
    obtain ⟨i, hi, e⟩ := List.mem_iff_getElem.1 h3
    exact .inr ⟨i, hi, by rw [e, ← h2], by rw [e]⟩

theorem sort_inj {L : List Rt} (hs : SortR L) {i j : Nat} (hi : i < L.length) (hj : j < L.length) (e : L[i].node = L[j].node) : i = j := by
  have hp := List.pairwise_iff_getElem.1 hs
  rcases Nat.lt_trichotomy i j with g | g | g
  · have := hp i j hi hj g; omega
  · exact g
  · have := hp j i hj hi g; omega


end Go.Proofs.Ytaifdlegjhncaaa
