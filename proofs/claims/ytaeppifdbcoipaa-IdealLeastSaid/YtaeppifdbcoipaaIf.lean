/-
  Two ways to least ranks, in plain Lean: until nothing is left to be relaxed; round by round.
-/
import Derived.Test.YtaeppifdbcoipaaEQ
namespace Go.Proofs.Ytaeppifdbcoipaa
set_option linter.unusedVariables false

/-- What a step by a neighbour gives: at most 65535, above the neighbour's rank unless it is 65535; it rises with the rank. -/
structure StepOk (N : Nat) (step : Nat → Int → Nat → Int) : Prop where
  top : ∀ a r b, step a r b ≤ 65535
  mono : ∀ a r s b, r ≤ s → step a r b ≤ step a s b

/-- Least ranks: nothing is left to be relaxed; each is by a lower one. -/
structure Least (N : Nat) (step : Nat → Int → Nat → Int) (root : Int) (D : Nat → Int) : Prop where
  root : D 0 = root
  top : ∀ b, D b ≤ 65535
  relaxed : ∀ a b, a < N → b < N → b ≠ 0 → D b ≤ step a (D a) b
  by' : ∀ b, b < N → b ≠ 0 → D b ≠ 65535 → ∃ a, a < N ∧ D b = step a (D a) b ∧ D a < D b

section
variable {N : Nat} {step : Nat → Int → Nat → Int} {root : Int} {D : Nat → Int}

/-- How many are lower. -/
def low (N : Nat) (D : Nat → Int) (b : Nat) : Nat := ((List.range N).filter fun c => decide (D c < D b)).length

theorem filter_le {l : List Nat} {p q : Nat → Bool} (h : ∀ x, p x = true → q x = true) : (l.filter p).length ≤ (l.filter q).length := by
  induction l with
  | nil => simp
  | cons x l ih =>
    rw [List.filter_cons, List.filter_cons]
    cases hp : p x
    · cases hq : q x <;> simp <;> omega
    · rw [h x hp]; simp; omega

theorem filter_lt {l : List Nat} {p q : Nat → Bool} (h : ∀ x, p x = true → q x = true) {a : Nat} (ha : a ∈ l) (hq : q a = true) (hp : p a = false) : (l.filter p).length < (l.filter q).length := by
  induction l with
  | nil => simp at ha
  | cons x l ih =>
    have hle := filter_le (l := l) h
    rw [List.filter_cons, List.filter_cons]
    rcases List.mem_cons.1 ha with rfl | ha
    · rw [hp, hq]; simp; omega
    · have := ih ha
      cases hpx : p x
      · cases hqx : q x <;> simp <;> omega
      · rw [h x hpx]; simp; omega

theorem low_lt {a b : Nat} (ha : a < N) (h : D a < D b) : low N D a < low N D b := by
  refine filter_lt (fun x hx => ?_) (List.mem_range.2 ha) (decide_eq_true h) (decide_eq_false (by omega))
  have := of_decide_eq_true hx
  exact decide_eq_true (by omega)

theorem low_top {b : Nat} (hb : b < N) : low N D b < N := by
  have h1 : ((List.range N).filter fun c => decide (D c < D b)).length < ((List.range N).filter fun _ => true).length := filter_lt (fun _ _ => rfl) (List.mem_range.2 hb) rfl (decide_eq_false (by omega))
  have h2 : ((List.range N).filter fun _ => true).length = N := by rw [List.filter_eq_self.2 (fun _ _ => rfl), List.length_range]
  unfold low
  omega

/-- One pair is looked at. -/
def relB (step : Nat → Int → Nat → Int) (B : Nat → Int) (a b : Nat) : Nat → Int := fun c => if c = b ∧ step a (B a) b < B b then step a (B a) b else B c

theorem relB_le (B : Nat → Int) (a b c : Nat) : relB step B a b c ≤ B c := by
  unfold relB; split
  · rename_i h; rw [h.1]; omega
  · omega
theorem relB_at (B : Nat → Int) (a b : Nat) : relB step B a b b ≤ step a (B a) b := by
  unfold relB; split <;> omega

/-- At a round's middle: nothing is below what it should be; what was looked at is at most what it gave. -/
structure Mid (N : Nat) (step : Nat → Int → Nat → Int) (D : Nat → Int) (t a b : Nat) (B : Nat → Int) : Prop where
  ge : ∀ c, c < N → D c ≤ B c
  zero : B 0 = D 0
  right : ∀ c, c < N → low N D c ≤ t → B c = D c
  seen : ∀ x y, (x < a ∨ (x = a ∧ y < b)) → x < N → 0 < y → y < N → low N D x ≤ t → B y ≤ step x (D x) y

theorem Mid.step' (ok : StepOk N step) (d : Least N step root D) {t a b : Nat} {B : Nat → Int} (m : Mid N step D t a b B) (ha : a < N) (hb : b < N) (hb0 : 0 < b) : Mid N step D t a (b + 1) (relB step B a b) := by
  have ge : ∀ c, c < N → D c ≤ relB step B a b c := fun c hc => by
    unfold relB; split
    · rename_i h
      rw [h.1]
      exact Int.le_trans (d.relaxed a b ha hb (by omega)) (ok.mono a _ _ b (m.ge a ha))
    · exact m.ge c hc
  refine ⟨ge, ?_, fun c hc hl => ?_, fun x y hxy hx hy0 hy hl => ?_⟩
  · unfold relB; rw [if_neg (by omega)]; exact m.zero
  · have h1 := relB_le (step := step) B a b c
    have h2 := ge c hc
    rw [m.right c hc hl] at h1; omega
  · by_cases e : x = a ∧ y = b
    · obtain ⟨rfl, rfl⟩ := e
      have := relB_at (step := step) B x y
      rw [m.right x hx hl] at this; exact this
    · exact Int.le_trans (relB_le B a b y) (m.seen x y (by omega) hx hy0 hy hl)

theorem Mid.turn {t a : Nat} {B : Nat → Int} (m : Mid N step D t a N B) : Mid N step D t (a + 1) 1 B :=
  ⟨m.ge, m.zero, m.right, fun x y h hx hy0 hy hl => m.seen x y (by omega) hx hy0 hy hl⟩

theorem Mid.next (d : Least N step root D) {t b : Nat} {B : Nat → Int} (m : Mid N step D t N b B) (hB : ∀ c, c < N → B c ≤ 65535) : Mid N step D (t + 1) 0 1 B := by
  refine ⟨m.ge, m.zero, fun c hc hl => ?_, fun x y h _ hy0 => by omega⟩
  have hg := m.ge c hc
  by_cases c0 : c = 0
  · subst c0; exact m.zero
  by_cases ci : D c = 65535
  · have := hB c hc; omega
  obtain ⟨a, ha, e, hlt⟩ := d.by' c hc c0 ci
  have h1 := low_lt ha hlt
  have h2 := m.seen a c (by omega) ha (by omega) hc (by omega)
  omega

theorem Mid.start (d : Least N step root D) {B : Nat → Int} (h0 : B 0 = D 0) (hB : ∀ c, c < N → c ≠ 0 → B c = 65535) : Mid N step D 0 0 1 B := by
  refine ⟨fun c hc => ?_, h0, fun c hc hl => ?_, fun x y h _ hy0 => by omega⟩
  · by_cases c0 : c = 0
    · subst c0; omega
    · rw [hB c hc c0]; exact d.top c
  · by_cases c0 : c = 0
    · subst c0; exact h0
    · rw [hB c hc c0]
      by_cases ci : D c = 65535
      · exact ci.symm
      · obtain ⟨a, ha, e, hlt⟩ := d.by' c hc c0 ci
        have := low_lt ha hlt
        omega

/-- After as many rounds as there are nodes all are right. -/
theorem Mid.all {B : Nat → Int} (m : Mid N step D N 0 1 B) : ∀ c, c < N → B c = D c := fun c hc => m.right c hc (by have := low_top (D := D) hc; omega)

/-! ### Until nothing is left -/

structure Step2 (N : Nat) (step : Nat → Int → Nat → Int) : Prop extends StepOk N step where
  inf : ∀ a b, step a 65535 b = 65535
  up : ∀ a r b, step a r b ≠ 65535 → r < step a r b

/-- What holds all along: J are the jobs (a rank, a node); of node x the first k are looked at. -/
structure Lab (N : Nat) (step : Nat → Int → Nat → Int) (root : Int) (J : List (Int × Nat)) (B : Nat → Int) : Prop where
  root : B 0 = root
  top : ∀ b, B b ≤ 65535
  by' : ∀ b, b < N → b ≠ 0 → B b ≠ 65535 → ∃ a r, a < N ∧ B a ≤ r ∧ B b = step a r b
  node : ∀ j ∈ J, j.2 < N ∧ B j.2 ≤ j.1
  todo : ∀ a, a < N → (B a, a) ∈ J ∨ ∀ b, b < N → b ≠ 0 → B b ≤ step a (B a) b

theorem Lab.least (ok : Step2 N step) {B : Nat → Int} (l : Lab N step root [] B) : Least N step root B := by
  refine ⟨l.root, l.top, fun a b ha hb hb0 => ?_, fun b hb hb0 hbi => ?_⟩
  · rcases l.todo a ha with h | h
    · simp at h
    · exact h b hb hb0
  · obtain ⟨a, r, ha, har, e⟩ := l.by' b hb hb0 hbi
    have h1 : B b ≤ step a (B a) b := by
      rcases l.todo a ha with h | h
      · simp at h
      · exact h b hb hb0
    have h2 := ok.mono a _ _ b har
    have h3 := ok.up a r b (by rw [← e]; exact hbi)
    exact ⟨a, ha, by omega, by omega⟩

/-- The same while node i is looked at: those of P are done. -/
structure LabM (N : Nat) (step : Nat → Int → Nat → Int) (root : Int) (J : List (Int × Nat)) (B : Nat → Int) (i : Nat) (P : Nat → Prop) : Prop where
  rt : B 0 = root
  top : ∀ b, B b ≤ 65535
  lo : ∀ b, root ≤ B b
  by' : ∀ b, b < N → b ≠ 0 → B b ≠ 65535 → ∃ a r, a < N ∧ B a ≤ r ∧ B b = step a r b
  node : ∀ j ∈ J, j.2 < N ∧ B j.2 ≤ j.1
  todo : ∀ a, a < N → a ≠ i → (B a, a) ∈ J ∨ ∀ b, b < N → b ≠ 0 → B b ≤ step a (B a) b
  done : ∀ b, b < N → b ≠ 0 → P b → B b ≤ step i (B i) b

theorem Lab.skip {J J' : List (Int × Nat)} {B : Nat → Int} {x : Int × Nat} (l : Lab N step root J B) (hJ : J.Perm (x :: J')) (hx : B x.2 < x.1) : Lab N step root J' B := by
  refine ⟨l.root, l.top, l.by', fun j hj => l.node j (hJ.mem_iff.2 (List.mem_cons_of_mem _ hj)), fun a ha => ?_⟩
  rcases l.todo a ha with h | h
  · rcases List.mem_cons.1 (hJ.mem_iff.1 h) with e | h
    · exfalso; rw [← e] at hx; simp only at hx; omega
    · exact .inl h
  · exact .inr h

theorem Lab.pop {J J' : List (Int × Nat)} {B : Nat → Int} {x : Int × Nat} (l : Lab N step root J B) (hlo : ∀ b, root ≤ B b) (hJ : J.Perm (x :: J')) : LabM N step root J' B x.2 (fun _ => False) := by
  refine ⟨l.root, l.top, hlo, l.by', fun j hj => l.node j (hJ.mem_iff.2 (List.mem_cons_of_mem _ hj)), fun a ha hax => ?_, fun _ _ _ h => h.elim⟩
  rcases l.todo a ha with h | h
  · rcases List.mem_cons.1 (hJ.mem_iff.1 h) with e | h
    · exact absurd (by rw [← e]) hax
    · exact .inl h
  · exact .inr h

theorem LabM.keep {J : List (Int × Nat)} {B : Nat → Int} {i k : Nat} {P : Nat → Prop} (l : LabM N step root J B i P) (h : B k ≤ step i (B i) k) : LabM N step root J B i (fun b => P b ∨ b = k) :=
  ⟨l.rt, l.top, l.lo, l.by', l.node, l.todo, fun b hb hb0 hp => hp.elim (l.done b hb hb0) fun e => by rw [e]; exact h⟩

theorem LabM.push (ok : Step2 N step) {J : List (Int × Nat)} {B : Nat → Int} {i k : Nat} {P : Nat → Prop} (l : LabM N step root J B i P) (hi : i < N) (hk : k < N) (hki : k ≠ i) (h : step i (B i) k < B k) :
    k ≠ 0 ∧ LabM N step root ((step i (B i) k, k) :: J) (fun b => if b = k then step i (B i) k else B b) i (fun b => P b ∨ b = k) := by
  have hup : B i < step i (B i) k := ok.up _ _ _ (by have := l.top k; omega)
  have k0 : k ≠ 0 := by
    rintro rfl
    have := l.lo i
    rw [l.rt] at h; omega
  have le : ∀ b, (if b = k then step i (B i) k else B b) ≤ B b := fun b => by
    split
    · rename_i e; rw [e]; omega
    · omega
  refine ⟨k0, ?_, fun b => Int.le_trans (le b) (l.top b), fun b => ?_, fun b hb hb0 hbi => ?_, fun j hj => ?_, fun a ha hai => ?_, fun b hb hb0 hp => ?_⟩
  · rw [if_neg (Ne.symm k0)]; exact l.rt
  · have := l.lo i
    have := l.lo b
    split <;> omega
  · by_cases e : b = k
    · subst e
      exact ⟨i, B i, hi, le i, by rw [if_pos rfl]⟩
    · rw [if_neg e] at hbi ⊢
      obtain ⟨a, r, h1, h2, h3⟩ := l.by' b hb hb0 hbi
      exact ⟨a, r, h1, Int.le_trans (le a) h2, h3⟩
  · rcases List.mem_cons.1 hj with rfl | hj
    · exact ⟨hk, by simp⟩
    · exact ⟨(l.node j hj).1, Int.le_trans (le _) (l.node j hj).2⟩
  · by_cases e : a = k
    · subst e; rw [if_pos rfl]; exact .inl List.mem_cons_self
    · rw [if_neg e]
      rcases l.todo a ha hai with h | h
      · exact .inl (List.mem_cons_of_mem _ h)
      · exact .inr fun b hb hb0 => Int.le_trans (le b) (h b hb hb0)
  · rw [if_neg (Ne.symm hki)]
    by_cases e : b = k
    · subst e; rw [if_pos rfl]; omega
    · rw [if_neg e]
      exact l.done b hb hb0 (hp.resolve_right e)

theorem LabM.turn {J : List (Int × Nat)} {B : Nat → Int} {i : Nat} {P : Nat → Prop} (l : LabM N step root J B i P) (h : ∀ b, b < N → b ≠ 0 → ¬ P b → step i (B i) b = 65535) : Lab N step root J B := by
  refine ⟨l.rt, l.top, l.by', l.node, fun a ha => ?_⟩
  by_cases e : a = i
  · subst e
    refine .inr fun b hb hb0 => ?_
    by_cases hp : P b
    · exact l.done b hb hb0 hp
    · rw [h b hb hb0 hp]; exact l.top b
  · exact l.todo a ha e

end
end Go.Proofs.Ytaeppifdbcoipaa
