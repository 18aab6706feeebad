/-
  A heap as a list, in plain Lean.
-/
import Derived.Test.YtaeppifdbcoipaaEQ
namespace Go.Proofs.Ytaeppifdbcoipaa
set_option linter.unusedVariables false

structure Jb where
  rank : Int
  node : Int
  num : Int
  deriving DecidableEq

def ltJ (a b : Jb) : Prop := a.rank < b.rank ∨ (a.rank = b.rank ∧ (a.node < b.node ∨ (a.node = b.node ∧ a.num < b.num)))
instance (a b : Jb) : Decidable (ltJ a b) := by unfold ltJ; exact inferInstance
theorem ltJ_trans {a b c : Jb} (h1 : ltJ a b) (h2 : ltJ b c) : ltJ a c := by unfold ltJ at *; omega
theorem ltJ_asymm {a b : Jb} (h1 : ltJ a b) : ¬ ltJ b a := by unfold ltJ at *; omega
theorem ltJ_irr (a : Jb) : ¬ ltJ a a := by unfold ltJ; omega
theorem nlt_trans {a b c : Jb} (h1 : ¬ ltJ a b) (h2 : ¬ ltJ b c) : ¬ ltJ a c := by unfold ltJ at *; omega

def nJ : Jb := ⟨0, 0, 0⟩
/-- The i-th one. -/
def atJ (l : List Jb) (i : Nat) : Jb := l.getD i nJ
theorem atJ_eq {l : List Jb} {i : Nat} (h : i < l.length) : atJ l i = l[i] := by simp [atJ, h]

def swapJ (l : List Jb) (i k : Nat) : List Jb := (l.set i (atJ l k)).set k (atJ l i)
theorem swapJ_len (l : List Jb) (i k : Nat) : (swapJ l i k).length = l.length := by simp [swapJ]
theorem swapJ_at {l : List Jb} {i k : Nat} (hi : i < l.length) (hk : k < l.length) (m : Nat) : atJ (swapJ l i k) m = if m = k then atJ l i else if m = i then atJ l k else atJ l m := by
  simp only [atJ, swapJ, List.getD_eq_getElem?_getD, List.getElem?_set, List.length_set]
  by_cases h1 : k = m
  · subst h1; simp [hk]
  · by_cases h2 : i = m
    · subst h2; simp [h1, hi, Ne.symm h1]
    · simp [h1, h2, Ne.symm h1, Ne.symm h2]

theorem swapJ_perm {l : List Jb} {i k : Nat} (hi : i < l.length) (hk : k < l.length) : (swapJ l i k).Perm l := by
  unfold swapJ
  rw [atJ_eq hi, atJ_eq hk]
  exact List.set_set_perm hi hk

def Hp (l : List Jb) : Prop := ∀ k, 0 < k → k < l.length → ¬ ltJ (atJ l k) (atJ l ((k - 1) / 2))
/-- A heap, but for what stands at i and what is above it. -/
def HpR (l : List Jb) (i : Nat) : Prop := (∀ k, 0 < k → k < l.length → k ≠ i → ¬ ltJ (atJ l k) (atJ l ((k - 1) / 2))) ∧ ∀ k, 0 < k → k < l.length → (k - 1) / 2 = i → 0 < i → ¬ ltJ (atJ l k) (atJ l ((i - 1) / 2))
/-- A heap, but for what stands at i and what is below it. -/
def HpS (l : List Jb) (i : Nat) : Prop := (∀ k, 0 < k → k < l.length → (k - 1) / 2 ≠ i → ¬ ltJ (atJ l k) (atJ l ((k - 1) / 2))) ∧ ∀ k, 0 < k → k < l.length → (k - 1) / 2 = i → 0 < i → ¬ ltJ (atJ l k) (atJ l ((i - 1) / 2))

theorem HpR.done {l : List Jb} {i : Nat} (h : HpR l i) (hs : ¬ (0 < i ∧ ltJ (atJ l i) (atJ l ((i - 1) / 2)))) : Hp l := by
  intro k h0 hk
  by_cases e : k = i
  · subst e; exact fun g => hs ⟨h0, g⟩
  · exact h.1 k h0 hk e

theorem HpR.step {l : List Jb} {i : Nat} (h : HpR l i) (hi : i < l.length) (h0 : 0 < i) (hl : ltJ (atJ l i) (atJ l ((i - 1) / 2))) : HpR (swapJ l i ((i - 1) / 2)) ((i - 1) / 2) := by
  have hp : (i - 1) / 2 < l.length := by omega
  have hne : (i - 1) / 2 ≠ i := by omega
  have sw := swapJ_at hi hp
  generalize hP : (i - 1) / 2 = p at *
  constructor
  · intro k k0 hk hkp
    rw [swapJ_len] at hk
    rw [sw, sw]
    by_cases e1 : k = i
    · subst e1
      rw [if_neg (by omega), if_pos rfl, hP, if_pos rfl]
      exact ltJ_asymm hl
    · rw [if_neg hkp, if_neg e1]
      by_cases e2 : (k - 1) / 2 = p
      · rw [if_pos e2]
        intro g
        have := h.1 k k0 hk e1
        rw [e2] at this
        exact this (ltJ_trans g hl)
      · rw [if_neg e2]
        by_cases e3 : (k - 1) / 2 = i
        · rw [if_pos e3]
          have := h.2 k k0 hk e3 h0
          rw [hP] at this; exact this
        · rw [if_neg e3]; exact h.1 k k0 hk e1
  · intro k k0 hk hkp p0
    rw [swapJ_len] at hk
    rw [sw, sw, if_neg (by omega : k ≠ p), if_neg (by omega : (p - 1) / 2 ≠ p), if_neg (by omega : (p - 1) / 2 ≠ i)]
    have hpg := h.1 p p0 hp hne
    by_cases e1 : k = i
    · rw [if_pos e1]; exact hpg
    · rw [if_neg e1]
      have := h.1 k k0 hk e1
      rw [hkp] at this
      exact nlt_trans this hpg

theorem HpS.done {l : List Jb} {i : Nat} (h : HpS l i) (hs : ∀ k, 0 < k → k < l.length → (k - 1) / 2 = i → ¬ ltJ (atJ l k) (atJ l i)) : Hp l := by
  intro k h0 hk
  by_cases e : (k - 1) / 2 = i
  · rw [e]; exact hs k h0 hk e
  · exact h.1 k h0 hk e

theorem HpS.step {l : List Jb} {i b : Nat} (h : HpS l i) (hb : b < l.length) (hbi : (b - 1) / 2 = i) (b0 : 0 < b) (hl : ltJ (atJ l b) (atJ l i)) (hm : ∀ k, 0 < k → k < l.length → (k - 1) / 2 = i → ¬ ltJ (atJ l k) (atJ l b)) : HpS (swapJ l i b) b := by
  have hi : i < l.length := by omega
  have hne : b ≠ i := by omega
  have sw := swapJ_at hi hb
  constructor
  · intro k k0 hk hkp
    rw [swapJ_len] at hk
    rw [sw, sw, if_neg hkp]
    by_cases e1 : k = b
    · subst e1
      rw [if_pos rfl, if_pos hbi]
      exact ltJ_asymm hl
    · rw [if_neg e1]
      by_cases e2 : (k - 1) / 2 = i
      · rw [if_pos e2, if_neg (by omega)]
        exact hm k k0 hk e2
      · rw [if_neg e2]
        by_cases e3 : k = i
        · rw [if_pos e3]
          subst e3
          exact h.2 b b0 hb hbi k0
        · rw [if_neg e3]; exact h.1 k k0 hk e2
  · intro k k0 hk hkp _
    rw [swapJ_len] at hk
    rw [sw, sw, hbi, if_neg (by omega : k ≠ b), if_neg (by omega : k ≠ i), if_neg (Ne.symm hne), if_pos rfl]
    have := h.1 k k0 hk (by omega)
    rw [hkp] at this; exact this

theorem Hp.least {l : List Jb} (h : Hp l) : ∀ k, k < l.length → ¬ ltJ (atJ l k) (atJ l 0) := by
  intro k
  induction k using Nat.strongRecOn with
  | _ k ih =>
    intro hk
    by_cases h0 : k = 0
    · subst h0; unfold ltJ; omega
    · exact nlt_trans (h k (by omega) hk) (ih ((k - 1) / 2) (by omega) (by omega))

/-- One more, at the end. -/
theorem Hp.push {l : List Jb} (h : Hp l) (x : Jb) : HpR (l ++ [x]) l.length := by
  have e : ∀ k, k < l.length → atJ (l ++ [x]) k = atJ l k := fun k hk => by simp [atJ, List.getElem?_append_left hk]
  constructor
  · intro k k0 hk hkn
    rw [List.length_append, List.length_cons, List.length_nil] at hk
    rw [e k (by omega), e _ (by omega)]
    exact h k k0 (by omega)
  · intro k k0 hk hkp
    rw [List.length_append, List.length_cons, List.length_nil] at hk
    omega

/-- The first one taken away, the last one in its place. -/
def popJ (l : List Jb) : List Jb := (swapJ l 0 (l.length - 1)).take (l.length - 1)
theorem popJ_len (l : List Jb) : (popJ l).length = l.length - 1 := by simp [popJ, swapJ_len]
theorem popJ_perm {l : List Jb} (h : 0 < l.length) : l.Perm (atJ l 0 :: popJ l) := by
  have h1 := swapJ_perm (l := l) (i := 0) (k := l.length - 1) h (by omega)
  have h2 : swapJ l 0 (l.length - 1) = popJ l ++ [atJ l 0] := by
    have hl := swapJ_len l 0 (l.length - 1)
    have := List.take_append_drop (l.length - 1) (swapJ l 0 (l.length - 1))
    rw [← this]
    unfold popJ
    congr 1
    rw [List.drop_eq_getElem_cons (by omega), List.drop_of_length_le (by omega)]
    congr 1
    have := swapJ_at (l := l) (i := 0) (k := l.length - 1) h (by omega) (l.length - 1)
    rw [if_pos rfl, atJ_eq (by omega)] at this
    exact this
  rw [h2] at h1
  exact h1.symm.trans (List.perm_append_singleton _ _)
theorem Hp.pop {l : List Jb} (h : Hp l) (h0 : 0 < l.length) : HpS (popJ l) 0 := by
  have sw := swapJ_at (l := l) (i := 0) (k := l.length - 1) h0 (by omega)
  have e : ∀ k, 0 < k → k < l.length - 1 → atJ (popJ l) k = atJ l k := fun k k0 hk => by
    have h1 : atJ (popJ l) k = atJ (swapJ l 0 (l.length - 1)) k := by simp [atJ, popJ, List.getElem?_take, hk]
    rw [h1, sw, if_neg (by omega), if_neg (by omega)]
  refine ⟨fun k k0 hk hkp => ?_, fun k _ _ _ h => by omega⟩
  rw [popJ_len] at hk
  rw [e k k0 hk, e _ (by omega) (by omega)]
  exact h k k0 (by omega)

end Go.Proofs.Ytaeppifdbcoipaa
