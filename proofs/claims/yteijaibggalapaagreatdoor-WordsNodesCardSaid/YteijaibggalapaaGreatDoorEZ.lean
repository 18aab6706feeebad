/-
  Sorting by insertion, as lists.
-/
import Derived.Test.YteijaibggalapaaGreatDoorEY
namespace Go.Proofs.YteijaibggalapaaGreatDoor.E
open Go
set_option linter.unusedVariables false
set_option linter.unusedSimpArgs false

section
variable {α : Type} {c : α → α → Int}

def insRev (c : α → α → Int) (x : α) : List α → List α
  | [] => [x]
  | y :: ys => if c x y < 0 then y :: insRev c x ys else x :: y :: ys

/-- x put into a list from its end on. -/
def insR (c : α → α → Int) (l : List α) (x : α) : List α := (insRev c x l.reverse).reverse

def isort (c : α → α → Int) (l : List α) : List α := l.foldl (insR c) []

theorem insR_nil (x : α) : insR c [] x = [x] := rfl
theorem insR_lt {q : List α} {x y : α} (h : c x y < 0) : insR c (q ++ [y]) x = insR c q x ++ [y] := by simp [insR, insRev, h]
theorem insR_ge {q : List α} {x y : α} (h : ¬ c x y < 0) : insR c (q ++ [y]) x = q ++ [y] ++ [x] := by simp [insR, insRev, h]
theorem isort_nil : isort c ([] : List α) = [] := rfl
theorem isort_snoc (l : List α) (x : α) : isort c (l ++ [x]) = insR c (isort c l) x := by simp [isort]

theorem insRev_perm (x : α) : ∀ l : List α, (insRev c x l).Perm (x :: l)
  | [] => .refl _
  | y :: ys => by
    unfold insRev; split
    · exact ((insRev_perm x ys).cons y).trans (.swap x y ys)
    · exact .refl _
theorem insR_perm (l : List α) (x : α) : (insR c l x).Perm (l ++ [x]) :=
  (List.reverse_perm _).trans ((insRev_perm x l.reverse).trans ((List.Perm.cons x (List.reverse_perm l)).trans (List.perm_append_singleton x l).symm))
theorem foldl_perm : ∀ (l acc : List α), (l.foldl (insR c) acc).Perm (acc ++ l)
  | [], acc => by simp
  | x :: l, acc => by
    have h1 := foldl_perm l (insR c acc x)
    have h2 := (insR_perm (c := c) acc x).append_right l
    simpa using h1.trans h2
theorem isort_perm (l : List α) : (isort c l).Perm l := by simpa [isort] using foldl_perm (c := c) l []
theorem isort_len (l : List α) : (isort c l).length = l.length := (isort_perm l).length_eq
theorem insR_len (l : List α) (x : α) : (insR c l x).length = l.length + 1 := by simpa using (insR_perm (c := c) l x).length_eq
theorem mem_isort {l : List α} {x : α} : x ∈ isort c l ↔ x ∈ l := (isort_perm l).mem_iff

theorem insRev_sorted {x : α} (as : ∀ a b, c a b < 0 → ¬ c b a < 0) (tr : ∀ a b d, ¬ c b a < 0 → ¬ c d b < 0 → ¬ c d a < 0) : ∀ {l : List α}, l.Pairwise (fun b a => ¬ c b a < 0) → (insRev c x l).Pairwise (fun b a => ¬ c b a < 0)
  | [], _ => by simp [insRev]
  | y :: ys, h => by
    rw [List.pairwise_cons] at h
    unfold insRev; split
    · rename_i hlt
      rw [List.pairwise_cons]
      refine ⟨fun z hz => ?_, insRev_sorted as tr h.2⟩
      rcases List.mem_cons.1 ((insRev_perm x ys).mem_iff.1 hz) with rfl | hz
      · exact as _ _ hlt
      · exact h.1 z hz
    · rename_i hge
      rw [List.pairwise_cons, List.pairwise_cons]
      refine ⟨fun z hz => ?_, h⟩
      rcases List.mem_cons.1 hz with rfl | hz
      · exact hge
      · exact tr z y x (h.1 z hz) hge

theorem isort_sorted (as : ∀ a b, c a b < 0 → ¬ c b a < 0) (tr : ∀ a b d, ¬ c b a < 0 → ¬ c d b < 0 → ¬ c d a < 0) (l : List α) : (isort c l).Pairwise (fun a b => ¬ c b a < 0) := by
  have : ∀ (l acc : List α), acc.Pairwise (fun a b => ¬ c b a < 0) → (l.foldl (insR c) acc).Pairwise (fun a b => ¬ c b a < 0) := by
    intro l
    induction l with
    | nil => intro acc h; exact h
    | cons x l ih =>
      intro acc h
      refine ih _ ?_
      unfold insR
      rw [List.pairwise_reverse]
      exact insRev_sorted as tr (by rw [List.pairwise_reverse]; exact h)
  exact this l [] .nil

/-- Sorted the same way, and the same things: the same list, where none are alike. -/
theorem sorted_eq {lt : α → α → Prop} (asym : ∀ a b, lt a b → ¬ lt b a) : ∀ {l m : List α}, l.Perm m → l.Pairwise lt → m.Pairwise lt → l = m
  | [], m, p, _, _ => by rw [List.Perm.eq_nil p.symm]
  | x :: l, [], p, _, _ => by have := p.length_eq; simp at this
  | x :: l, y :: m, p, h1, h2 => by
    rw [List.pairwise_cons] at h1 h2
    have hxy : x = y := by
      have hx := p.mem_iff.1 (List.mem_cons_self (a := x) (l := l))
      have hy := p.mem_iff.2 (List.mem_cons_self (a := y) (l := m))
      rcases List.mem_cons.1 hx with e | hx
      · exact e
      · rcases List.mem_cons.1 hy with e | hy
        · exact e.symm
        · exact absurd (h1.1 _ hy) (asym _ _ (h2.1 _ hx))
    subst hxy
    rw [sorted_eq asym (List.Perm.cons_inv p) h1.2 h2.2]
end

end Go.Proofs.YteijaibggalapaaGreatDoor.E
