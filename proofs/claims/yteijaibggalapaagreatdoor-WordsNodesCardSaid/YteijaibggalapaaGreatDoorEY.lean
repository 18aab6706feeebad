/-
  What comes in, as lists.
-/
import Derived.Test.YteijaibggalapaaGreatDoorES
import Derived.Test.YteijaibggalapaaGreatDoorE12
namespace Go.Proofs.YteijaibggalapaaGreatDoor.E
open Go
set_option linter.unusedVariables false

theorem sh_list {α : Type} {enc : α → List AV} {R : α → Prop} : ∀ {els : List (List AV)}, (∀ el ∈ els, ∃ a : α, el = enc a ∧ R a) → ∃ l : List α, els.flatten = cat enc l ∧ els.length = l.length ∧ ∀ a ∈ l, R a
  | [], h => ⟨[], rfl, rfl, by simp⟩
  | el :: els, h => by
    obtain ⟨a, rfl, ha⟩ := h el (by simp)
    obtain ⟨l, e1, e2, e3⟩ := sh_list (els := els) fun x hx => h x (by simp [hx])
    refine ⟨a :: l, by rw [List.flatten_cons, e1]; rfl, by simp [e2], fun b hb => ?_⟩
    rcases List.mem_cons.1 hb with rfl | hb
    · exact ha
    · exact e3 b hb

theorem wf_u8 {i : Int} (h : (Lit.int .u8 i).wf = true) : 0 ≤ i ∧ i < 256 := by
  simp [Lit.wf, IntKind.min, IntKind.max, IntKind.signed, IntKind.bits] at h
  omega
theorem wf_i64 {i : Int} (h : (Lit.int .i64 i).wf = true) : -9223372036854775808 ≤ i ∧ i ≤ 9223372036854775807 := by
  simp [Lit.wf, IntKind.min, IntKind.max, IntKind.signed, IntKind.bits] at h
  omega
theorem maxLen_le : maxLen ≤ 9223372036854775807 := by unfold maxLen; decide

end Go.Proofs.YteijaibggalapaaGreatDoor.E
