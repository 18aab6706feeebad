/-
  The laws ScriptEncodes, ScriptDecodes, ScriptJoins: what comes in.
-/
import Derived.Test.YtlbpmgkfekeaeaaSl
namespace Go.Proofs.Ytlbpmgkfekeaeaa
open Go E
set_option linter.unusedVariables false
set_option linter.unusedSimpArgs false
set_option maxRecDepth 100000

theorem bytes_sh {els : List (List AV)} (h : ∀ el ∈ els, ∃ i, el = [AV.int .u8 i] ∧ (Lit.int .u8 i).wf = true) : ∃ l : List Int, els.flatten = cat b1 l ∧ els.length = l.length ∧ bytesOK l := by
  obtain ⟨l, e1, e2, e3⟩ := sh_list (enc := b1) (R := byte) fun el hel => by
    obtain ⟨i, rfl, hw⟩ := h el hel
    exact ⟨i, rfl, wf_u8 hw⟩
  exact ⟨l, e1, e2, e3⟩

theorem steps_sh {els : List (List AV)} (h : ∀ el ∈ els, el.length = Try.prog.cellsOf 48 ∧ ShFs (ShC Try.prog 4) Try.prog.cellsOf ((match Try.prog.underlying 48 with | some (.struct fs) => fs | _ => #[]).toList) el) :
    ∃ l : List St, els.flatten = cat St.av l ∧ els.length = l.length ∧ ∀ s ∈ l, bytesOK s.xs := by
  refine sh_list (enc := St.av) (R := fun s => bytesOK s.xs) fun el hel => ?_
  obtain ⟨_, h2⟩ := h el hel
  simp only [Try.underlying48, Try.underlying46, Try.underlying5, Try.underlying3, ShC, ShFs] at h2
  obtain ⟨_, _, rfl, _, ⟨k, rfl, _⟩, _, _, rfl, _, ⟨a, rfl, _⟩, _, _, rfl, _, ⟨b, rfl, _⟩, _, _, rfl, _, ⟨c, rfl, _⟩, _, _, rfl, _, ⟨d, rfl, _⟩, _, _, rfl, _, ⟨els, rfl, _, hels⟩, rfl⟩ := h2
  obtain ⟨xs, e1, e2, e3⟩ := bytes_sh fun el hel => (hels el hel).2
  refine ⟨⟨k, a, b, c, d, xs⟩, ?_, e3⟩
  rw [e1, e2]; rfl

theorem ldecodes_law (xs : List AV) (h : ArgsSh Try.prog 6 Try.f9.params.toList xs) : PureA Try.prog 9 xs emp (.bool true) := by
  rw [Try.params9] at h
  simp only [ArgsSh, ArgSh, Try.underlying46, Try.underlying5, ShC] at h
  obtain ⟨x, _, rfl, ⟨els, e, _, hels⟩, rfl⟩ := h
  cases e
  obtain ⟨l, e1, e2, e3⟩ := bytes_sh fun el hel => (hels el hel).2
  rw [e1, e2]
  exact ldecodes_spec l false emp e3

theorem lencodes_law (xs : List AV) (h : ArgsSh Try.prog 6 Try.f8.params.toList xs) : PureA Try.prog 8 xs emp (.bool true) := by
  rw [Try.params8] at h
  simp only [ArgsSh, ArgSh, Try.underlying79] at h
  obtain ⟨x, _, rfl, hx, rfl⟩ := h
  rw [ShC] at hx
  simp only [Try.underlying79] at hx
  obtain ⟨els, e, hl, hels⟩ := hx
  cases e
  obtain ⟨l, e1, e2, e3⟩ := steps_sh (els := els) fun el hel => ⟨(hels el hel).1, by
    have := (hels el hel).2
    rw [ShC] at this
    simp only [Try.underlying48] at this ⊢
    exact this⟩
  rw [e1, e2]
  exact lencodes_spec l false emp (by have := maxLen_le; omega) e3

theorem ljoins_law (xs : List AV) (h : ArgsSh Try.prog 6 Try.f10.params.toList xs) : PureA Try.prog 10 xs emp (.bool true) := by
  rw [Try.params10] at h
  simp only [ArgsSh, ArgSh, Try.underlying79, Try.underlying46] at h
  obtain ⟨x, _, rfl, hx, y, _, rfl, hy, rfl⟩ := h
  rw [ShC] at hx hy
  simp only [Try.underlying79, Try.underlying46] at hx hy
  obtain ⟨els, e, hl, hels⟩ := hx
  cases e
  obtain ⟨els2, e, hl2, hels2⟩ := hy
  cases e
  obtain ⟨l, e1, e2, e3⟩ := steps_sh (els := els) fun el hel => ⟨(hels el hel).1, by
    have := (hels el hel).2
    rw [ShC] at this
    simp only [Try.underlying48] at this ⊢
    exact this⟩
  obtain ⟨b, f1, f2, f3⟩ := bytes_sh (els := els2) fun el hel => by
    have := (hels2 el hel).2
    simpa only [Try.underlying5, ShC] using this
  rw [e1, e2, f1, f2]
  exact ljoins_spec l false b false emp (by have := maxLen_le; omega) e3 f3

end Go.Proofs.Ytlbpmgkfekeaeaa
