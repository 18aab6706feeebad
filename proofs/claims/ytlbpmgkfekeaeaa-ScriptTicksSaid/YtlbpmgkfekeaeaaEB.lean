/-
  One operation under its guard, on abstract states.
-/
import Derived.Test.YtlbpmgkfekeaeaaE8
import Derived.Scope
import Derived.Deep.LoopGhost
namespace Go.Proofs.Ytlbpmgkfekeaeaa.E
open Go
set_option linter.unusedVariables false
set_option linter.unusedSimpArgs false

def put (s : List AV) (dst : Option Nat) (v : AV) : List AV :=
  match dst with
  | some d => s.set d v
  | none => s

/-- What comes behind an operation. -/
def kput (K : List AV → AHeap → Prop) (s : List AV) (dst : Option Nat) (v : AV) (h : AHeap) : Prop := K (put s dst v) h

/-- An operation under a guard whose value is b. -/
def guardA (P : Program) (o : AOp) (dst : Option Nat) (K : List AV → AHeap → Prop) (s : List AV) (h : AHeap) (want b : Bool) : Prop :=
  (b = want → aw P o (kput K s dst) s h) ∧ (b = !want → K (put s dst (.tup [])) h)

def awOper (P : Program) (o : AOper) (K : List AV → AHeap → Prop) (s : List AV) (h : AHeap) : Prop :=
  match o.guard with
  | none => aw P o.op (kput K s o.dst) s h
  | some (t, want) => match s.getD t .undef with
    | .bool b => guardA P o.op o.dst K s h want b
    | .tup [] => K (put s o.dst (.tup [])) h
    | _ => False

def awOps (P : Program) : List AOper → (List AV → AHeap → Prop) → List AV → AHeap → Prop
  | [], K, s, h => K s h
  | o :: l, K, s, h => awOper P o (awOps P l K) s h

structure L (W0 : World) (s : List AV) (h : AHeap) (a : Act) (w : World) : Prop where
  slots : VRs W0 s a.tmps.toList
  defers : a.defers = []
  rel : Rel W0 h w

theorem L.put {W0 : World} {s : List AV} {h h' : AHeap} {a : Act} {w w' : World} (l : L W0 s h a w) (dst : Option Nat) {v : AV} {u : Value} (hv : VR W0 v u) (r : Rel W0 h' w') : L W0 (put s dst v) h' (a.put dst u) w' := by
  cases dst with
  | none => exact ⟨l.slots, l.defers, r⟩
  | some d =>
    refine ⟨?_, l.defers, r⟩
    simp only [E.put, Act.put, Array.toList_setIfInBounds]
    exact VRs_set l.slots d hv

section
variable {P : Program} {W0 : World}

theorem guard_spec {ops : Array Oper} {o : Oper} {ao : AOper} (h : cOper P ops o = some ao) : cOp P o.op = some ao.op ∧ ao.dst = o.dst ∧
    ((o.guard = none ∧ ao.guard = none) ∨ ∃ j want t, o.guard = some (j, want) ∧ (ops[j]?).bind (·.dst) = some t ∧ ao.guard = some (t, want)) := by
  unfold cOper at h
  split at h
  · cases h
  · rename_i x hx
    split at h
    · rename_i hg; cases h; exact ⟨hx, rfl, .inl ⟨hg, rfl⟩⟩
    · rename_i j want hg
      split at h
      · rename_i t ht; cases h; exact ⟨hx, rfl, .inr ⟨j, want, t, hg, ht, rfl⟩⟩
      · cases h

theorem yielded_of {ops : Array Oper} {s : List AV} {a : Act} {j t : Nat} {b : Bool} (hs : VRs W0 s a.tmps.toList) (ht : (ops[j]?).bind (·.dst) = some t) (hb : s.getD t .undef = .bool b) : yielded ops a.tmps j = some b := by
  have h1 : s[t]? = some (.bool b) := by
    rw [List.getD_eq_getElem?_getD] at hb
    cases h : s[t]? with
    | none => rw [h] at hb; cases hb
    | some x => rw [h] at hb; simp at hb; rw [hb]
  obtain ⟨u, hu, hr⟩ := VRs_get hs t _ h1
  simp only [VR] at hr; subst hr
  have : a.tmps[t]? = some (.bool b) := by simpa using hu
  unfold yielded
  rw [ht]; simp [this]

theorem VR_no : VR W0 (.tup []) Go.undef := ⟨[], rfl, rfl⟩

theorem yielded_no {ops : Array Oper} {s : List AV} {a : Act} {j t : Nat} (hs : VRs W0 s a.tmps.toList) (ht : (ops[j]?).bind (·.dst) = some t) (hb : s.getD t .undef = .tup []) : yielded ops a.tmps j = none := by
  have h1 : s[t]? = some (.tup []) := by
    rw [List.getD_eq_getElem?_getD] at hb
    cases h : s[t]? with
    | none => rw [h] at hb; cases hb
    | some x => rw [h] at hb; simp at hb; rw [hb]
  obtain ⟨u, hu, hr⟩ := VRs_get hs t _ h1
  simp only [VR, VRs] at hr
  obtain ⟨l, rfl, rfl⟩ := hr
  have : a.tmps[t]? = some (.tuple #[]) := by simpa using hu
  unfold yielded
  rw [ht]; simp [this]

end
end Go.Proofs.Ytlbpmgkfekeaeaa.E
