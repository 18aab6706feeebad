/-
  One operation under its guard, on abstract states.
-/
import Derived.Test.YteijaibggalapaaGreatDoorE8
import Derived.Scope
import Derived.Deep.LoopGhost
namespace Go.Proofs.YteijaibggalapaaGreatDoor.E
open Go
set_option linter.unusedVariables false
set_option linter.unusedSimpArgs false

def put (s : List AV) (dst : Option Nat) (v : AV) : List AV :=
  match dst with
  | some d => s.set d v
  | none => s

/-- What comes behind an operation. -/
def kput (K : List AV → AHeap → Prop) (s : List AV) (dst : Option Nat) (v : AV) (h : AHeap) : Prop := K (put s dst v) h

/-- An operation under a guard whose value is b. -/
def guardA (P : Program) (o : AOp) (dst : Option Nat) (K : List AV → AHeap → Prop) (s : List AV) (h : AHeap) (want b : Bool) : Prop :=
  (b = want → aw P o (kput K s dst) s h) ∧ (b = !want → K (put s dst (.tup [])) h)

def awOper (P : Program) (o : AOper) (K : List AV → AHeap → Prop) (s : List AV) (h : AHeap) : Prop :=
  match o.guard with
  | none => aw P o.op (kput K s o.dst) s h
  | some (t, want) => match s.getD t .undef with
    | .bool b => guardA P o.op o.dst K s h want b
    | .tup [] => K (put s o.dst (.tup [])) h
    | _ => False

def awOps (P : Program) : List AOper → (List AV → AHeap → Prop) → List AV → AHeap → Prop
  | [], K, s, h => K s h
  | o :: l, K, s, h => awOper P o (awOps P l K) s h

/-- Marks of loops over functions, among what is deferred: none of them holds a call; their blocks are b or behind it. -/
def Mk (b : Nat) (h : AHeap) (w : World) : List Deferred → Prop
  | [] => True
  | d :: ds => (∃ D, d = { target := .collected D, args := #[] } ∧ b ≤ D ∧ w.heap[D]? = some (.deferred (some [])) ∧ h D = none) ∧ d ∉ ds ∧ Mk b h w ds
def Mks (b : Nat) (h : AHeap) (w : World) (ds : List Deferred) : Prop := b ≤ w.heap.size ∧ Mk b h w ds

theorem Mk.fr {b : Nat} {W0 W1 : World} {h h' : AHeap} {w w' : World} (f : Fr W0 h w W1 h' w') : ∀ {ds : List Deferred}, Mk b h w ds → Mk b h' w' ds
  | [], _ => trivial
  | d :: ds, ⟨⟨D, e1, e0, e2, e3⟩, e4, e5⟩ => by
    have hlt : D < w.heap.size := (Array.getElem?_eq_some_iff.1 e2).1
    obtain ⟨k1, k2⟩ := f.kept D hlt e3
    exact ⟨⟨D, e1, e0, by rw [k1]; exact e2, k2⟩, e4, Mk.fr f e5⟩
theorem Mks.fr {b : Nat} {W0 W1 : World} {h h' : AHeap} {w w' : World} (f : Fr W0 h w W1 h' w') {ds : List Deferred} (m : Mks b h w ds) : Mks b h' w' ds := ⟨Nat.le_trans m.1 f.size, m.2.fr f⟩
theorem Mk.notin {b : Nat} {h : AHeap} {w : World} : ∀ {ds : List Deferred}, Mk b h w ds → ({ target := .collected w.heap.size, args := #[] } : Deferred) ∉ ds
  | [], _ => by simp
  | d :: ds, ⟨⟨D, e1, _, e2, _⟩, _, e5⟩ => by
    have hlt : D < w.heap.size := (Array.getElem?_eq_some_iff.1 e2).1
    intro hm
    rcases List.mem_cons.1 hm with e | hm
    · rw [e1] at e; injection e with e; injection e with e; omega
    · exact Mk.notin e5 hm

structure L (b : Nat) (W0 : World) (s : List AV) (h : AHeap) (a : Act) (w : World) : Prop where
  slots : VRs W0 s a.tmps.toList
  defers : Mks b h w a.defers
  rel : Rel W0 h w

theorem L.put {b : Nat} {W0 W1 : World} {s : List AV} {h h' : AHeap} {a : Act} {w w' : World} (l : L b W0 s h a w) (dst : Option Nat) {v : AV} {u : Value} (hv : VR W1 v u) (r : Rel W1 h' w') (f : Fr W0 h w W1 h' w') : L b W1 (E.put s dst v) h' (a.put dst u) w' := by
  refine ⟨VRs_put (VRs_le f.le _ _ l.slots) dst hv, ?_, r⟩
  cases dst <;> exact l.defers.fr f

theorem put_defers (a : Act) (d : Option Nat) (u : Value) : (a.put d u).defers = a.defers := by cases d <;> rfl

theorem VR_no {W0 : World} : VR W0 (.tup []) Go.undef := ⟨[], rfl, rfl⟩

/-- A slot that is skipped: nothing is known of it but that. -/
theorem L.skip {b : Nat} {W0 : World} {s : List AV} {h : AHeap} {a : Act} {w : World} (l : L b W0 s h a w) (d : Option Nat) : L b W0 (E.put s d (.tup [])) h (a.put d Go.undef) w :=
  L.put l d VR_no l.rel (Fr.refl W0 h w)

section
variable {P : Program} {W0 : World}

theorem guard_spec {F : List Nat} {ops : Array Oper} {o : Oper} {ao : AOper} (h : cOper P F ops o = some ao) : ∃ ao0, cOp P o.op = some ao0 ∧ ao.op = (fzOp F o.dst ao0).2 ∧ ao.dst = (fzOp F o.dst ao0).1 ∧
    ((o.guard = none ∧ ao.guard = none) ∨ ∃ j want t, o.guard = some (j, want) ∧ (ops[j]?).bind (·.dst) = some t ∧ ao.dst = o.dst ∧ ao.guard = some (t, want)) := by
  unfold cOper at h
  split at h
  · cases h
  · rename_i x hx
    split at h
    · rename_i hg; cases h; exact ⟨x, hx, rfl, rfl, .inl ⟨hg, rfl⟩⟩
    · rename_i j want hg
      split at h
      · rename_i t ht
        split at h <;> cases h
        rename_i he
        exact ⟨x, hx, rfl, he.symm, .inr ⟨j, want, t, hg, ht, rfl, rfl⟩⟩
      · cases h

theorem yielded_of {ops : Array Oper} {s : List AV} {a : Act} {j t : Nat} {b : Bool} (hs : VRs W0 s a.tmps.toList) (ht : (ops[j]?).bind (·.dst) = some t) (hb : s.getD t .undef = .bool b) : yielded ops a.tmps j = some b := by
  have h1 : s[t]? = some (.bool b) := by
    rw [List.getD_eq_getElem?_getD] at hb
    cases h : s[t]? with
    | none => rw [h] at hb; cases hb
    | some x => rw [h] at hb; simp at hb; rw [hb]
  obtain ⟨u, hu, hr⟩ := VRs_get hs t _ h1
  simp only [VR] at hr; subst hr
  have : a.tmps[t]? = some (.bool b) := by simpa using hu
  unfold yielded
  rw [ht]; simp [this]

theorem yielded_no {ops : Array Oper} {s : List AV} {a : Act} {j t : Nat} (hs : VRs W0 s a.tmps.toList) (ht : (ops[j]?).bind (·.dst) = some t) (hb : s.getD t .undef = .tup []) : yielded ops a.tmps j = none := by
  have h1 : s[t]? = some (.tup []) := by
    rw [List.getD_eq_getElem?_getD] at hb
    cases h : s[t]? with
    | none => rw [h] at hb; cases hb
    | some x => rw [h] at hb; simp at hb; rw [hb]
  obtain ⟨u, hu, hr⟩ := VRs_get hs t _ h1
  simp only [VR, VRs] at hr
  obtain ⟨l, rfl, rfl⟩ := hr
  have : a.tmps[t]? = some (.tuple #[]) := by simpa using hu
  unfold yielded
  rw [ht]; simp [this]

end
end Go.Proofs.YteijaibggalapaaGreatDoor.E
