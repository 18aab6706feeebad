/-
  The abstract values and heaps of this claim's walks, and what it means that a world reads so.
-/
import Derived.Control
import Derived.Calls
import Derived.WalkKit
namespace Go.Proofs.Ytlbpmgkfekeaeaa.E
open Go
set_option linter.unusedVariables false

/-- An abstract value: a value whose memory that came in ('ro', 'rp') is told inline. -/
inductive AV where
  | int (k : IntKind) (n : Int)
  | bool (b : Bool)
  | str (s : ByteArray)
  | ptr (id off : Nat)
  | nilp
  | rp (cs : List AV)
  | sl (id off len cap : Nat)
  | nils
  | ro (cs : List AV) (len : Nat) (ex : Bool)
  | fn (f : FuncId) (cap : List AV)
  | nilf
  | map (id : Nat)
  | nilm
  | iface (t : TypeId) (v : AV)
  | nili
  | agg (cs : List AV)
  | tup (vs : List AV)
  | undef
  deriving Inhabited

mutual
/-- The value reads as the abstract value; memory that came in lies in W0. -/
def VR (W0 : World) : AV → Value → Prop
  | .int k n, v => v = .int k n
  | .bool b, v => v = .bool b
  | .str s, v => v = .string s
  | .ptr id off, v => v = .pointer (some ⟨id, off, none⟩)
  | .nilp, v => v = .pointer none
  | .rp cs, v => ∃ (p : Addr) (l : List Value), v = .pointer (some p) ∧ (∀ i : Nat, i < l.length → W0.cell? (p.add i) = l[i]?) ∧ VRs W0 cs l
  | .sl id off len cap, v => v = .slice (some ⟨id, off, none⟩) len cap ∧ len ≤ cap
  | .nils, v => v = .slice none 0 0
  | .ro cs len ex, v => ∃ (p : Addr) (cap : Nat) (l : List Value), v = .slice (some p) len cap ∧ len ≤ cap ∧ (ex = true → cap = len) ∧
      (∀ i : Nat, i < l.length → W0.cell? (p.add i) = l[i]?) ∧ VRs W0 cs l
  | .fn f cap, v => ∃ l : List Value, v = .func (.func f) #[] l.toArray ∧ VRs W0 cap l
  | .nilf, v => v = .nilFunc
  | .map id, v => v = .map (some id)
  | .nilm, v => v = .map none
  | .iface t x, v => ∃ u, v = .iface t u ∧ VR W0 x u
  | .nili, v => v = .nilIface
  | .agg cs, v => ∃ l : List Value, v = .agg l.toArray ∧ VRs W0 cs l
  | .tup cs, v => ∃ l : List Value, v = .tuple l.toArray ∧ VRs W0 cs l
  | .undef, _ => True
def VRs (W0 : World) : List AV → List Value → Prop
  | [], l => l = []
  | x :: xs, l => ∃ v l', l = v :: l' ∧ VR W0 x v ∧ VRs W0 xs l'
end

/-- An abstract block: the first cells of a block of 'tot' cells, none frozen; or a map's entries. -/
inductive AObj where
  | cells (cs : List AV) (tot : Nat)
  | map (es : List (AV × AV × Nat)) (clock : Nat)

abbrev AHeap := Nat → Option AObj

def upd (h : AHeap) (x : Nat) (o : AObj) : AHeap := fun y => if y = x then some o else h y
def del (h : AHeap) (x : Nat) : AHeap := fun y => if y = x then none else h y
def emp : AHeap := fun _ => none

def EntsR (W0 : World) : List (AV × AV × Nat) → List MapEntry → Prop
  | [], l => l = []
  | (k, v, n) :: xs, l => ∃ e l', l = e :: l' ∧ VR W0 k e.key ∧ VR W0 v e.val ∧ e.born = n ∧ EntsR W0 xs l'

def OR (W0 : World) : AObj → Obj → Prop
  | .cells cs tot, o => ∃ (l r : List Value) (t : TypeId), o = .cells (l ++ r).toArray t (0, 0) ∧ l.length + r.length = tot ∧ VRs W0 cs l
  | .map es clock, o => ∃ l : List MapEntry, o = .map l.toArray clock ∧ EntsR W0 es l

structure Rel (W0 : World) (h : AHeap) (w : World) : Prop where
  size : W0.heap.size ≤ w.heap.size
  base : ∀ b, b < W0.heap.size → w.heap[b]? = W0.heap[b]?
  live : ∀ x o, h x = some o → W0.heap.size ≤ x ∧ ∃ obj, w.heap[x]? = some obj ∧ OR W0 o obj

/-- What a step may do to memory: blocks that h does not hold stay; what h' holds besides is new. -/
structure Fr (h : AHeap) (w : World) (h' : AHeap) (w' : World) : Prop where
  os : w'.os = w.os
  tape : w'.tape = w.tape
  output : w'.output = w.output
  size : w.heap.size ≤ w'.heap.size
  kept : ∀ b, b < w.heap.size → h b = none → w'.heap[b]? = w.heap[b]? ∧ h' b = none
  new : ∀ b, b < w.heap.size → h' b ≠ none → h b ≠ none

theorem Fr.refl (h : AHeap) (w : World) : Fr h w h w := ⟨rfl, rfl, rfl, Nat.le_refl _, fun _ _ hb => ⟨rfl, hb⟩, fun _ _ h => h⟩

theorem Fr.trans {h h1 h2 : AHeap} {w w1 w2 : World} (a : Fr h w h1 w1) (b : Fr h1 w1 h2 w2) : Fr h w h2 w2 where
  os := b.os.trans a.os
  tape := b.tape.trans a.tape
  output := b.output.trans a.output
  size := Nat.le_trans a.size b.size
  kept x hx hn := by
    obtain ⟨e1, n1⟩ := a.kept x hx hn
    obtain ⟨e2, n2⟩ := b.kept x (Nat.lt_of_lt_of_le hx a.size) n1
    exact ⟨e2.trans e1, n2⟩
  new x hx h2 := a.new x hx (b.new x (Nat.lt_of_lt_of_le hx a.size) h2)

theorem Rel.lt {W0 : World} {h : AHeap} {w : World} (r : Rel W0 h w) {x : Nat} {o : AObj} (hx : h x = some o) : x < w.heap.size := by
  obtain ⟨_, obj, ho, _⟩ := r.live x o hx
  rcases Nat.lt_or_ge x w.heap.size with h' | h'
  · exact h'
  · simp [Array.getElem?_eq_none h'] at ho

theorem addr_add_add (p : Addr) (i j : Nat) : (p.add i).add j = p.add (i + j) := by
  unfold Addr.add
  by_cases h1 : i = 0 <;> by_cases h2 : j = 0 <;> simp_all [Nat.add_assoc]

theorem Rel.cell {W0 : World} {h : AHeap} {w : World} (r : Rel W0 h w) {p : Addr} {v : Value} (hc : W0.cell? p = some v) : w.cell? p = some v := by
  rw [← hc]
  have hb := r.base p.block (World.block_lt_of_cell? _ _ hc)
  simp only [World.cell?, hb]

theorem Rel.none_of_ge {W0 : World} {h : AHeap} {w : World} (r : Rel W0 h w) {x : Nat} (hx : w.heap.size ≤ x) : h x = none := by
  cases e : h x with
  | none => rfl
  | some o => exact absurd (r.lt e) (by omega)

/-- A part of the heap may be forgotten. -/
theorem Rel.sub {W0 : World} {h h' : AHeap} {w : World} (r : Rel W0 h w) (hs : ∀ x o, h' x = some o → h x = some o) : Rel W0 h' w :=
  ⟨r.size, r.base, fun x o hx => r.live x o (hs x o hx)⟩

theorem VRs_length {W0 : World} : ∀ {xs : List AV} {l : List Value}, VRs W0 xs l → l.length = xs.length
  | [], l, h => by simp [VRs] at h; simp [h]
  | x :: xs, l, h => by
    simp only [VRs] at h
    obtain ⟨v, l', rfl, _, h2⟩ := h
    simp [VRs_length h2]

theorem VRs_get {W0 : World} : ∀ {xs : List AV} {l : List Value}, VRs W0 xs l → ∀ (i : Nat) (x : AV), xs[i]? = some x → ∃ v, l[i]? = some v ∧ VR W0 x v
  | [], l, h, i, x, hx => by simp at hx
  | y :: xs, l, h, i, x, hx => by
    simp only [VRs] at h
    obtain ⟨v, l', rfl, h1, h2⟩ := h
    cases i with
    | zero => simp at hx; subst hx; exact ⟨v, by simp, h1⟩
    | succ i => simp at hx; obtain ⟨u, hu, hr⟩ := VRs_get h2 i x hx; exact ⟨u, by simpa using hu, hr⟩

theorem VRs_cons {W0 : World} {x : AV} {xs : List AV} {v : Value} {l : List Value} (h1 : VR W0 x v) (h2 : VRs W0 xs l) : VRs W0 (x :: xs) (v :: l) := by
  simp only [VRs]; exact ⟨v, l, rfl, h1, h2⟩

theorem VRs_nil {W0 : World} : VRs W0 [] [] := by simp [VRs]

theorem VRs_cons_inv {W0 : World} {x : AV} {xs : List AV} {v : Value} {l : List Value} (h : VRs W0 (x :: xs) (v :: l)) : VR W0 x v ∧ VRs W0 xs l := by
  simp only [VRs] at h
  obtain ⟨_, _, e, h1, h2⟩ := h
  cases e; exact ⟨h1, h2⟩

theorem VRs_append {W0 : World} : ∀ {xs ys : List AV} {l m : List Value}, VRs W0 xs l → VRs W0 ys m → VRs W0 (xs ++ ys) (l ++ m)
  | [], ys, l, m, h, h' => by simp [VRs] at h; subst h; simpa using h'
  | x :: xs, ys, l, m, h, h' => by
    simp only [VRs] at h
    obtain ⟨v, l', rfl, h1, h2⟩ := h
    exact VRs_cons h1 (VRs_append h2 h')

theorem VRs_split {W0 : World} : ∀ {xs ys : List AV} {l : List Value}, VRs W0 (xs ++ ys) l → ∃ a b, l = a ++ b ∧ VRs W0 xs a ∧ VRs W0 ys b
  | [], ys, l, h => ⟨[], l, rfl, VRs_nil, h⟩
  | x :: xs, ys, l, h => by
    simp only [List.cons_append, VRs] at h
    obtain ⟨v, l', rfl, h1, h2⟩ := h
    obtain ⟨a, b, rfl, ha, hb⟩ := VRs_split h2
    exact ⟨v :: a, b, rfl, VRs_cons h1 ha, hb⟩

theorem VRs_take {W0 : World} {xs : List AV} {l : List Value} (h : VRs W0 xs l) (n : Nat) : VRs W0 (xs.take n) (l.take n) := by
  have hl := VRs_length h
  by_cases hn : n ≤ xs.length
  · have h' := h
    rw [← List.take_append_drop n xs] at h'
    obtain ⟨a, b, rfl, ha, hb⟩ := VRs_split h'
    have la := VRs_length ha
    rw [List.length_take, Nat.min_eq_left hn] at la
    have e : (a ++ b).take n = a := by rw [List.take_append_of_le_length (by omega), List.take_of_length_le (by omega)]
    rw [e]; exact ha
  · rw [List.take_of_length_le (by omega), List.take_of_length_le (by omega)]; exact h

theorem VRs_drop {W0 : World} {xs : List AV} {l : List Value} (h : VRs W0 xs l) (n : Nat) : VRs W0 (xs.drop n) (l.drop n) := by
  have hl := VRs_length h
  by_cases hn : n ≤ xs.length
  · have h' := h
    rw [← List.take_append_drop n xs] at h'
    obtain ⟨a, b, rfl, ha, hb⟩ := VRs_split h'
    have la := VRs_length ha
    rw [List.length_take, Nat.min_eq_left hn] at la
    have e : (a ++ b).drop n = b := by rw [List.drop_append_of_le_length (by omega), List.drop_of_length_le (by omega)]; rfl
    rw [e]; exact hb
  · rw [List.drop_of_length_le (by omega), List.drop_of_length_le (by omega)]; exact VRs_nil

theorem VRs_set {W0 : World} : ∀ {xs : List AV} {l : List Value}, VRs W0 xs l → ∀ (i : Nat) {x : AV} {v : Value}, VR W0 x v → VRs W0 (xs.set i x) (l.set i v)
  | [], l, h, i, x, v, hv => by simp [VRs] at h; subst h; exact VRs_nil
  | y :: xs, l, h, i, x, v, hv => by
    simp only [VRs] at h
    obtain ⟨u, l', rfl, h1, h2⟩ := h
    cases i with
    | zero => exact VRs_cons hv h2
    | succ i => exact VRs_cons h1 (VRs_set h2 i hv)

theorem VRs_replicate_undef {W0 : World} : ∀ (n : Nat) (l : List Value), l.length = n → VRs W0 (List.replicate n .undef) l
  | 0, l, h => by simp at h; subst h; exact VRs_nil
  | n + 1, [], h => by simp at h
  | n + 1, v :: l, h => by simp at h; exact VRs_cons trivial (VRs_replicate_undef n l h)

end Go.Proofs.Ytlbpmgkfekeaeaa.E
