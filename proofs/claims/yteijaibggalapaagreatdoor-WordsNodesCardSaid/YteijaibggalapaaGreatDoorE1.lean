/-
  The abstract values and heaps of this claim's walks, and what it means that a world reads so.
-/
import Derived.Control
import Derived.Calls
import Derived.WalkKit
namespace Go.Proofs.YteijaibggalapaaGreatDoor.E
open Go
set_option linter.unusedVariables false
set_option linter.unusedSectionVars false

/-- An abstract value: a value whose memory that nobody writes to any more ('ro', 'rp') is told inline; a 'ro' of no elements may be nil, 'rz' is a slice of none that is not nil. -/
inductive AV where
  | int (k : IntKind) (n : Int)
  | bool (b : Bool)
  | str (s : ByteArray)
  | ptr (id off : Nat)
  | nilp
  | gp (g off : Nat)
  | rp (cs : List AV)
  | sl (id off len cap : Nat)
  | nils
  | ro (cs : List AV) (len : Nat) (ex : Bool)
  | rz
  | fn (f : FuncId) (cap : List AV)
  | bd (f : FuncId) (first : List AV)
  | nilf
  | yld (l : Nat)
  | map (id : Nat)
  | nilm
  | iface (t : TypeId) (v : AV)
  | nili
  | agg (cs : List AV)
  | tup (vs : List AV)
  | undef
  deriving Inhabited

mutual
/-- The value reads as the abstract value; memory that came in lies in W0. -/
def VR (W0 : World) : AV → Value → Prop
  | .int k n, v => v = .int k n
  | .bool b, v => v = .bool b
  | .str s, v => v = .string s
  | .ptr id off, v => v = .pointer (some ⟨id, off, none⟩)
  | .nilp, v => v = .pointer none
  | .gp g off, v => v = .pointer (some ⟨g, off, none⟩)
  | .rp cs, v => ∃ (p : Addr) (l : List Value), v = .pointer (some p) ∧ (∀ i : Nat, i < l.length → W0.cell? (p.add i) = l[i]?) ∧ VRs W0 cs l
  | .sl id off len cap, v => v = .slice (some ⟨id, off, none⟩) len cap ∧ len ≤ cap
  | .nils, v => v = .slice none 0 0
  | .ro cs len ex, v => (∃ (p : Addr) (cap : Nat) (l : List Value), v = .slice (some p) len cap ∧ len ≤ cap ∧ (ex = true → cap = len) ∧
      (∀ i : Nat, i < l.length → W0.cell? (p.add i) = l[i]?) ∧ VRs W0 cs l) ∨ (len = 0 ∧ cs = [] ∧ v = .slice none 0 0)
  | .rz, v => ∃ (p : Addr) (cap : Nat), v = .slice (some p) 0 cap
  | .fn f cap, v => ∃ l : List Value, v = .func (.func f) #[] l.toArray ∧ VRs W0 cap l
  | .bd f first, v => ∃ l : List Value, v = .func (.func f) l.toArray #[] ∧ VRs W0 first l
  | .nilf, v => v = .nilFunc
  | .yld l, v => v = .func (.yield l) #[] #[]
  | .map id, v => v = .map (some id)
  | .nilm, v => v = .map none
  | .iface t x, v => ∃ u, v = .iface t u ∧ VR W0 x u
  | .nili, v => v = .nilIface
  | .agg cs, v => ∃ l : List Value, v = .agg l.toArray ∧ VRs W0 cs l
  | .tup cs, v => ∃ l : List Value, v = .tuple l.toArray ∧ VRs W0 cs l
  | .undef, _ => True
def VRs (W0 : World) : List AV → List Value → Prop
  | [], l => l = []
  | x :: xs, l => ∃ v l', l = v :: l' ∧ VR W0 x v ∧ VRs W0 xs l'
end

/-- An abstract block: the first cells of a block of 'tot' cells, none frozen; or a map's entries. -/
inductive AObj where
  | cells (cs : List AV) (tot : Nat)
  | map (es : List (AV × AV × Nat)) (clock : Nat)
  | raw (o : Obj)
  | lp (s : List AV) (mk : Array Value → Obj)

/-- A map's entries stand in the order of their birth, and all were born ahead of now. -/
def BornOk (es : List (AV × AV × Nat)) (c : Nat) : Prop := (es.map (·.2.2)).Pairwise (· < ·) ∧ ∀ e ∈ es, e.2.2 < c

def bru64 : List Int := [0, 1, 56, 2, 57, 49, 28, 3, 61, 58, 42, 50, 38, 29, 17, 4, 62, 47, 59, 36, 45, 43, 51, 22, 53, 39, 33, 30, 24, 18, 12, 5, 63, 55, 48, 27, 60, 41, 37, 16, 46, 35, 44, 21, 52, 32, 23, 11, 54, 26, 40, 15, 34, 20, 31, 10, 25, 14, 19, 9, 13, 8, 7, 6]
def pow10 : List Int := [1, 10, 100, 1000, 10000, 100000, 1000000, 10000000, 100000000, 1000000000, 10000000000, 100000000000, 1000000000000, 10000000000000, 100000000000000, 1000000000000000, 10000000000000000, 100000000000000000, 1000000000000000000, 10000000000000000000]
/-- What the package variables hold, as far as it is told: internal/strconv.uint64pow10; math/bits.deBruijn64tab. -/
def globs : Nat → Option (List AV)
  | 1 => some (pow10.map (.int .u64))
  | 3 => some (bru64.map (.int .u8))
  | _ => none
/-- internal/bytealg.MaxLen holds some number. -/
def gAny : Nat → Option IntKind
  | 0 => some .i64
  | _ => none
/-- Package variables whose size is told. -/
def gFix : Nat → Option Nat
  | 1 => some 20
  | _ => none
/-- Nothing is kept of the count of draws. -/
abbrev dr (_ : World) : Nat := 0
theorem dr_le {w w2 : World} (_ : w.drawn ≤ w2.drawn) : dr w ≤ dr w2 := Nat.le_refl 0


abbrev AHeap := Nat → Option AObj

def upd (h : AHeap) (x : Nat) (o : AObj) : AHeap := fun y => if y = x then some o else h y
def del (h : AHeap) (x : Nat) : AHeap := fun y => if y = x then none else h y
def emp : AHeap := fun _ => none

def EntsR (W0 : World) : List (AV × AV × Nat) → List MapEntry → Prop
  | [], l => l = []
  | (k, v, n) :: xs, l => ∃ e l', l = e :: l' ∧ VR W0 k e.key ∧ VR W0 v e.val ∧ e.born = n ∧ EntsR W0 xs l'

def OR (W0 : World) : AObj → Obj → Prop
  | .cells cs tot, o => ∃ (l r : List Value) (t : TypeId), o = .cells (l ++ r).toArray t (0, 0) ∧ l.length + r.length = tot ∧ VRs W0 cs l
  | .map es clock, o => ∃ l : List MapEntry, o = .map l.toArray clock ∧ EntsR W0 es l ∧ BornOk es clock
  | .raw q, o => o = q
  | .lp s mk, o => ∃ l : List Value, o = mk l.toArray ∧ VRs W0 s l

/-- The package variables that are told hold what is told; each number that is named holds some number. -/
structure GlobsOk (W0 : World) : Prop where
  tab : ∀ g cs, globs g = some cs → ∃ l, VRs W0 cs l ∧ ∀ i : Nat, i < l.length → W0.cell? ⟨g, i, none⟩ = l[i]?
  any : ∀ g k, gAny g = some k → ∃ n, W0.cell? ⟨g, 0, none⟩ = some (.int k n)



/-- Package variables whose size is told: nobody holds their block. -/
def FixOk (h : AHeap) (w : World) : Prop := ∀ g n, gFix g = some n → h g = none ∧ ∃ (c : Array Value) (t : TypeId) (fr : Nat × Nat), w.heap[g]? = some (.cells c t fr) ∧ c.size = n

theorem FixOk.sub {h h' : AHeap} {w : World} (f : FixOk h w) (hs : ∀ x o, h' x = some o → h x = some o) : FixOk h' w := fun g n e => by
  obtain ⟨a, b⟩ := f g n e
  refine ⟨?_, b⟩
  cases e2 : h' g with
  | none => rfl
  | some o => rw [hs g o e2] at a; cases a
theorem FixOk.kept {h h' : AHeap} {w w' : World} (f : FixOk h w) (k : ∀ b, b < w.heap.size → h b = none → w'.heap[b]? = w.heap[b]? ∧ h' b = none) : FixOk h' w' := fun g n e => by
  obtain ⟨a, c, t, fr, b1, b2⟩ := f g n e
  obtain ⟨k1, k2⟩ := k g (Array.getElem?_eq_some_iff.1 b1).1 a
  exact ⟨k2, c, t, fr, by rw [k1]; exact b1, b2⟩

/-- The world reads as the heap h; W0 holds the cells that nobody writes to any more. -/
structure Rel (W0 : World) (h : AHeap) (w : World) : Prop where
  base : ∀ p v, W0.cell? p = some v → w.cell? p = some v
  live : ∀ x o, h x = some o → (∀ p : Addr, p.block = x → W0.cell? p = none) ∧ ∃ obj, w.heap[x]? = some obj ∧ OR W0 o obj
  glob : GlobsOk W0
  fix : FixOk h w

/-- What a step may do to memory: blocks that h does not hold stay; what h' holds besides is new; what is laid still was h's, or is new. -/
structure Fr (W0 : World) (h : AHeap) (w : World) (W1 : World) (h' : AHeap) (w' : World) : Prop where
  os : w'.os = w.os
  tape : w'.tape = w.tape
  output : w'.output = w.output
  drawn : dr w ≤ dr w'
  size : w.heap.size ≤ w'.heap.size
  kept : ∀ b, b < w.heap.size → h b = none → w'.heap[b]? = w.heap[b]? ∧ h' b = none
  new : ∀ b, b < w.heap.size → h' b ≠ none → h b ≠ none
  le : ∀ p v, W0.cell? p = some v → W1.cell? p = some v
  gr : ∀ p v, W1.cell? p = some v → W0.cell? p = some v ∨ h p.block ≠ none ∨ w.heap.size ≤ p.block

theorem Fr.refl (W0 : World) (h : AHeap) (w : World) : Fr W0 h w W0 h w := ⟨rfl, rfl, rfl, Nat.le_refl _, Nat.le_refl _, fun _ _ hb => ⟨rfl, hb⟩, fun _ _ h => h, fun _ _ e => e, fun _ _ e => .inl e⟩

theorem Fr.trans {h h1 h2 : AHeap} {W0 W1 W2 w w1 w2 : World} (a : Fr W0 h w W1 h1 w1) (b : Fr W1 h1 w1 W2 h2 w2) : Fr W0 h w W2 h2 w2 where
  os := b.os.trans a.os
  tape := b.tape.trans a.tape
  output := b.output.trans a.output
  drawn := Nat.le_trans a.drawn b.drawn
  size := Nat.le_trans a.size b.size
  kept x hx hn := by
    obtain ⟨e1, n1⟩ := a.kept x hx hn
    obtain ⟨e2, n2⟩ := b.kept x (Nat.lt_of_lt_of_le hx a.size) n1
    exact ⟨e2.trans e1, n2⟩
  new x hx h2 := a.new x hx (b.new x (Nat.lt_of_lt_of_le hx a.size) h2)
  le p v e := b.le p v (a.le p v e)
  gr p v e := by
    rcases b.gr p v e with e | e | e
    · exact a.gr p v e
    · rcases Nat.lt_or_ge p.block w.heap.size with hlt | hge
      · exact .inr (.inl (a.new _ hlt e))
      · exact .inr (.inr hge)
    · exact .inr (.inr (Nat.le_trans a.size e))

theorem Rel.lt {W0 : World} {h : AHeap} {w : World} (r : Rel W0 h w) {x : Nat} {o : AObj} (hx : h x = some o) : x < w.heap.size := by
  obtain ⟨_, obj, ho, _⟩ := r.live x o hx
  rcases Nat.lt_or_ge x w.heap.size with h' | h'
  · exact h'
  · simp [Array.getElem?_eq_none h'] at ho

theorem addr_add_add (p : Addr) (i j : Nat) : (p.add i).add j = p.add (i + j) := by
  unfold Addr.add
  by_cases h1 : i = 0 <;> by_cases h2 : j = 0 <;> simp_all [Nat.add_assoc]

theorem Rel.cell {W0 : World} {h : AHeap} {w : World} (r : Rel W0 h w) {p : Addr} {v : Value} (hc : W0.cell? p = some v) : w.cell? p = some v := r.base p v hc

theorem cell_lt {w : World} {p : Addr} {v : Value} (hc : w.cell? p = some v) : p.block < w.heap.size := World.block_lt_of_cell? _ _ hc

theorem Rel.none_of_ge {W0 : World} {h : AHeap} {w : World} (r : Rel W0 h w) {x : Nat} (hx : w.heap.size ≤ x) : h x = none := by
  cases e : h x with
  | none => rfl
  | some o => exact absurd (r.lt e) (by omega)

theorem BornOk.nil (c : Nat) : BornOk [] c := ⟨by simp, by simp⟩
theorem BornOk.push {es : List (AV × AV × Nat)} {c : Nat} (h : BornOk es c) (k v : AV) : BornOk (es ++ [(k, v, c)]) (c + 1) := by
  refine ⟨?_, fun e he => ?_⟩
  · rw [List.map_append, List.pairwise_append]
    refine ⟨h.1, by simp, fun a ha b hb => ?_⟩
    simp at hb; subst hb
    obtain ⟨e, he, rfl⟩ := List.mem_map.1 ha
    exact h.2 e he
  · rcases List.mem_append.1 he with he | he
    · have := h.2 e he; omega
    · simp at he; subst he; simp
theorem BornOk.erase {es : List (AV × AV × Nat)} {c : Nat} (h : BornOk es c) (j : Nat) : BornOk (es.eraseIdx j) c :=
  ⟨h.1.sublist (List.Sublist.map _ (List.eraseIdx_sublist es j)), fun e he => h.2 e (List.mem_of_mem_eraseIdx he)⟩
theorem BornOk.modify {es : List (AV × AV × Nat)} {c : Nat} (h : BornOk es c) (j : Nat) (k v : AV) : BornOk (es.modify j fun e => (k, v, e.2.2)) c := by
  have e1 : (es.modify j fun e => (k, v, e.2.2)).map (·.2.2) = es.map (·.2.2) := by
    apply List.ext_getElem (by simp)
    intro i hi hi'
    simp only [List.getElem_map, List.getElem_modify]
    split <;> rfl
  refine ⟨by rw [e1]; exact h.1, fun e he => ?_⟩
  have : e.2.2 ∈ es.map (·.2.2) := by rw [← e1]; exact List.mem_map_of_mem he
  obtain ⟨q, hq, e2⟩ := List.mem_map.1 this
  rw [← e2]; exact h.2 q hq

/-- A part of the heap may be forgotten. -/
theorem Rel.sub {W0 : World} {h h' : AHeap} {w : World} (r : Rel W0 h w) (hs : ∀ x o, h' x = some o → h x = some o) : Rel W0 h' w :=
  ⟨r.base, fun x o hx => r.live x o (hs x o hx), r.glob, r.fix.sub hs⟩

theorem VRs_length {W0 : World} : ∀ {xs : List AV} {l : List Value}, VRs W0 xs l → l.length = xs.length
  | [], l, h => by simp [VRs] at h; simp [h]
  | x :: xs, l, h => by
    simp only [VRs] at h
    obtain ⟨v, l', rfl, _, h2⟩ := h
    simp [VRs_length h2]

theorem VRs_get {W0 : World} : ∀ {xs : List AV} {l : List Value}, VRs W0 xs l → ∀ (i : Nat) (x : AV), xs[i]? = some x → ∃ v, l[i]? = some v ∧ VR W0 x v
  | [], l, h, i, x, hx => by simp at hx
  | y :: xs, l, h, i, x, hx => by
    simp only [VRs] at h
    obtain ⟨v, l', rfl, h1, h2⟩ := h
    cases i with
    | zero => simp at hx; subst hx; exact ⟨v, by simp, h1⟩
    | succ i => simp at hx; obtain ⟨u, hu, hr⟩ := VRs_get h2 i x hx; exact ⟨u, by simpa using hu, hr⟩

theorem VRs_cons {W0 : World} {x : AV} {xs : List AV} {v : Value} {l : List Value} (h1 : VR W0 x v) (h2 : VRs W0 xs l) : VRs W0 (x :: xs) (v :: l) := by
  simp only [VRs]; exact ⟨v, l, rfl, h1, h2⟩

theorem VRs_nil {W0 : World} : VRs W0 [] [] := by simp [VRs]

theorem VRs_cons_inv {W0 : World} {x : AV} {xs : List AV} {v : Value} {l : List Value} (h : VRs W0 (x :: xs) (v :: l)) : VR W0 x v ∧ VRs W0 xs l := by
  simp only [VRs] at h
  obtain ⟨_, _, e, h1, h2⟩ := h
  cases e; exact ⟨h1, h2⟩

theorem VRs_append {W0 : World} : ∀ {xs ys : List AV} {l m : List Value}, VRs W0 xs l → VRs W0 ys m → VRs W0 (xs ++ ys) (l ++ m)
  | [], ys, l, m, h, h' => by simp [VRs] at h; subst h; simpa using h'
  | x :: xs, ys, l, m, h, h' => by
    simp only [VRs] at h
    obtain ⟨v, l', rfl, h1, h2⟩ := h
    exact VRs_cons h1 (VRs_append h2 h')

theorem VRs_split {W0 : World} : ∀ {xs ys : List AV} {l : List Value}, VRs W0 (xs ++ ys) l → ∃ a b, l = a ++ b ∧ VRs W0 xs a ∧ VRs W0 ys b
  | [], ys, l, h => ⟨[], l, rfl, VRs_nil, h⟩
  | x :: xs, ys, l, h => by
    simp only [List.cons_append, VRs] at h
    obtain ⟨v, l', rfl, h1, h2⟩ := h
    obtain ⟨a, b, rfl, ha, hb⟩ := VRs_split h2
    exact ⟨v :: a, b, rfl, VRs_cons h1 ha, hb⟩

theorem VRs_take {W0 : World} {xs : List AV} {l : List Value} (h : VRs W0 xs l) (n : Nat) : VRs W0 (xs.take n) (l.take n) := by
  have hl := VRs_length h
  by_cases hn : n ≤ xs.length
  · have h' := h
    rw [← List.take_append_drop n xs] at h'
    obtain ⟨a, b, rfl, ha, hb⟩ := VRs_split h'
    have la := VRs_length ha
    rw [List.length_take, Nat.min_eq_left hn] at la
    have e : (a ++ b).take n = a := by rw [List.take_append_of_le_length (by omega), List.take_of_length_le (by omega)]
    rw [e]; exact ha
  · rw [List.take_of_length_le (by omega), List.take_of_length_le (by omega)]; exact h

theorem VRs_drop {W0 : World} {xs : List AV} {l : List Value} (h : VRs W0 xs l) (n : Nat) : VRs W0 (xs.drop n) (l.drop n) := by
  have hl := VRs_length h
  by_cases hn : n ≤ xs.length
  · have h' := h
    rw [← List.take_append_drop n xs] at h'
    obtain ⟨a, b, rfl, ha, hb⟩ := VRs_split h'
    have la := VRs_length ha
    rw [List.length_take, Nat.min_eq_left hn] at la
    have e : (a ++ b).drop n = b := by rw [List.drop_append_of_le_length (by omega), List.drop_of_length_le (by omega)]; rfl
    rw [e]; exact hb
  · rw [List.drop_of_length_le (by omega), List.drop_of_length_le (by omega)]; exact VRs_nil

theorem VRs_set {W0 : World} : ∀ {xs : List AV} {l : List Value}, VRs W0 xs l → ∀ (i : Nat) {x : AV} {v : Value}, VR W0 x v → VRs W0 (xs.set i x) (l.set i v)
  | [], l, h, i, x, v, hv => by simp [VRs] at h; subst h; exact VRs_nil
  | y :: xs, l, h, i, x, v, hv => by
    simp only [VRs] at h
    obtain ⟨u, l', rfl, h1, h2⟩ := h
    cases i with
    | zero => exact VRs_cons hv h2
    | succ i => exact VRs_cons h1 (VRs_set h2 i hv)

theorem VRs_replicate_undef {W0 : World} : ∀ (n : Nat) (l : List Value), l.length = n → VRs W0 (List.replicate n .undef) l
  | 0, l, h => by simp at h; subst h; exact VRs_nil
  | n + 1, [], h => by simp at h
  | n + 1, v :: l, h => by simp at h; exact VRs_cons trivial (VRs_replicate_undef n l h)

/-! ### More cells that stand still -/

section
variable {W0 W1 : World} (le : ∀ p v, W0.cell? p = some v → W1.cell? p = some v)
include le

theorem cells_le {p : Addr} {l : List Value} (h : ∀ i : Nat, i < l.length → W0.cell? (p.add i) = l[i]?) : ∀ i : Nat, i < l.length → W1.cell? (p.add i) = l[i]? := by
  intro i hi
  have e := h i hi
  rw [List.getElem?_eq_getElem hi] at e ⊢
  exact le _ _ e

mutual
theorem VR_le : ∀ (x : AV) (v : Value), VR W0 x v → VR W1 x v
  | .int k n, v, h => by simpa only [VR] using h
  | .bool b, v, h => by simpa only [VR] using h
  | .str s, v, h => by simpa only [VR] using h
  | .ptr a b, v, h => by simpa only [VR] using h
  | .nilp, v, h => by simpa only [VR] using h
  | .gp a b, v, h => by simpa only [VR] using h
  | .rp cs, v, h => by
    simp only [VR] at h ⊢
    obtain ⟨p, l, e, hc, hl⟩ := h
    exact ⟨p, l, e, cells_le le hc, VRs_le cs l hl⟩
  | .sl a b c d, v, h => by simpa only [VR] using h
  | .nils, v, h => by simpa only [VR] using h
  | .ro cs n ex, v, h => by
    simp only [VR] at h ⊢
    rcases h with ⟨p, cap, l, e, h1, h2, hc, hl⟩ | h
    · exact .inl ⟨p, cap, l, e, h1, h2, cells_le le hc, VRs_le cs l hl⟩
    · exact .inr h
  | .rz, v, h => by simpa only [VR] using h
  | .bd f cs, v, h => by
    simp only [VR] at h ⊢
    obtain ⟨l, e, hl⟩ := h
    exact ⟨l, e, VRs_le cs l hl⟩
  | .fn f cs, v, h => by
    simp only [VR] at h ⊢
    obtain ⟨l, e, hl⟩ := h
    exact ⟨l, e, VRs_le cs l hl⟩
  | .nilf, v, h => by simpa only [VR] using h
  | .yld l, v, h => by simpa only [VR] using h
  | .map a, v, h => by simpa only [VR] using h
  | .nilm, v, h => by simpa only [VR] using h
  | .iface t x, v, h => by
    simp only [VR] at h ⊢
    obtain ⟨u, e, hu⟩ := h
    exact ⟨u, e, VR_le x u hu⟩
  | .nili, v, h => by simpa only [VR] using h
  | .agg cs, v, h => by
    simp only [VR] at h ⊢
    obtain ⟨l, e, hl⟩ := h
    exact ⟨l, e, VRs_le cs l hl⟩
  | .tup cs, v, h => by
    simp only [VR] at h ⊢
    obtain ⟨l, e, hl⟩ := h
    exact ⟨l, e, VRs_le cs l hl⟩
  | .undef, v, h => by simp only [VR]
theorem VRs_le : ∀ (xs : List AV) (l : List Value), VRs W0 xs l → VRs W1 xs l
  | [], l, h => by simpa only [VRs] using h
  | x :: xs, l, h => by
    simp only [VRs] at h ⊢
    obtain ⟨v, l', e, h1, h2⟩ := h
    exact ⟨v, l', e, VR_le x v h1, VRs_le xs l' h2⟩
end

theorem EntsR_le : ∀ (es : List (AV × AV × Nat)) (l : List MapEntry), EntsR W0 es l → EntsR W1 es l
  | [], l, h => h
  | (k, v, n) :: es, l, h => by
    simp only [EntsR] at h ⊢
    obtain ⟨e, l', e1, h1, h2, h3, h4⟩ := h
    exact ⟨e, l', e1, VR_le le _ _ h1, VR_le le _ _ h2, h3, EntsR_le es l' h4⟩

theorem OR_le (o : AObj) (obj : Obj) (h : OR W0 o obj) : OR W1 o obj := by
  cases o with
  | cells cs tot =>
    simp only [OR] at h ⊢
    obtain ⟨l, r, t, e, ht, hl⟩ := h
    exact ⟨l, r, t, e, ht, VRs_le le _ _ hl⟩
  | map es c =>
    simp only [OR] at h ⊢
    obtain ⟨l, e, hl, hb⟩ := h
    exact ⟨l, e, EntsR_le le _ _ hl, hb⟩
  | raw q => simp only [OR] at h ⊢; exact h
  | lp s mk =>
    simp only [OR] at h ⊢
    obtain ⟨l, e, hl⟩ := h
    exact ⟨l, e, VRs_le le _ _ hl⟩

end

theorem GlobsOk.le {W0 W1 : World} (g : GlobsOk W0) (le : ∀ p v, W0.cell? p = some v → W1.cell? p = some v) : GlobsOk W1 where
  tab x cs e := by
    obtain ⟨l, h1, h2⟩ := g.tab x cs e
    refine ⟨l, VRs_le le _ _ h1, fun i hi => ?_⟩
    have e := h2 i hi
    rw [List.getElem?_eq_getElem hi] at e ⊢
    exact le _ _ e
  any x k e := by
    obtain ⟨n, h⟩ := g.any x k e
    exact ⟨n, le _ _ h⟩

/-- The cells of W0, and those of w's blocks that h holds and h' doesn't. -/
def still (W0 : World) (h : AHeap) (w : World) (h' : AHeap) : World :=
  { w with heap := w.heap.mapIdx fun b o => if (h b).isSome && (h' b).isNone then o else (W0.heap[b]?).getD (.cells #[] 0 (0, 0)) }

theorem still_cell {W0 : World} {h : AHeap} {w : World} {h' : AHeap} (p : Addr) : (still W0 h w h').cell? p = if p.block < w.heap.size then (if (h p.block).isSome && (h' p.block).isNone then w.cell? p else W0.cell? p) else none := by
  have e0 : (still W0 h w h').heap[p.block]? = (w.heap[p.block]?).map fun o => if (h p.block).isSome && (h' p.block).isNone then o else (W0.heap[p.block]?).getD (.cells #[] 0 (0, 0)) := by
    simp only [still, Array.getElem?_mapIdx]
  by_cases hlt : p.block < w.heap.size
  · obtain ⟨o, ho⟩ : ∃ o, w.heap[p.block]? = some o := ⟨_, Array.getElem?_eq_getElem hlt⟩
    rw [if_pos hlt]
    rw [ho, Option.map_some] at e0
    by_cases hc : ((h p.block).isSome && (h' p.block).isNone) = true
    · rw [if_pos hc] at e0 ⊢
      simp only [World.cell?, e0, ho]
    · rw [if_neg hc] at e0 ⊢
      simp only [World.cell?, e0]
      cases W0.heap[p.block]? with
      | none => simp
      | some o2 => rfl
  · have : w.heap[p.block]? = none := Array.getElem?_eq_none (by omega)
    rw [this, Option.map_none] at e0
    rw [if_neg hlt]
    simp only [World.cell?, e0]

/-- A part of a heap. -/
def Sub (h h' : AHeap) : Prop := ∀ x o, h x = some o → h' x = some o
theorem Sub.refl (h : AHeap) : Sub h h := fun _ _ e => e

mutual
/-- What a value of heap h is seen as when h' alone is held on: blocks that h' doesn't hold stand still. -/
inductive Fz (h h' : AHeap) : AV → AV → Prop
  | refl (x : AV) : Fz h h' x x
  | undef (x : AV) : Fz h h' x .undef
  | sl {id off len cap tot : Nat} {cs cs' : List AV} {ex : Bool} (n : Nat) : h id = some (.cells cs tot) → h' id = none → off + n ≤ cs.length → FzL h h' ((cs.drop off).take n) cs' → (ex = true → cap = len) → Fz h h' (.sl id off len cap) (.ro cs' len ex)
  | ptr {id off tot : Nat} {cs cs' : List AV} (n : Nat) : h id = some (.cells cs tot) → h' id = none → off + n ≤ cs.length → FzL h h' ((cs.drop off).take n) cs' → Fz h h' (.ptr id off) (.rp cs')
  | nils {ex : Bool} : Fz h h' .nils (.ro [] 0 ex)
  | ro {len : Nat} {cs cs' : List AV} {ex ex' : Bool} : FzL h h' cs cs' → (ex' = true → ex = true) → Fz h h' (.ro cs len ex) (.ro cs' len ex')
  | rp {cs cs' : List AV} : FzL h h' cs cs' → Fz h h' (.rp cs) (.rp cs')
  | agg {cs cs' : List AV} : FzL h h' cs cs' → Fz h h' (.agg cs) (.agg cs')
  | tup {cs cs' : List AV} : FzL h h' cs cs' → Fz h h' (.tup cs) (.tup cs')
  | fn {f : FuncId} {cs cs' : List AV} : FzL h h' cs cs' → Fz h h' (.fn f cs) (.fn f cs')
inductive FzL (h h' : AHeap) : List AV → List AV → Prop
  | nil : FzL h h' [] []
  | cons {x y : AV} {xs ys : List AV} : Fz h h' x y → FzL h h' xs ys → FzL h h' (x :: xs) (y :: ys)
end

theorem FzL.refl (h h' : AHeap) : ∀ l : List AV, FzL h h' l l
  | [] => .nil
  | x :: l => .cons (.refl x) (FzL.refl h h' l)

inductive FzO (h h' : AHeap) : AObj → AObj → Prop
  | refl (o : AObj) : FzO h h' o o
  | cells {cs cs' : List AV} {tot : Nat} : FzL h h' cs cs' → FzO h h' (.cells cs tot) (.cells cs' tot)
  | pad {cs : List AV} {tot : Nat} (n : Nat) : cs.length + n ≤ tot → FzO h h' (.cells cs tot) (.cells (cs ++ List.replicate n .undef) tot)

/-- The heap h' is what is held on of h. -/
def FzH (h h' : AHeap) : Prop := ∀ x o', h' x = some o' → ∃ o, h x = some o ∧ FzO h h' o o'

theorem FzH.refl (h : AHeap) : FzH h h := fun x o e => ⟨o, e, .refl o⟩
theorem FzH.sub {h h' : AHeap} (s : Sub h' h) : FzH h h' := fun x o e => ⟨o, s x o e, .refl o⟩

section
variable {W0 : World} {h h' : AHeap} {w : World}

theorem still_le (r : Rel W0 h w) : ∀ p v, W0.cell? p = some v → (still W0 h w h').cell? p = some v := by
  intro p v e
  have e2 := r.base p v e
  rw [still_cell, if_pos (cell_lt e2)]
  split
  · exact e2
  · exact e

theorem still_at (r : Rel W0 h w) {x : Nat} {o : AObj} (hx : h x = some o) (hx' : h' x = none) (off : Nat) : (still W0 h w h').cell? ⟨x, off, none⟩ = w.cell? ⟨x, off, none⟩ := by
  rw [still_cell, if_pos (r.lt hx), if_pos (by simp [hx, hx'])]

theorem own_cells (r : Rel W0 h w) {id off n tot : Nat} {cs : List AV} (hid : h id = some (.cells cs tot)) (hid' : h' id = none) (hle : off + n ≤ cs.length) :
    ∃ l : List Value, VRs W0 ((cs.drop off).take n) l ∧ ∀ i : Nat, i < l.length → (still W0 h w h').cell? ((⟨id, off, none⟩ : Addr).add i) = l[i]? := by
  obtain ⟨_, obj, l2, l3⟩ := r.live id _ hid
  simp only [OR] at l3
  obtain ⟨l, q, t, rfl, ht, hl⟩ := l3
  have hll := VRs_length hl
  refine ⟨(l.drop off).take n, VRs_take (VRs_drop hl _) _, fun i hi => ?_⟩
  have add : (⟨id, off, none⟩ : Addr).add i = ⟨id, off + i, none⟩ := by unfold Addr.add; split <;> simp_all
  simp only [List.length_take, List.length_drop] at hi
  rw [add, still_at r hid hid']
  simp only [World.cell?, l2]
  have h1 : off + i < l.length := by omega
  simp [List.getElem?_append_left h1, (by omega : i < n)]

mutual
theorem Fz_sound (r : Rel W0 h w) : ∀ {x y : AV}, Fz h h' x y → ∀ v, VR W0 x v → VR (still W0 h w h') y v
  | _, _, .refl x, v, hv => VR_le (still_le r) x v hv
  | _, _, .undef x, v, hv => by simp only [VR]
  | _, _, .sl n h1 h2 h3 h4 h5, v, hv => by
    simp only [VR] at hv ⊢
    obtain ⟨rfl, hle⟩ := hv
    obtain ⟨l, hl, hc⟩ := own_cells r h1 h2 h3
    exact .inl ⟨_, _, l, rfl, hle, h5, hc, FzL_sound r h4 l hl⟩
  | _, _, .ptr n h1 h2 h3 h4, v, hv => by
    simp only [VR] at hv ⊢
    subst hv
    obtain ⟨l, hl, hc⟩ := own_cells r h1 h2 h3
    exact ⟨_, l, rfl, hc, FzL_sound r h4 l hl⟩
  | _, _, .nils, v, hv => by simp only [VR] at hv ⊢; exact .inr ⟨trivial, trivial, hv⟩
  | _, _, .ro h1 h2, v, hv => by
    simp only [VR] at hv ⊢
    rcases hv with ⟨p, cap, l, e, g1, g2, hc, hl⟩ | ⟨g1, g2, g3⟩
    · exact .inl ⟨p, cap, l, e, g1, fun e => g2 (h2 e), cells_le (still_le r) hc, FzL_sound r h1 l hl⟩
    · subst g2
      cases h1
      exact .inr ⟨g1, rfl, g3⟩
  | _, _, .rp h1, v, hv => by
    simp only [VR] at hv ⊢
    obtain ⟨p, l, e, hc, hl⟩ := hv
    exact ⟨p, l, e, cells_le (still_le r) hc, FzL_sound r h1 l hl⟩
  | _, _, .agg h1, v, hv => by
    simp only [VR] at hv ⊢
    obtain ⟨l, e, hl⟩ := hv
    exact ⟨l, e, FzL_sound r h1 l hl⟩
  | _, _, .tup h1, v, hv => by
    simp only [VR] at hv ⊢
    obtain ⟨l, e, hl⟩ := hv
    exact ⟨l, e, FzL_sound r h1 l hl⟩
  | _, _, .fn h1, v, hv => by
    simp only [VR] at hv ⊢
    obtain ⟨l, e, hl⟩ := hv
    exact ⟨l, e, FzL_sound r h1 l hl⟩
theorem FzL_sound (r : Rel W0 h w) : ∀ {xs ys : List AV}, FzL h h' xs ys → ∀ l, VRs W0 xs l → VRs (still W0 h w h') ys l
  | _, _, .nil, l, hl => by simpa only [VRs] using hl
  | _, _, .cons h1 h2, l, hl => by
    simp only [VRs] at hl ⊢
    obtain ⟨v, l', e, g1, g2⟩ := hl
    exact ⟨v, l', e, Fz_sound r h1 v g1, FzL_sound r h2 l' g2⟩
end

/-- Blocks of one's own that are laid still. -/
theorem Rel.still (r : Rel W0 h w) (hs : FzH h h') : Rel (still W0 h w h') h' w ∧ Fr W0 h w (E.still W0 h w h') h' w := by
  have le : ∀ p v, W0.cell? p = some v → (E.still W0 h w h').cell? p = some v := still_le r
  have back : ∀ p v, (E.still W0 h w h').cell? p = some v → w.cell? p = some v ∧ (W0.cell? p = some v ∨ ((h p.block).isSome = true ∧ h' p.block = none)) := by
    intro p v e
    rw [still_cell] at e
    split at e
    · split at e
      · rename_i hc
        simp only [Bool.and_eq_true, Option.isNone_iff_eq_none] at hc
        exact ⟨e, .inr hc⟩
      · exact ⟨r.base p v e, .inl e⟩
    · cases e
  refine ⟨⟨fun p v e => (back p v e).1, fun x o hx => ?_, r.glob.le le, r.fix.kept ?k⟩, ⟨rfl, rfl, rfl, Nat.le_refl _, Nat.le_refl _, ?k, fun b hb hn => ?_, le, fun p v e => ?_⟩⟩
  · obtain ⟨o0, e0, fo⟩ := hs x o hx
    obtain ⟨l1, obj, l2, l3⟩ := r.live x o0 e0
    refine ⟨fun p hp => ?_, obj, l2, ?_⟩
    · cases e : (E.still W0 h w h').cell? p with
      | none => rfl
      | some v =>
        rcases (back p v e).2 with e2 | ⟨_, e2⟩
        · rw [l1 p hp] at e2; cases e2
        · rw [hp, hx] at e2; cases e2
    · cases fo with
      | refl => exact OR_le le _ _ l3
      | cells hl =>
        simp only [OR] at l3 ⊢
        obtain ⟨l, q, t, e, ht, hl2⟩ := l3
        exact ⟨l, q, t, e, ht, FzL_sound r hl l hl2⟩
      | pad n hn =>
        simp only [OR] at l3 ⊢
        obtain ⟨l, q, t, e, ht, hl2⟩ := l3
        have hl := VRs_length hl2
        refine ⟨l ++ q.take n, q.drop n, t, by rw [List.append_assoc, List.take_append_drop]; exact e, by rw [List.length_append, List.length_take, List.length_drop]; omega, VRs_append (VRs_le le _ _ hl2) (VRs_replicate_undef n _ (by rw [List.length_take]; omega))⟩
  · intro b hb hn
    refine ⟨rfl, ?_⟩
    cases e : h' b with
    | none => rfl
    | some o => obtain ⟨o0, e0, _⟩ := hs b o e; rw [e0] at hn; cases hn
  · cases e : h' b with
    | none => exact absurd e hn
    | some o => obtain ⟨o0, e0, _⟩ := hs b o e; rw [e0]; simp
  · rcases (back p v e).2 with e2 | ⟨e2, _⟩
    · exact .inl e2
    · refine .inr (.inl fun e3 => ?_)
      rw [e3] at e2; cases e2

end

end Go.Proofs.YteijaibggalapaaGreatDoor.E
