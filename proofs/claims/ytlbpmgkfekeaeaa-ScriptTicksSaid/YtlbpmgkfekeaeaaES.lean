/-
  Slices by their elements.
-/
import Derived.Test.YtlbpmgkfekeaeaaE11
namespace Go.Proofs.Ytlbpmgkfekeaeaa.E
open Go
set_option linter.unusedVariables false
set_option linter.unusedSimpArgs false

/-- Closes 'Sub h h2' where h2 has blocks more. -/

theorem flat_len {l : List (List AV)} {esz : Nat} (h : ∀ x ∈ l, x.length = esz) : l.flatten.length = l.length * esz := by
  induction l with
  | nil => simp
  | cons x l ih =>
    rw [List.flatten_cons, List.length_append, h x (by simp), ih fun y hy => h y (by simp [hy]), List.length_cons, Nat.succ_mul]; omega

theorem flat_take {l : List (List AV)} {esz : Nat} (h : ∀ x ∈ l, x.length = esz) (k : Nat) : (l.take k).flatten = l.flatten.take (k * esz) := by
  induction l generalizing k with
  | nil => simp
  | cons x l ih =>
    cases k with
    | zero => simp
    | succ k =>
      have hx := h x (by simp)
      rw [List.take_succ_cons, List.flatten_cons, List.flatten_cons, ih (fun y hy => h y (by simp [hy])) k, Nat.succ_mul, List.take_append, hx,
        List.take_of_length_le (l := x) (by omega), Nat.add_sub_cancel]

theorem flat_drop {l : List (List AV)} {esz : Nat} (h : ∀ x ∈ l, x.length = esz) (k : Nat) : (l.drop k).flatten = l.flatten.drop (k * esz) := by
  induction l generalizing k with
  | nil => simp
  | cons x l ih =>
    cases k with
    | zero => simp
    | succ k =>
      have hx := h x (by simp)
      rw [List.drop_succ_cons, List.flatten_cons, ih (fun y hy => h y (by simp [hy])) k, Nat.succ_mul, List.drop_append, hx,
        List.drop_eq_nil_of_le (as := x) (by omega), Nat.add_sub_cancel, List.nil_append]

theorem flat_at {l : List (List AV)} {esz : Nat} (h : ∀ x ∈ l, x.length = esz) {i : Nat} (hi : i < l.length) : (l.flatten.drop (i * esz)).take esz = l[i] := by
  rw [← flat_drop h, List.drop_eq_getElem_cons hi, List.flatten_cons, List.take_append_of_le_length (by rw [h _ (List.getElem_mem hi)]; omega), List.take_of_length_le (by rw [h _ (List.getElem_mem hi)]; omega)]

/-- Where an element lies. -/
def elemA (esz : Nat) : AV → Nat → AV
  | .sl id off _ _, i => .ptr id (off + i * esz)
  | .ro cs _ _, i => .rp (cs.drop (i * esz))
  | _, _ => .undef

def Cells (h : AHeap) (id off : Nat) (l : List AV) : Prop := ∃ cs tot, h id = some (.cells cs tot) ∧ off + l.length ≤ cs.length ∧ (cs.drop off).take l.length = l

theorem Cells.sub {h h' : AHeap} (s : Sub h h') {id off : Nat} {l : List AV} (c : Cells h id off l) : Cells h' id off l := by
  obtain ⟨cs, tot, h1, h2⟩ := c; exact ⟨cs, tot, s _ _ h1, h2⟩

theorem Cells.part {h : AHeap} {id off : Nat} {l : List AV} (c : Cells h id off l) {i n : Nat} (hi : i + n ≤ l.length) : Cells h id (off + i) ((l.drop i).take n) := by
  obtain ⟨cs, tot, h1, h2, h3⟩ := c
  have hl : ((l.drop i).take n).length = n := by simp; omega
  refine ⟨cs, tot, h1, by rw [hl]; omega, ?_⟩
  rw [hl, ← h3, List.drop_take, List.drop_drop, List.take_take]
  congr 1; omega

theorem Cells.loads {h : AHeap} {id off n : Nat} {l : List AV} (c : Cells h id off l) (hn : l.length = n) : aloads h n (.ptr id off) = some l := by
  obtain ⟨cs, tot, h1, h2, h3⟩ := c
  subst hn
  simp only [aloads, h1]
  rw [if_pos (by omega), h3]

theorem Cells.load {h : AHeap} {id off : Nat} {x : AV} {l : List AV} (c : Cells h id off (x :: l)) : aload h (.ptr id off) = some x := by
  obtain ⟨cs, tot, h1, h2, h3⟩ := c
  simp only [aload, h1]
  have : cs[off]? = (cs.drop off)[0]? := by simp
  rw [this]
  have h4 : (cs.drop off)[0]? = ((cs.drop off).take (x :: l).length)[0]? := by simp
  rw [h4, h3]; rfl

/-- A slice of the elements l, each of esz cells. -/
structure Sl (h : AHeap) (esz : Nat) (v : AV) (l : List (List AV)) : Prop where
  each : ∀ x ∈ l, x.length = esz
  how : (v = .nils ∧ l = []) ∨ (∃ id off cap, v = .sl id off l.length cap ∧ l.length ≤ cap ∧ Cells h id off l.flatten) ∨ (∃ ex, v = .ro l.flatten l.length ex)

section
variable {h h' : AHeap} {esz : Nat} {v : AV} {l : List (List AV)}

theorem Sl.sub (c : Sl h esz v l) (s : Sub h h') : Sl h' esz v l :=
  ⟨c.each, c.how.imp id (Or.imp (fun ⟨id, off, cap, h1, h2, h3⟩ => ⟨id, off, cap, h1, h2, h3.sub s⟩) id)⟩

theorem Sl.nil : Sl h esz .nils [] := ⟨by simp, .inl ⟨rfl, rfl⟩⟩

theorem Sl.lit1 {id cap tot : Nat} {x : List AV} (hid : h id = some (.cells x tot)) (hx : x.length = esz) (hc : 1 ≤ cap) : Sl h esz (.sl id 0 1 cap) [x] :=
  ⟨by simpa using hx, .inr (.inl ⟨id, 0, cap, rfl, hc, x, tot, hid, by simp, by simp⟩)⟩

theorem Sl.len (c : Sl h esz v l) : lenA false v = some (.int .i64 (l.length : Int)) := by
  rcases c.how with ⟨rfl, rfl⟩ | ⟨id, off, cap, rfl, _⟩ | ⟨ex, rfl⟩ <;> rfl

theorem Sl.slen (c : Sl h esz v l) : slen v = l.length := by
  rcases c.how with ⟨rfl, rfl⟩ | ⟨id, off, cap, rfl, _⟩ | ⟨ex, rfl⟩ <;> rfl

theorem Sl.loads (c : Sl h esz v l) {i : Nat} (hi : i < l.length) : aloads h esz (elemA esz v i) = some l[i] := by
  rcases c.how with ⟨rfl, rfl⟩ | ⟨id, off, cap, rfl, _, hc⟩ | ⟨ex, rfl⟩
  · simp at hi
  · have h1 : i * esz + esz ≤ l.flatten.length := by
      rw [flat_len c.each, ← Nat.succ_mul]; exact Nat.mul_le_mul_right _ hi
    have := hc.part (i := i * esz) (n := esz) h1
    rw [flat_at c.each hi] at this
    exact this.loads (c.each _ (List.getElem_mem hi))
  · have h1 : i * esz + esz ≤ l.flatten.length := by
      rw [flat_len c.each, ← Nat.succ_mul]; exact Nat.mul_le_mul_right _ hi
    simp only [elemA, aloads]
    rw [if_pos (by rw [List.length_drop]; omega), flat_at c.each hi]

theorem Sl.load (c : Sl h esz v l) {i : Nat} (hi : i < l.length) {x : AV} {r : List AV} (hx : l[i] = x :: r) : aload h (elemA esz v i) = some x := by
  rcases c.how with ⟨rfl, rfl⟩ | ⟨id, off, cap, rfl, _, hc⟩ | ⟨ex, rfl⟩
  · simp at hi
  · have h1 : i * esz + esz ≤ l.flatten.length := by
      rw [flat_len c.each, ← Nat.succ_mul]; exact Nat.mul_le_mul_right _ hi
    have := hc.part (i := i * esz) (n := esz) h1
    rw [flat_at c.each hi, hx] at this
    exact this.load
  · have h1 := flat_at c.each hi
    have e := c.each _ (List.getElem_mem hi)
    rw [hx] at h1 e
    simp only [elemA, aload]
    cases hd : l.flatten.drop (i * esz) with
    | nil => rw [hd] at h1; simp at h1
    | cons y ys =>
      rw [hd] at h1
      cases esz with
      | zero => simp at e
      | succ n => simp at h1; simp [h1.1]

theorem Sl.idx {K : AV → AHeap → Prop} (c : Sl h esz v l) (k : IntKind) (n : Int) : idxK esz v (.int k n) K h' = ((0 ≤ n ∧ n < (l.length : Int)) ∧ K (elemA esz v n.toNat) h') := by
  rcases c.how with ⟨rfl, rfl⟩ | ⟨id, off, cap, rfl, _⟩ | ⟨ex, rfl⟩
  · simp [idxK]; omega
  · simp [idxK, elemA]
  · simp [idxK, elemA]

/-- The first k. -/
theorem Sl.take (c : Sl h esz v l) {k : Nat} (hk : k ≤ l.length) : ∃ v', sliceA esz v none (some (.int .i64 (k : Int))) none = some v' ∧ Sl h esz v' (l.take k) := by
  have hkl : (l.take k).length = k := by simp; omega
  have he : ∀ x ∈ l.take k, x.length = esz := fun x hx => c.each x (List.mem_of_mem_take hx)
  rcases c.how with ⟨rfl, rfl⟩ | ⟨id, off, cap, rfl, hcap, hc⟩ | ⟨ex, rfl⟩
  · obtain rfl : k = 0 := by simpa using hk
    exact ⟨.nils, by simp [sliceA, bnd], by simpa using Sl.nil⟩
  · refine ⟨.sl id off k cap, ?_, he, .inr (.inl ⟨id, off, cap, by rw [hkl], by omega, ?_⟩)⟩
    · have h1 : (0 : Int) ≤ k ∧ (k : Int) ≤ (cap : Int) := by omega
      simp [sliceA, bnd, h1.2]
    · rw [flat_take c.each]
      have h1 : k * esz ≤ l.flatten.length := by rw [flat_len c.each]; exact Nat.mul_le_mul_right _ hk
      simpa using hc.part (i := 0) (n := k * esz) (by omega)
  · refine ⟨.ro ((l.take k).flatten) k (ex && k == l.length), ?_, he, .inr (.inr ⟨_, by rw [hkl]⟩)⟩
    have h1 : (0 : Int) ≤ k ∧ (k : Int) ≤ (l.length : Int) := by omega
    simp [sliceA, bnd, hk, flat_take c.each]

/-- All but the first k. -/
theorem Sl.drop (c : Sl h esz v l) {k : Nat} (hk : k ≤ l.length) : ∃ v', sliceA esz v (some (.int .i64 (k : Int))) none none = some v' ∧ Sl h esz v' (l.drop k) := by
  have hkl : (l.drop k).length = l.length - k := by simp
  have he : ∀ x ∈ l.drop k, x.length = esz := fun x hx => c.each x (List.mem_of_mem_drop hx)
  rcases c.how with ⟨rfl, rfl⟩ | ⟨id, off, cap, rfl, hcap, hc⟩ | ⟨ex, rfl⟩
  · obtain rfl : k = 0 := by simpa using hk
    exact ⟨.nils, by simp [sliceA, bnd], by simpa using Sl.nil⟩
  · refine ⟨.sl id (if cap = k then off else off + k * esz) (l.length - k) (cap - k), ?_, he, .inr (.inl ⟨id, _, _, by rw [hkl], by omega, ?_⟩)⟩
    · have h1 : (0 : Int) ≤ k ∧ (k : Int) ≤ (l.length : Int) := by omega
      simp [sliceA, bnd, hk]
    · by_cases hck : cap = k
      · have : l.drop k = [] := List.drop_eq_nil_of_le (by omega)
        rw [this]
        obtain ⟨cs, tot, g1, g2, g3⟩ := hc
        rw [if_pos hck]
        exact ⟨cs, tot, g1, by simp; omega, by simp⟩
      · rw [if_neg hck, flat_drop c.each]
        have h1 : k * esz ≤ l.flatten.length := by rw [flat_len c.each]; exact Nat.mul_le_mul_right _ hk
        have := hc.part (i := k * esz) (n := l.flatten.length - k * esz) (by omega)
        rwa [List.take_of_length_le (by simp)] at this
  · refine ⟨.ro ((l.drop k).flatten) (l.length - k) ex, ?_, he, .inr (.inr ⟨_, by rw [hkl]⟩)⟩
    have h1 : (0 : Int) ≤ k ∧ (k : Int) ≤ (l.length : Int) := by omega
    have h2 : (l.flatten.drop (k * esz)).take ((l.length - k) * esz) = l.flatten.drop (k * esz) := by
      rw [List.take_of_length_le]; rw [List.length_drop, flat_len c.each, Nat.sub_mul]; omega
    simp [sliceA, bnd, hk, flat_drop c.each, h2]

theorem Sl.cells (c : Sl h esz v l) : acells h esz v = some l.flatten := by
  rcases c.how with ⟨rfl, rfl⟩ | ⟨id, off, cap, rfl, _, cs, tot, h1, h2, h3⟩ | ⟨ex, rfl⟩
  · rfl
  · rw [flat_len c.each] at h2 h3
    simp only [acells, h1]
    rw [if_pos h2, h3]
  · simp only [acells]
    rw [if_pos (flat_len c.each)]

end

/-! ### A slice that one builds oneself -/

/-- A slice of a block that h0 does not hold, from its beginning. -/
structure Own (h0 h : AHeap) (esz : Nat) (v : AV) (l : List (List AV)) : Prop where
  each : ∀ x ∈ l, x.length = esz ∧ x.all scalar = true
  sub : Sub h0 h
  how : (v = .nils ∧ l = []) ∨ (∃ id cap, v = .sl id 0 l.length cap ∧ l.length ≤ cap ∧ h id = some (.cells l.flatten (cap * esz)) ∧ h0 id = none)

section
variable {h0 h : AHeap} {esz : Nat} {v : AV} {l : List (List AV)}

theorem Own.sl (c : Own h0 h esz v l) : Sl h esz v l :=
  ⟨fun x hx => (c.each x hx).1, c.how.imp id fun ⟨id, cap, h1, h2, h3, h4⟩ => .inl ⟨id, 0, cap, h1, h2, _, _, h3, by omega, by rw [List.drop_zero, List.take_length]⟩⟩

theorem Own.nil (s : Sub h0 h) : Own h0 h esz .nils [] := ⟨by simp, s, .inl ⟨rfl, rfl⟩⟩

theorem Own.more {h' : AHeap} (c : Own h0 h esz v l) (s : Sub h h') : Own h0 h' esz v l :=
  ⟨c.each, c.sub.trans s, c.how.imp id fun ⟨id, cap, h1, h2, h3, h4⟩ => ⟨id, cap, h1, h2, s _ _ h3, h4⟩⟩

theorem flat_scalar (h : ∀ x ∈ l, x.length = esz ∧ x.all scalar = true) : l.flatten.all scalar = true := by
  rw [List.all_flatten, List.all_eq_true]; exact fun x hx => (h x hx).2

/-- 'v = append(v, y...)' where v is one's own. -/
theorem Own.append {b : Nat} {y : AV} {ly : List (List AV)} {K : AV → AHeap → Prop} (c : Own h0 h esz v l) (cy : Sl h esz y ly) (hs : ∀ x ∈ ly, x.all scalar = true) (hb : (l.length + ly.length) * b ≤ 70368744177664)
    (k : ∀ v' h', Own h0 h' esz v' (l ++ ly) → (∀ i o, h i = some o → h0 i ≠ none → h' i = some o) → K v' h') : appendA h esz b v y K := by
  have hfl : (l ++ ly).flatten = l.flatten ++ ly.flatten := by simp
  have heach : ∀ x ∈ l ++ ly, x.length = esz ∧ x.all scalar = true := fun x hx => by
    rcases List.mem_append.1 hx with hx | hx
    · exact c.each x hx
    · exact ⟨cy.each x hx, hs x hx⟩
  refine ⟨_, _, c.sl.cells, cy.cells, by rw [c.sl.slen, cy.slen]; exact hb, fun e => ?_, fun e => ?_⟩
  · rw [cy.slen] at e
    obtain rfl : ly = [] := List.length_eq_zero_iff.1 e
    refine k v h ?_ (fun i o hi _ => hi)
    simpa using c
  · rw [cy.slen] at e ⊢
    have grow : ∀ (n : Nat), n = l.length + ly.length → ∀ (id cap : Nat), h id = none → n ≤ cap → K (.sl id 0 n cap) (upd h id (.cells (l.flatten ++ ly.flatten) (cap * esz))) := by
      rintro n rfl id cap hid hcap
      have h0id := Sub.isNone c.sub hid
      refine k _ _ ⟨heach, c.sub.fresh hid, .inr ⟨id, cap, by simp, by simpa using hcap, by rw [hfl]; exact upd_same, h0id⟩⟩ fun i o hi _ => ?_
      rw [upd_ne (by rintro rfl; rw [hid] at hi; cases hi)]; exact hi
    rcases c.how with ⟨rfl, rfl⟩ | ⟨id, cap, rfl, h1, h2, h3⟩
    · intro id cap hid hcap
      have := grow ly.length (by simp) id cap hid hcap
      simpa using this
    · refine ⟨_, _, h2, by omega, fun hle => ⟨flat_scalar fun x hx => ⟨cy.each x hx, hs x hx⟩, ?_⟩, fun hlt => grow _ rfl⟩
      have hsp : splice l.flatten (0 + l.length * esz) ly.flatten = l.flatten ++ ly.flatten := by
        rw [Nat.zero_add, ← flat_len fun x hx => (c.each x hx).1]
        unfold splice
        rw [List.take_length, List.drop_eq_nil_of_le (by omega), List.append_nil]
      rw [hsp]
      refine k _ _ ⟨heach, c.sub.upd h3, .inr ⟨id, cap, by simp, by simpa using hle, by rw [hfl]; exact upd_same, h3⟩⟩ fun i o hi hi0 => ?_
      rw [upd_ne (by rintro rfl; exact hi0 h3)]; exact hi

/-- 'append([]T{}, y...)' and the like: an empty slice of one's own. -/
theorem Own.empty {id : Nat} (s : Sub h0 h) (hid : h id = some (.cells [] 0)) (h0id : h0 id = none) : Own h0 h esz (.sl id 0 0 0) [] :=
  ⟨by simp, s, .inr ⟨id, 0, rfl, Nat.le_refl _, by simpa using hid, h0id⟩⟩

/-- A block that was there before one's own is written to. -/
theorem Own.poke {hA h1 : AHeap} {id : Nat} {ob : AObj} (c : Own hA h1 esz v l) (s : Sub h0 hA) (hid : hA id ≠ none) (h0id : h0 id = none) : Own h0 (upd h1 id ob) esz v l :=
  ⟨c.each, (s.trans c.sub).upd h0id, c.how.imp _root_.id fun ⟨i, cap, e1, e2, e3, e4⟩ => ⟨i, cap, e1, e2, by rw [upd_ne (by rintro rfl; exact hid e4)]; exact e3, s.isNone e4⟩⟩

/-- What was before one's own block may be forgotten: seen from a smaller heap. -/
theorem Own.from {h1 : AHeap} (c : Own h1 h esz v l) (s : Sub h0 h1) : Own h0 h esz v l :=
  ⟨c.each, s.trans c.sub, c.how.imp id fun ⟨i, cap, e1, e2, e3, e4⟩ => ⟨i, cap, e1, e2, e3, s.isNone e4⟩⟩

end

/-! Elements of one cell. -/
def i1 (n : Int) : List AV := [.int .i64 n]
def b1 (n : Int) : List AV := [.int .u8 n]

section
variable {h h' : AHeap} {v : AV} {ns : List Int}
theorem Sl.loadI (c : Sl h 1 v (ns.map i1)) {i : Nat} (hi : i < ns.length) : aload h (elemA 1 v i) = some (.int .i64 ns[i]) :=
  c.load (i := i) (by simpa using hi) (r := []) (by rw [List.getElem_map]; rfl)
theorem Sl.loadB (c : Sl h 1 v (ns.map b1)) {i : Nat} (hi : i < ns.length) : aload h (elemA 1 v i) = some (.int .u8 ns[i]) :=
  c.load (i := i) (by simpa using hi) (r := []) (by rw [List.getElem_map]; rfl)
theorem Sl.lenI (c : Sl h 1 v (ns.map i1)) : lenA false v = some (.int .i64 (ns.length : Int)) := by rw [c.len, List.length_map]
theorem Sl.lenB (c : Sl h 1 v (ns.map b1)) : lenA false v = some (.int .i64 (ns.length : Int)) := by rw [c.len, List.length_map]
theorem flatI (ns : List Int) : (ns.map i1).flatten = ns.map (AV.int .i64) := by induction ns with
  | nil => rfl
  | cons n ns ih => simp only [List.map_cons, List.flatten_cons, ih]; rfl
theorem flatB (ns : List Int) : (ns.map b1).flatten = ns.map (AV.int .u8) := by induction ns with
  | nil => rfl
  | cons n ns ih => simp only [List.map_cons, List.flatten_cons, ih]; rfl
theorem Sl.litI {id cap tot : Nat} (hid : h id = some (.cells (ns.map (AV.int .i64)) tot)) (hc : ns.length ≤ cap) : Sl h 1 (.sl id 0 ns.length cap) (ns.map i1) :=
  ⟨by intro x hx; obtain ⟨n, _, rfl⟩ := List.mem_map.1 hx; rfl, .inr (.inl ⟨id, 0, cap, by rw [List.length_map], by simpa using hc, _, _, hid, by rw [flatI]; omega, by rw [flatI, List.drop_zero, List.take_length]⟩)⟩
theorem Sl.litB {id cap tot : Nat} (hid : h id = some (.cells (ns.map (AV.int .u8)) tot)) (hc : ns.length ≤ cap) : Sl h 1 (.sl id 0 ns.length cap) (ns.map b1) :=
  ⟨by intro x hx; obtain ⟨n, _, rfl⟩ := List.mem_map.1 hx; rfl, .inr (.inl ⟨id, 0, cap, by rw [List.length_map], by simpa using hc, _, _, hid, by rw [flatB]; omega, by rw [flatB, List.drop_zero, List.take_length]⟩)⟩
theorem scB (ns : List Int) : ∀ x ∈ ns.map b1, x.all scalar = true := by intro x hx; obtain ⟨n, _, rfl⟩ := List.mem_map.1 hx; rfl
theorem scI (ns : List Int) : ∀ x ∈ ns.map i1, x.all scalar = true := by intro x hx; obtain ⟨n, _, rfl⟩ := List.mem_map.1 hx; rfl
end
end Go.Proofs.Ytlbpmgkfekeaeaa.E
