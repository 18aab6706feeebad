/-
  A heap of the evaluator's own, and what it means that the abstract heap reads so, its blocks' numbers apart.
-/
import Derived.Test.YteijaibggalapaaGreatDoorEQ
namespace Go.Proofs.YteijaibggalapaaGreatDoor.E
open Go
set_option linter.unusedVariables false
set_option linter.unusedSimpArgs false

/-- Where a block of the evaluator's lies: its number, the place of its first cell, an element's cells, the block's size, and how many places a slice has besides those that are told. -/
structure Blk where
  id : Nat
  sh : Nat
  esz : Nat
  tot : Nat
  ex : Nat
  mp : Bool

def leafA : AV → Bool
  | .int .. | .bool _ | .str _ | .nilp | .gp .. | .nils | .rz | .nilf | .nilm | .nili | .undef => true
  | _ => false

mutual
/-- The evaluator's value stands for the abstract value. A block k is named 2k+1, and 2k where a slice may have more places than are told. -/
inductive Ren (E : List Blk) : AV → AV → Prop
  | leaf {x : AV} : leafA x = true → Ren E x x
  | ptr {i o : Nat} {b : Blk} : E[i / 2]? = some b → Ren E (.ptr i o) (.ptr b.id (o + b.sh))
  | sl {i o n c c' : Nat} {b : Blk} : E[i / 2]? = some b → b.mp = false → (i % 2 = 1 → c' = c) → (i % 2 = 0 → c' = c + b.ex ∧ o + b.sh + c' * b.esz ≤ b.tot) → Ren E (.sl i o n c) (.sl b.id (o + b.sh) n c')
  | map {i : Nat} {b : Blk} : E[i / 2]? = some b → Ren E (.map i) (.map b.id)
  | rp {cs cs' : List AV} : Rens E cs cs' → Ren E (.rp cs) (.rp cs')
  | ro {cs cs' : List AV} {n : Nat} {ex : Bool} : Rens E cs cs' → Ren E (.ro cs n ex) (.ro cs' n ex)
  | fn {f : FuncId} {cs cs' : List AV} : Rens E cs cs' → Ren E (.fn f cs) (.fn f cs')
  | bd {f : FuncId} {cs cs' : List AV} : Rens E cs cs' → Ren E (.bd f cs) (.bd f cs')
  | iface {t : TypeId} {x y : AV} : Ren E x y → Ren E (.iface t x) (.iface t y)
  | agg {cs cs' : List AV} : Rens E cs cs' → Ren E (.agg cs) (.agg cs')
  | tup {cs cs' : List AV} : Rens E cs cs' → Ren E (.tup cs) (.tup cs')
inductive Rens (E : List Blk) : List AV → List AV → Prop
  | nil : Rens E [] []
  | cons {x y : AV} {xs ys : List AV} : Ren E x y → Rens E xs ys → Rens E (x :: xs) (y :: ys)
end

mutual
def idF : AV → Bool
  | .ptr .. | .sl .. | .map _ | .yld _ => false
  | .rp cs | .ro cs _ _ | .fn _ cs | .bd _ cs | .agg cs | .tup cs => idFs cs
  | .iface _ x => idF x
  | _ => true
def idFs : List AV → Bool
  | [] => true
  | x :: l => idF x && idFs l
end

mutual
theorem idF_ren {E : List Blk} : ∀ (x : AV), idF x = true → Ren E x x
  | .int _ _, _ | .bool _, _ | .str _, _ | .nilp, _ | .gp _ _, _ | .nils, _ | .rz, _ | .nilf, _ | .nilm, _ | .nili, _ | .undef, _ => .leaf rfl
  | .rp cs, h => .rp (idFs_ren cs (by simpa only [idF] using h))
  | .ro cs n e, h => .ro (idFs_ren cs (by simpa only [idF] using h))
  | .fn f cs, h => .fn (idFs_ren cs (by simpa only [idF] using h))
  | .bd f cs, h => .bd (idFs_ren cs (by simpa only [idF] using h))
  | .agg cs, h => .agg (idFs_ren cs (by simpa only [idF] using h))
  | .tup cs, h => .tup (idFs_ren cs (by simpa only [idF] using h))
  | .iface t x, h => .iface (idF_ren x (by simpa only [idF] using h))
  | .ptr _ _, h | .sl _ _ _ _, h | .map _, h | .yld _, h => by simp [idF] at h
theorem idFs_ren {E : List Blk} : ∀ (l : List AV), idFs l = true → Rens E l l
  | [], _ => .nil
  | x :: l, h => by
    simp only [idFs, Bool.and_eq_true] at h
    exact .cons (idF_ren x h.1) (idFs_ren l h.2)
end

mutual
theorem Ren.mono {E T : List Blk} : ∀ {x y : AV}, Ren E x y → Ren (E ++ T) x y
  | _, _, .leaf h => .leaf h
  | _, _, .ptr h => .ptr (by rw [List.getElem?_append_left (List.getElem?_eq_some_iff.1 h).1]; exact h)
  | _, _, .sl h p a b => .sl (by rw [List.getElem?_append_left (List.getElem?_eq_some_iff.1 h).1]; exact h) p a b
  | _, _, .map h => .map (by rw [List.getElem?_append_left (List.getElem?_eq_some_iff.1 h).1]; exact h)
  | _, _, .rp h => .rp h.mono
  | _, _, .ro h => .ro h.mono
  | _, _, .fn h => .fn h.mono
  | _, _, .bd h => .bd h.mono
  | _, _, .iface h => .iface h.mono
  | _, _, .agg h => .agg h.mono
  | _, _, .tup h => .tup h.mono
theorem Rens.mono {E T : List Blk} : ∀ {x y : List AV}, Rens E x y → Rens (E ++ T) x y
  | _, _, .nil => .nil
  | _, _, .cons a b => .cons a.mono b.mono
end

mutual
/-- A value stands for one alone. -/
theorem Ren.uniq {E : List Blk} : ∀ {x y z : AV}, Ren E x y → Ren E x z → y = z
  | _, _, _, .leaf h, q => by cases q <;> first | rfl | cases h
  | _, _, _, .ptr h, q => by
    cases q with
    | leaf h2 => cases h2
    | ptr h2 => rw [h] at h2; cases h2; rfl
  | _, _, _, .sl (i := i) h _ a b, q => by
    cases q with
    | leaf h2 => cases h2
    | sl h2 _ a2 b2 =>
      rw [h] at h2; cases h2
      rcases Nat.mod_two_eq_zero_or_one i with e | e
      · rw [(b e).1, (b2 e).1]
      · rw [a e, a2 e]
  | _, _, _, .map h, q => by
    cases q with
    | leaf h2 => cases h2
    | map h2 => rw [h] at h2; cases h2; rfl
  | _, _, _, .rp h, q => by
    cases q with
    | leaf h2 => cases h2
    | rp h2 => rw [h.uniq h2]
  | _, _, _, .ro h, q => by
    cases q with
    | leaf h2 => cases h2
    | ro h2 => rw [h.uniq h2]
  | _, _, _, .fn h, q => by
    cases q with
    | leaf h2 => cases h2
    | fn h2 => rw [h.uniq h2]
  | _, _, _, .bd h, q => by
    cases q with
    | leaf h2 => cases h2
    | bd h2 => rw [h.uniq h2]
  | _, _, _, .iface h, q => by
    cases q with
    | leaf h2 => cases h2
    | iface h2 => rw [h.uniq h2]
  | _, _, _, .agg h, q => by
    cases q with
    | leaf h2 => cases h2
    | agg h2 => rw [h.uniq h2]
  | _, _, _, .tup h, q => by
    cases q with
    | leaf h2 => cases h2
    | tup h2 => rw [h.uniq h2]
theorem Rens.uniq {E : List Blk} : ∀ {x y z : List AV}, Rens E x y → Rens E x z → y = z
  | _, _, _, .nil, .nil => rfl
  | _, _, _, .cons a b, .cons c d => by rw [a.uniq c, b.uniq d]
end

theorem Ren.leaf_eq {E : List Blk} {x y : AV} (h : leafA x = true) (r : Ren E x y) : y = x := by cases r <;> first | rfl | cases h

section
variable {E : List Blk}
theorem Rens.length : ∀ {x y : List AV}, Rens E x y → y.length = x.length
  | _, _, .nil => rfl
  | _, _, .cons _ b => by simp [b.length]
theorem Rens.append : ∀ {x y u v : List AV}, Rens E x y → Rens E u v → Rens E (x ++ u) (y ++ v)
  | _, _, _, _, .nil, q => q
  | _, _, _, _, .cons a b, q => .cons a (b.append q)
theorem Rens.take : ∀ {x y : List AV} (n : Nat), Rens E x y → Rens E (x.take n) (y.take n)
  | _, _, 0, _ => by simp; exact .nil
  | _, _, _ + 1, .nil => by simp; exact .nil
  | _, _, n + 1, .cons a b => by simp only [List.take_succ_cons]; exact .cons a (b.take n)
theorem Rens.drop : ∀ {x y : List AV} (n : Nat), Rens E x y → Rens E (x.drop n) (y.drop n)
  | _, _, 0, h => h
  | _, _, _ + 1, .nil => by simp; exact .nil
  | _, _, n + 1, .cons a b => by simp only [List.drop_succ_cons]; exact b.drop n
theorem Rens.get : ∀ {x y : List AV} (n : Nat) {v : AV}, Rens E x y → x[n]? = some v → ∃ u, y[n]? = some u ∧ Ren E v u
  | _, _, _, _, .nil, e => by simp at e
  | _, _, 0, _, .cons a b, e => by simp at e; subst e; exact ⟨_, rfl, a⟩
  | _, _, n + 1, _, .cons a b, e => by simp at e ⊢; exact b.get n e
theorem Rens.getD {x y : List AV} (n : Nat) (h : Rens E x y) : Ren E (x.getD n .undef) (y.getD n .undef) := by
  rw [List.getD_eq_getElem?_getD, List.getD_eq_getElem?_getD]
  cases e : x[n]? with
  | none =>
    have : y[n]? = none := by rw [List.getElem?_eq_none_iff] at e ⊢; rw [h.length]; exact e
    rw [this]; exact .leaf rfl
  | some v =>
    obtain ⟨u, hu, r⟩ := h.get n e
    rw [hu]; exact r
theorem Rens.set : ∀ {x y : List AV} (n : Nat) {u v : AV}, Rens E x y → Ren E u v → Rens E (x.set n u) (y.set n v)
  | _, _, _, _, _, .nil, _ => .nil
  | _, _, 0, _, _, .cons a b, r => .cons r b
  | _, _, n + 1, _, _, .cons a b, r => .cons a (b.set n r)
theorem Rens.spl {x y l m : List AV} (n : Nat) (h : Rens E x y) (r : Rens E l m) : Rens E (splice x n l) (splice y n m) := by
  unfold splice; rw [r.length]
  exact ((h.take n).append r).append (h.drop _)
theorem Rens.puts {x y : List AV} (d : Option Nat) {u v : AV} (h : Rens E x y) (r : Ren E u v) : Rens E (put x d u) (put y d v) := by
  cases d with
  | none => exact h
  | some n => exact h.set n r
theorem Rens.undefs : ∀ n : Nat, Rens E (List.replicate n .undef) (List.replicate n .undef)
  | 0 => .nil
  | n + 1 => .cons (.leaf rfl) (Rens.undefs n)
theorem Ren.scalar {x y : AV} (r : Ren E x y) : scalar y = scalar x := by cases r <;> rfl
theorem Rens.scalars : ∀ {x y : List AV}, Rens E x y → y.all scalar = x.all scalar
  | _, _, .nil => rfl
  | _, _, .cons a b => by simp [a.scalar, b.scalars]
theorem Ren.co {x y : AV} {l : List AV} (r : Ren E x y) (h : cellsOf x = some l) : ∃ m, cellsOf y = some m ∧ Rens E l m := by
  cases r with
  | leaf hl => cases x <;> simp [cellsOf] at h <;> first | (subst h; exact ⟨_, rfl, .cons (.leaf hl) .nil⟩) | cases hl
  | agg h2 => simp [cellsOf] at h; subst h; exact ⟨_, rfl, h2⟩
  | tup h2 => simp [cellsOf] at h
  | ptr a => simp [cellsOf] at h; subst h; exact ⟨_, rfl, .cons (.ptr a) .nil⟩
  | sl a p b c => simp [cellsOf] at h; subst h; exact ⟨_, rfl, .cons (.sl a p b c) .nil⟩
  | map a => simp [cellsOf] at h; subst h; exact ⟨_, rfl, .cons (.map a) .nil⟩
  | rp a => simp [cellsOf] at h; subst h; exact ⟨_, rfl, .cons (.rp a) .nil⟩
  | ro a => simp [cellsOf] at h; subst h; exact ⟨_, rfl, .cons (.ro a) .nil⟩
  | fn a => simp [cellsOf] at h; subst h; exact ⟨_, rfl, .cons (.fn a) .nil⟩
  | bd a => simp [cellsOf] at h; subst h; exact ⟨_, rfl, .cons (.bd a) .nil⟩
  | iface a => simp [cellsOf] at h; subst h; exact ⟨_, rfl, .cons (.iface a) .nil⟩
end

/-! ### The evaluator's heap -/

inductive LObj where
  | cells (cs : List AV) (esz : Nat)
  | map (es : Ents) (c : Nat)
  | dead

inductive Tr where
  | e
  | n (v : LObj) (l r : Tr)

def Tr.get : Tr → Nat → LObj
  | .e, _ => .dead
  | .n v l r, k => bif Nat.beq k 0 then v else bif Nat.beq (Nat.mod k 2) 1 then l.get (Nat.div k 2) else r.get (Nat.sub (Nat.div k 2) 1)

def Tr.set : Nat → Tr → Nat → LObj → Tr
  | 0, t, _, _ => t
  | f + 1, .e, k, v => bif Nat.beq k 0 then .n v .e .e else bif Nat.beq (Nat.mod k 2) 1 then .n .dead (Tr.set f .e (Nat.div k 2) v) .e else .n .dead .e (Tr.set f .e (Nat.sub (Nat.div k 2) 1) v)
  | f + 1, .n x l r, k, v => bif Nat.beq k 0 then .n v l r else bif Nat.beq (Nat.mod k 2) 1 then .n x (Tr.set f l (Nat.div k 2) v) r else .n x l (Tr.set f r (Nat.sub (Nat.div k 2) 1) v)

theorem Tr.get_e (k : Nat) : Tr.get .e k = .dead := rfl
theorem Tr.get_n (v : LObj) (l r : Tr) (k : Nat) : Tr.get (.n v l r) k = if k = 0 then v else if k % 2 = 1 then l.get (k / 2) else r.get (k / 2 - 1) := by
  simp only [Tr.get, Bool.cond_eq_ite]
  have e1 : (Nat.beq k 0 = true) ↔ k = 0 := Nat.beq_eq ▸ Iff.rfl
  have e2 : (Nat.beq (Nat.mod k 2) 1 = true) ↔ k % 2 = 1 := Nat.beq_eq ▸ Iff.rfl
  simp only [e1, e2]; rfl

theorem Tr.get_set : ∀ (f : Nat) (t : Tr) (k j : Nat) (v : LObj), k + 1 < 2 ^ f → (Tr.set f t k v).get j = if j = k then v else t.get j
  | 0, t, k, j, v, h => by simp at h
  | f + 1, t, k, j, v, h => by
    have h2 : k + 1 < 2 * 2 ^ f := by rw [Nat.pow_succ] at h; omega
    have e1 : (Nat.beq k 0 = true) ↔ k = 0 := Nat.beq_eq ▸ Iff.rfl
    have e2 : (Nat.beq (Nat.mod k 2) 1 = true) ↔ k % 2 = 1 := Nat.beq_eq ▸ Iff.rfl
    have d : Nat.div k 2 = k / 2 := rfl
    have sb : Nat.sub (k / 2) 1 = k / 2 - 1 := rfl
    cases t with
    | e =>
      simp only [Tr.set, Bool.cond_eq_ite, e1, e2, d, sb]
      by_cases hk : k = 0
      · rw [if_pos hk, Tr.get_n]; subst hk
        by_cases hj : j = 0 <;> simp [hj, Tr.get_e]
      · rw [if_neg hk]
        by_cases hm : k % 2 = 1
        · rw [if_pos hm, Tr.get_n, Tr.get_set f .e (k / 2) (j / 2) v (by omega)]; simp only [Tr.get_e]
          by_cases hj : j = 0
          · rw [if_pos hj, if_neg (by omega)]
          · rw [if_neg hj]
            by_cases hm2 : j % 2 = 1
            · rw [if_pos hm2]
              by_cases hjk : j = k
              · rw [if_pos (by omega), if_pos hjk]
              · rw [if_neg (by omega), if_neg hjk]
            · rw [if_neg hm2, if_neg (by omega)]
        · rw [if_neg hm, Tr.get_n, Tr.get_set f .e (k / 2 - 1) (j / 2 - 1) v (by omega)]; simp only [Tr.get_e]
          by_cases hj : j = 0
          · rw [if_pos hj, if_neg (by omega)]
          · rw [if_neg hj]
            by_cases hm2 : j % 2 = 1
            · rw [if_pos hm2, if_neg (by omega)]
            · rw [if_neg hm2]
              by_cases hjk : j = k
              · rw [if_pos (by omega), if_pos hjk]
              · rw [if_neg (by omega), if_neg hjk]
    | n x l r =>
      simp only [Tr.set, Bool.cond_eq_ite, e1, e2, d, sb]
      by_cases hk : k = 0
      · rw [if_pos hk, Tr.get_n, Tr.get_n]; subst hk
        by_cases hj : j = 0 <;> simp [hj]
      · rw [if_neg hk]
        by_cases hm : k % 2 = 1
        · rw [if_pos hm, Tr.get_n, Tr.get_n, Tr.get_set f l (k / 2) (j / 2) v (by omega)]
          by_cases hj : j = 0
          · rw [if_pos hj, if_pos hj, if_neg (by omega)]
          · rw [if_neg hj, if_neg hj]
            by_cases hm2 : j % 2 = 1
            · rw [if_pos hm2, if_pos hm2]
              by_cases hjk : j = k
              · rw [if_pos (by omega), if_pos hjk]
              · rw [if_neg (by omega), if_neg hjk]
            · rw [if_neg hm2, if_neg hm2, if_neg (by omega)]
        · rw [if_neg hm, Tr.get_n, Tr.get_n, Tr.get_set f r (k / 2 - 1) (j / 2 - 1) v (by omega)]
          by_cases hj : j = 0
          · rw [if_pos hj, if_pos hj, if_neg (by omega)]
          · rw [if_neg hj, if_neg hj]
            by_cases hm2 : j % 2 = 1
            · rw [if_pos hm2, if_pos hm2, if_neg (by omega)]
            · rw [if_neg hm2, if_neg hm2]
              by_cases hjk : j = k
              · rw [if_pos (by omega), if_pos hjk]
              · rw [if_neg (by omega), if_neg hjk]

structure LH where
  t : Tr
  n : Nat

def LH.get (H : LH) (k : Nat) : LObj := H.t.get k
def LH.set (H : LH) (k : Nat) (o : LObj) : LH := ⟨H.t.set 24 k o, H.n⟩
def LH.push (H : LH) (o : LObj) : LH := ⟨H.t.set 24 H.n o, Nat.succ H.n⟩
def LH.room (H : LH) : Bool := Nat.blt H.n 16000000

theorem LH.room_lt {H : LH} (h : H.room = true) : H.n < 16000000 := by
  unfold LH.room at h; exact Nat.le_of_ble_eq_true h
theorem LH.get_set {H : LH} {k j : Nat} {o : LObj} (h : k < 16000000) : (H.set k o).get j = if j = k then o else H.get j := Tr.get_set 24 _ k j o (by omega)
theorem LH.get_push {H : LH} {j : Nat} {o : LObj} (h : H.n < 16000000) : (H.push o).get j = if j = H.n then o else H.get j := Tr.get_set 24 _ _ j o (by omega)

def RenEnts (E : List Blk) : Ents → Ents → Prop
  | [], l => l = []
  | (k, v, n) :: xs, l => ∃ k' v' l', l = (k', v', n) :: l' ∧ Ren E k k' ∧ Ren E v v' ∧ RenEnts E xs l'

theorem RenEnts.mono {E T : List Blk} : ∀ {x y : Ents}, RenEnts E x y → RenEnts (E ++ T) x y
  | [], _, h => h
  | (k, v, n) :: xs, _, ⟨k', v', l', e, a, b, c⟩ => ⟨k', v', l', e, a.mono, b.mono, c.mono⟩

def MtO (E : List Blk) (h base : AHeap) (b : Blk) : LObj → Prop
  | .cells cs esz => base b.id = none ∧ b.esz = esz ∧ b.sh + cs.length ≤ b.tot ∧ ∃ pre cs' post, h b.id = some (.cells (pre ++ cs' ++ post) b.tot) ∧ pre.length = b.sh ∧ Rens E cs cs'
  | .map es c => base b.id = none ∧ ∃ es', h b.id = some (.map es' c) ∧ RenEnts E es es'
  | .dead => True

theorem MtO.mono {E T : List Blk} {h h' base : AHeap} {b : Blk} {o : LObj} (m : MtO E h base b o) (e : h' b.id = h b.id) : MtO (E ++ T) h' base b o := by
  cases o with
  | cells cs esz =>
    obtain ⟨m0, m1, m2, pre, cs', post, m3, m4, m5⟩ := m
    exact ⟨m0, m1, m2, pre, cs', post, e.trans m3, m4, m5.mono⟩
  | map es c =>
    obtain ⟨m0, es', m1, m2⟩ := m
    exact ⟨m0, es', e.trans m1, m2.mono⟩
  | dead => trivial

/-- The block is there, whether it is looked at any more or not. -/
def Alive (b : Blk) (h : AHeap) : Prop := (b.mp = false ∧ ∃ cs, h b.id = some (.cells cs b.tot) ∧ b.sh ≤ cs.length) ∨ (b.mp = true ∧ ∃ es c, h b.id = some (.map es c))

theorem Alive.other {b : Blk} {h : AHeap} {x : Nat} {q : AObj} (a : Alive b h) (hx : b.id ≠ x) : Alive b (upd h x q) := by
  rcases a with ⟨h0, cs, h1, h2⟩ | ⟨h0, es, c, h1⟩
  · exact .inl ⟨h0, cs, by rw [upd_ne hx]; exact h1, h2⟩
  · exact .inr ⟨h0, es, c, by rw [upd_ne hx]; exact h1⟩
theorem Alive.cells {h : AHeap} {x tot : Nat} {cs cs2 : List AV} (hx : h x = some (.cells cs tot)) (hl : cs.length ≤ cs2.length) (b : Blk) (a : Alive b h) : Alive b (upd h x (.cells cs2 tot)) := by
  by_cases e : b.id = x
  · subst e
    rcases a with ⟨h0, cs', h1, h2⟩ | ⟨h0, es, c, h1⟩
    · rw [hx] at h1; cases h1
      exact .inl ⟨h0, cs2, by rw [upd_same], by omega⟩
    · rw [hx] at h1; cases h1
  · exact a.other e
theorem Alive.maps {h : AHeap} {x c c2 : Nat} {es es2 : Ents} (hx : h x = some (.map es c)) (b : Blk) (a : Alive b h) : Alive b (upd h x (.map es2 c2)) := by
  by_cases e : b.id = x
  · subst e
    rcases a with ⟨h0, cs', h1, h2⟩ | ⟨h0, es, c, h1⟩
    · rw [hx] at h1; cases h1
    · exact .inr ⟨h0, es2, c2, by rw [upd_same]⟩
  · exact a.other e
theorem Alive.fresh {h : AHeap} {x : Nat} {q : AObj} (hx : h x = none) (b : Blk) (a : Alive b h) : Alive b (upd h x q) := by
  refine a.other fun e => ?_
  subst e
  rcases a with ⟨_, _, h1, _⟩ | ⟨_, _, _, h1⟩ <;> rw [hx] at h1 <;> cases h1

/-- The abstract heap h reads as the evaluator's heap H, where E says; it holds 'base' besides. -/
structure MtH (E : List Blk) (H : LH) (h base : AHeap) : Prop where
  len : E.length = H.n
  sub : Sub base h
  small : H.n ≤ 16000000
  al : ∀ (k : Nat) (b : Blk), E[k]? = some b → Alive b h
  obj : ∀ k b, E[k]? = some b → MtO E h base b (H.get k)
  inj : ∀ j k b c, E[j]? = some b → E[k]? = some c → H.get j ≠ .dead → H.get k ≠ .dead → j ≠ k → b.id ≠ c.id

theorem MtO.live {E : List Blk} {h base : AHeap} {b : Blk} {o : LObj} (m : MtO E h base b o) (hd : o ≠ .dead) : base b.id = none ∧ ∃ q, h b.id = some q := by
  cases o with
  | cells cs esz => obtain ⟨m0, _, _, _, _, _, m3, _⟩ := m; exact ⟨m0, _, m3⟩
  | map es c => obtain ⟨m0, _, m1, _⟩ := m; exact ⟨m0, _, m1⟩
  | dead => exact absurd rfl hd

section
variable {E : List Blk} {H : LH} {h base : AHeap}

theorem MtH.lt (m : MtH E H h base) {k : Nat} {b : Blk} (hk : E[k]? = some b) : k < 16000000 := by
  have := (List.getElem?_eq_some_iff.1 hk).1
  have := m.len; have := m.small; omega

/-- A block that is written to. -/
theorem MtH.step (m : MtH E H h base) {k : Nat} {b : Blk} (hk : E[k]? = some b) (hl : H.get k ≠ .dead) {o : LObj} {q : AObj} (ha : ∀ c, Alive c h → Alive c (upd h b.id q)) (ho : MtO E (upd h b.id q) base b o) : MtH E (H.set k o) (upd h b.id q) base := by
  have hs := m.lt hk
  obtain ⟨hb, _⟩ := (m.obj k b hk).live hl
  refine ⟨m.len, fun x p e => ?_, m.small, fun j c hj => ha c (m.al j c hj), fun j c hj => ?_, fun i j c d hi hj ci cj hij => ?_⟩
  · rw [upd_ne (by rintro rfl; rw [hb] at e; cases e)]; exact m.sub x p e
  · rw [LH.get_set hs]
    split
    · rename_i e; subst e; rw [hk] at hj; cases hj; exact ho
    · rename_i e
      by_cases hd : H.get j = .dead
      · rw [hd]; trivial
      · have := (m.obj j c hj).mono (T := []) (h' := upd h b.id q) (upd_ne (m.inj j k c b hj hk hd hl e))
        simpa using this
  · rw [LH.get_set hs] at ci cj
    have q1 : H.get i ≠ .dead := by
      split at ci
      · rename_i e; rw [e]; exact hl
      · exact ci
    have q2 : H.get j ≠ .dead := by
      split at cj
      · rename_i e; rw [e]; exact hl
      · exact cj
    exact m.inj i j c d hi hj q1 q2 hij

/-- A block that is let go. -/
theorem MtH.kill (m : MtH E H h base) {k : Nat} (hk : k < 16000000) : MtH E (H.set k .dead) h base := by
  refine ⟨m.len, m.sub, m.small, m.al, fun j c hj => ?_, fun i j c d hi hj ci cj hij => ?_⟩
  · rw [LH.get_set hk]
    split
    · trivial
    · exact m.obj j c hj
  · rw [LH.get_set hk] at ci cj
    split at ci
    · exact absurd rfl ci
    split at cj
    · exact absurd rfl cj
    exact m.inj i j c d hi hj ci cj hij

theorem snoc_get (b : Blk) : (E ++ [b])[E.length]? = some b := by simp

/-- A block that is not one of those that live: it is new, or none names it any more. -/
theorem MtH.new (m : MtH E H h base) (hr : H.room = true) {b : Blk} {o : LObj} {q : AObj} (hb : base b.id = none) (hn : ∀ k c, E[k]? = some c → H.get k ≠ .dead → c.id ≠ b.id) (ha : ∀ c, Alive c h → Alive c (upd h b.id q)) (hb2 : Alive b (upd h b.id q)) (ho : MtO (E ++ [b]) (upd h b.id q) base b o) : MtH (E ++ [b]) (H.push o) (upd h b.id q) base := by
  have hs := LH.room_lt hr
  have old : ∀ {k : Nat} {c : Blk}, (E ++ [b])[k]? = some c → k ≠ H.n → E[k]? = some c := fun {k c} hk hne => by
    have hlt : k < E.length := by
      have h1 := (List.getElem?_eq_some_iff.1 hk).1
      simp only [List.length_append, List.length_cons, List.length_nil] at h1
      have := m.len; omega
    rwa [List.getElem?_append_left hlt] at hk
  refine ⟨by simp [LH.push, m.len], fun x p e => ?_, by simp [LH.push]; omega, fun j c hj => ?_, fun j c hj => ?_, fun i j c d hi hj ci cj hij => ?_⟩
  · rw [upd_ne (by rintro rfl; rw [hb] at e; cases e)]; exact m.sub x p e
  · by_cases e : j = H.n
    · rw [e, ← m.len, snoc_get] at hj; cases hj; exact hb2
    · exact ha c (m.al j c (old hj e))
  · rw [LH.get_push hs]
    split
    · rename_i e; rw [e, ← m.len, snoc_get] at hj; cases hj; exact ho
    · rename_i e
      have hj' := old hj e
      by_cases hd : H.get j = .dead
      · rw [hd]; trivial
      · exact (m.obj j c hj').mono (upd_ne (hn j c hj' hd))
  · rw [LH.get_push hs] at ci cj
    split at ci
    · rename_i e
      have hje : j ≠ H.n := fun e2 => hij (e.trans e2.symm)
      rw [if_neg hje] at cj
      have := hn j d (old hj hje) cj
      rw [e, ← m.len, snoc_get] at hi; cases hi
      exact this.symm
    · rename_i e
      split at cj
      · rename_i e2
        have := hn i c (old hi e) ci
        rw [e2, ← m.len, snoc_get] at hj; cases hj
        exact this
      · rename_i e2
        exact m.inj i j c d (old hi e) (old hj e2) ci cj hij

theorem MtH.fresh (m : MtH E H h base) (hr : H.room = true) {id : Nat} (hid : h id = none) {b : Blk} (hb : b.id = id) {o : LObj} {q : AObj} (hb2 : Alive b (upd h id q)) (ho : MtO (E ++ [b]) (upd h id q) base b o) : MtH (E ++ [b]) (H.push o) (upd h id q) base := by
  subst hb
  refine m.new hr (m.sub.isNone hid) (fun k c hk hd e => ?_) (fun c => Alive.fresh hid c) hb2 ho
  obtain ⟨_, p, hp⟩ := (m.obj k c hk).live hd
  rw [e, hid] at hp; cases hp

/-- One more name of a block. -/
theorem MtH.alias (m : MtH E H h base) (hr : H.room = true) {b : Blk} (hb : Alive b h) : MtH (E ++ [b]) (H.push .dead) h base := by
  have hs := LH.room_lt hr
  have old : ∀ {k : Nat} {c : Blk}, (E ++ [b])[k]? = some c → k ≠ H.n → E[k]? = some c := fun {k c} hk hne => by
    have hlt : k < E.length := by
      have h1 := (List.getElem?_eq_some_iff.1 hk).1
      simp only [List.length_append, List.length_cons, List.length_nil] at h1
      have := m.len; omega
    rwa [List.getElem?_append_left hlt] at hk
  refine ⟨by simp [LH.push, m.len], m.sub, by simp [LH.push]; omega, fun j c hj => ?_, fun j c hj => ?_, fun i j c d hi hj ci cj hij => ?_⟩
  · by_cases e : j = H.n
    · rw [e, ← m.len, snoc_get] at hj; cases hj; exact hb
    · exact m.al j c (old hj e)
  · rw [LH.get_push hs]
    split
    · trivial
    · rename_i e
      exact (m.obj j c (old hj e)).mono rfl
  · rw [LH.get_push hs] at ci cj
    split at ci
    · exact absurd rfl ci
    split at cj
    · exact absurd rfl cj
    rename_i e e2
    exact m.inj i j c d (old hi e) (old hj e2) ci cj hij
end

end Go.Proofs.YteijaibggalapaaGreatDoor.E
