/-
  Lists of things as cells; slices that one builds oneself.
-/
import Derived.Test.YteijaibggalapaaGreatDoorE11
namespace Go.Proofs.YteijaibggalapaaGreatDoor.E
open Go
set_option linter.unusedVariables false
set_option linter.unusedSimpArgs false

/-- The cells of a list's things, one behind the other. -/
def cat {α : Type} (enc : α → List AV) : List α → List AV
  | [] => []
  | x :: l => enc x ++ cat enc l

section
variable {α : Type} {enc : α → List AV} {esz : Nat}
theorem cat_nil : cat enc [] = [] := rfl
theorem cat_cons (x : α) (l : List α) : cat enc (x :: l) = enc x ++ cat enc l := rfl
theorem cat_append (l m : List α) : cat enc (l ++ m) = cat enc l ++ cat enc m := by
  induction l with
  | nil => rfl
  | cons x l ih => simp only [List.cons_append, cat_cons, ih, List.append_assoc]
theorem cat_len (he : ∀ a, (enc a).length = esz) (l : List α) : (cat enc l).length = l.length * esz := by
  induction l with
  | nil => simp [cat]
  | cons x l ih => rw [cat_cons, List.length_append, he, ih, List.length_cons, Nat.succ_mul, Nat.add_comm]
theorem cat_drop (he : ∀ a, (enc a).length = esz) (l : List α) (k : Nat) : (cat enc l).drop (k * esz) = cat enc (l.drop k) := by
  induction k generalizing l with
  | zero => simp
  | succ k ih =>
    cases l with
    | nil => simp [cat]
    | cons x l =>
      rw [cat_cons, List.drop_succ_cons, ← ih, Nat.succ_mul, Nat.add_comm, ← List.drop_drop]
      congr 1
      rw [← he x, List.drop_left]
theorem cat_take (he : ∀ a, (enc a).length = esz) (l : List α) (k : Nat) : (cat enc l).take (k * esz) = cat enc (l.take k) := by
  induction k generalizing l with
  | zero => simp [cat]
  | succ k ih =>
    cases l with
    | nil => simp [cat]
    | cons x l =>
      rw [cat_cons, List.take_succ_cons, cat_cons, ← ih, Nat.succ_mul, Nat.add_comm, ← he x, List.take_length_add_append]
theorem cat_at (he : ∀ a, (enc a).length = esz) {l : List α} {k : Nat} (hk : k < l.length) : (cat enc l).drop (k * esz) = enc l[k] ++ cat enc (l.drop (k + 1)) := by
  rw [cat_drop he, List.drop_eq_getElem_cons hk, cat_cons]
/-- A thing that is read whole. -/
theorem rd_all {h : AHeap} (he : ∀ a, (enc a).length = esz) {l : List α} {k : Nat} (hk : k < l.length) : aloads h esz (.rp ((cat enc l).drop (k * esz))) = some (enc l[k]) := by
  rw [cat_at he hk]
  have := he l[k]
  simp only [aloads]
  rw [if_pos (by simp; omega), List.take_append_of_le_length (by omega), List.take_of_length_le (by omega)]
/-- A cell of a thing. -/
theorem rd_cell {h : AHeap} (he : ∀ a, (enc a).length = esz) {l : List α} {k off : Nat} (hk : k < l.length) (ho : off < esz) : aload h (.rp (((cat enc l).drop (k * esz)).drop off)) = (enc l[k])[off]? := by
  rw [cat_at he hk]
  have := he l[k]
  simp only [aload]
  rw [List.drop_append_of_le_length (by omega), List.head?_eq_getElem?, List.getElem?_append_left (by simp; omega), List.getElem?_drop, Nat.add_zero]
/-- The first cell of a thing. -/
theorem rd_first {h : AHeap} (he : ∀ a, (enc a).length = esz) (h0 : 0 < esz) {l : List α} {k : Nat} (hk : k < l.length) : aload h (.rp ((cat enc l).drop (k * esz))) = (enc l[k])[0]? := by
  have := rd_cell (h := h) he hk h0
  rwa [List.drop_zero] at this
/-- Several cells of a thing. -/
theorem rd_some {h : AHeap} (he : ∀ a, (enc a).length = esz) {l : List α} {k off n : Nat} (hk : k < l.length) (ho : off + n ≤ esz) : aloads h n (.rp (((cat enc l).drop (k * esz)).drop off)) = some (((enc l[k]).drop off).take n) := by
  rw [cat_at he hk]
  have := he l[k]
  simp only [aloads]
  rw [List.drop_append_of_le_length (by omega), if_pos (by simp; omega), List.take_append_of_le_length (by simp; omega)]

/-- The same of a block of one's own. -/
theorem own_all {h : AHeap} {id off tot n : Nat} {cs : List AV} (hid : h id = some (.cells cs tot)) (hn : off + n ≤ cs.length) : aloads h n (.ptr id off) = some ((cs.drop off).take n) := by
  simp only [aloads, hid]; rw [if_pos hn]
theorem own_cell {h : AHeap} {id off tot : Nat} {cs : List AV} (hid : h id = some (.cells cs tot)) : aload h (.ptr id off) = cs[off]? := by
  simp only [aload, hid]
theorem cat_get (he : ∀ a, (enc a).length = esz) {l : List α} {k off : Nat} (hk : k < l.length) (ho : off < esz) : (cat enc l)[k * esz + off]? = (enc l[k])[off]? := by
  rw [← List.getElem?_drop, cat_at he hk, List.getElem?_append_left (by rw [he]; exact ho)]
theorem cat_get0 (he : ∀ a, (enc a).length = esz) (h0 : 0 < esz) {l : List α} {k : Nat} (hk : k < l.length) : (cat enc l)[k * esz]? = (enc l[k])[0]? := cat_get (off := 0) he hk h0
end

/-! ### A slice that one builds oneself -/

/-- A slice that alone holds on to its block; the heap is h0 but for that block (what stands in it behind the slice is of no concern). -/
structure Grow (h0 : AHeap) (esz : Nat) (v : AV) (cs : List AV) (n : Nat) (h : AHeap) : Prop where
  size : cs.length = n * esz
  sca : cs.all scalar = true
  how : (v = .nils ∧ n = 0 ∧ h = h0) ∨ (v = .ro cs n true ∧ h = h0) ∨ ∃ id cap junk tot, v = .sl id 0 n cap ∧ n ≤ cap ∧ cap * esz ≤ tot ∧ h0 id = none ∧ h = upd h0 id (.cells (cs ++ junk) tot)

section
variable {h0 h : AHeap} {esz n : Nat} {v : AV} {cs : List AV}

theorem Grow.nil : Grow h0 esz .nils [] 0 h0 := ⟨by simp, by simp, .inl ⟨rfl, rfl, rfl⟩⟩
theorem Grow.lit (h1 : cs.length = n * esz) (h2 : cs.all scalar = true) : Grow h0 esz (.ro cs n true) cs n h0 := ⟨h1, h2, .inr (.inl ⟨rfl, rfl⟩)⟩
theorem Grow.made {id cap : Nat} {junk : List AV} (h1 : cs.length = n * esz) (h2 : cs.all scalar = true) (hid : h0 id = none) (hc : n ≤ cap) : Grow h0 esz (.sl id 0 n cap) cs n (upd h0 id (.cells (cs ++ junk) (cap * esz))) := ⟨h1, h2, .inr (.inr ⟨id, cap, junk, _, rfl, hc, Nat.le_refl _, hid, rfl⟩)⟩

theorem Grow.box (c : Grow h0 esz v cs n h) : cellsOf v = some [v] ∧ scalar v = true := by
  rcases c.how with ⟨rfl, _⟩ | ⟨rfl, _⟩ | ⟨id, cap, junk, tot, rfl, _⟩ <;> exact ⟨rfl, rfl⟩

theorem Grow.len (c : Grow h0 esz v cs n h) : lenA false v = some (.int .i64 (n : Int)) := by
  rcases c.how with ⟨rfl, rfl, _⟩ | ⟨rfl, _⟩ | ⟨id, cap, junk, tot, rfl, _⟩ <;> rfl

theorem Grow.keep (c : Grow h0 esz v cs n h) {x : Nat} {o : AObj} (hx : h0 x = some o) : h x = some o := by
  rcases c.how with ⟨_, _, rfl⟩ | ⟨_, rfl⟩ | ⟨id, cap, junk, tot, _, _, hT, hid, rfl⟩
  · exact hx
  · exact hx
  · rw [upd_ne (by rintro rfl; rw [hid] at hx; cases hx)]; exact hx

theorem Grow.sub (c : Grow h0 esz v cs n h) : Sub h0 h := fun _ _ e => c.keep e
theorem Grow.fzH (c : Grow h0 esz v cs n h) : FzH h h0 := FzH.sub c.sub

theorem Grow.fz (c : Grow h0 esz v cs n h) : Fz h h0 v (.ro cs n false) := by
  rcases c.how with ⟨rfl, rfl, rfl⟩ | ⟨rfl, rfl⟩ | ⟨id, cap, junk, tot, rfl, hc, hT, hid, rfl⟩
  · have : cs = [] := by have := c.size; simp at this; exact this
    subst this; exact .nils
  · exact .ro (.refl _ _ _) (by simp)
  · refine .sl (cs := cs ++ junk) (tot := tot) cs.length (by simp [upd]) hid (by simp) ?_ (by simp)
    rw [List.drop_zero, List.take_left]; exact .refl _ _ _

theorem upd_del {h : AHeap} {x : Nat} (hx : h x = none) (o : AObj) : del (upd h x o) x = h := by
  funext y; simp only [del, upd]
  split
  · rename_i e; rw [e, hx]
  · rfl

theorem Grow.acells (c : Grow h0 esz v cs n h) : E.acells h esz v = some cs := by
  rcases c.how with ⟨rfl, rfl, _⟩ | ⟨rfl, _⟩ | ⟨id, cap, junk, tot, rfl, hc, hT, hid, rfl⟩
  · have : cs = [] := by have := c.size; simp at this; exact this
    subst this; rfl
  · simp only [E.acells]; rw [if_pos c.size]
  · have h1 : upd h0 id (.cells (cs ++ junk) tot) id = some (.cells (cs ++ junk) tot) := by simp [upd]
    simp only [E.acells, h1, Nat.zero_add, ← c.size, List.length_append, Nat.le_add_right, if_true, List.drop_zero, List.take_left]

theorem Grow.slen (c : Grow h0 esz v cs n h) : E.slen v = n := by
  rcases c.how with ⟨rfl, rfl, _⟩ | ⟨rfl, _⟩ | ⟨id, cap, junk, tot, rfl, _⟩ <;> rfl

/-- 'v = append(v, y...)', with the block told. -/
theorem Grow.appendS {b m : Nat} {y : AV} {ys : List AV} {K : AV → AHeap → Prop} (c : Grow h0 esz v cs n h) (hy : E.acells h esz y = some ys) (hm : E.slen y = m) (hm0 : m ≠ 0) (hl : ys.length = m * esz) (hs : ys.all scalar = true) (hb : (n + m) * b ≤ 70368744177664)
    (k : ∀ id cap junk tot, n + m ≤ cap → cap * esz ≤ tot → h0 id = Option.none → K (.sl id 0 (n + m) cap) (upd h0 id (.cells ((cs ++ ys) ++ junk) tot))) : appendA h esz b v y K := by
  refine ⟨cs, ys, c.acells, hy, by rw [c.slen, hm]; exact hb, fun e => by rw [hm] at e; omega, fun e => ?_⟩
  · rw [hm] at e ⊢
    rcases c.how with ⟨rfl, rfl, rfl⟩ | ⟨rfl, rfl⟩ | ⟨id, cap, junk, tot, rfl, hc, hT, hid, rfl⟩
    · have : cs = [] := by have := c.size; simp at this; exact this
      subst this
      intro id cap hid hcap
      have := k id cap [] _ (by omega) (Nat.le_refl _) hid
      simpa using this
    · intro id cap hid hcap
      have := k id cap [] _ hcap (Nat.le_refl _) hid
      simpa using this
    · refine ⟨cs ++ junk, tot, by simp [upd], by omega, fun hle => ⟨hs, ?_⟩, fun hlt => .inr ?_⟩
      · have hsp : splice (cs ++ junk) (0 + n * esz) ys = (cs ++ ys) ++ junk.drop ys.length := by
          rw [Nat.zero_add, ← c.size]
          unfold splice
          rw [List.take_left, List.drop_append]
          have : List.drop (cs.length + ys.length) cs = [] := List.drop_of_length_le (by omega)
          rw [this, Nat.add_sub_cancel_left]; simp
        rw [hsp, upd_upd]
        exact k id cap _ _ hle hT hid
      · rw [upd_del hid]
        intro id2 cap2 hid2 hcap2
        have := k id2 cap2 [] _ hcap2 (Nat.le_refl _) hid2
        simpa using this

/-- 'v = append(v, y...)'. -/
theorem Grow.append {b m : Nat} {y : AV} {ys : List AV} {K : AV → AHeap → Prop} (c : Grow h0 esz v cs n h) (hy : E.acells h esz y = some ys) (hm : E.slen y = m) (hl : ys.length = m * esz) (hs : ys.all scalar = true) (hb : (n + m) * b ≤ 70368744177664)
    (k : ∀ v' h', Grow h0 esz v' (cs ++ ys) (n + m) h' → K v' h') : appendA h esz b v y K := by
  have hsz : (cs ++ ys).length = (n + m) * esz := by rw [List.length_append, c.size, hl, Nat.add_mul]
  have hsc : (cs ++ ys).all scalar = true := by rw [List.all_append, c.sca, hs]; rfl
  by_cases hm0 : m = 0
  · subst hm0
    have : ys = [] := by simpa using hl
    subst this
    exact ⟨cs, [], c.acells, hy, by rw [c.slen, hm]; exact hb, fun _ => k v h (by simpa using c), fun e => absurd hm e⟩
  · exact c.appendS hy hm hm0 hl hs hb fun id cap junk tot hcap hT hid => k _ _ ⟨hsz, hsc, .inr (.inr ⟨id, cap, junk, tot, rfl, hcap, hT, hid, rfl⟩)⟩

/-- 'append(v, y...)' of what stands still. -/
theorem Grow.addN {b m : Nat} {ys : List AV} {ex : Bool} {K : AV → AHeap → Prop} (c : Grow h0 esz v cs n h) (hl : ys.length = m * esz) (hs : ys.all scalar = true) (hb : (n + m) * b ≤ 70368744177664)
    (k : ∀ v' h', Grow h0 esz v' (cs ++ ys) (n + m) h' → K v' h') : appendA h esz b v (.ro ys m ex) K :=
  c.append (by simp only [E.acells]; rw [if_pos hl]) rfl hl hs hb k

/-- One element more. -/
theorem Grow.add1 {b : Nat} {x : List AV} {ex : Bool} {K : AV → AHeap → Prop} (c : Grow h0 esz v cs n h) (hl : x.length = esz) (hs : x.all scalar = true) (hb : (n + 1) * b ≤ 70368744177664)
    (k : ∀ v' h', Grow h0 esz v' (cs ++ x) (n + 1) h' → K v' h') : appendA h esz b v (.ro x 1 ex) K :=
  c.addN (by omega) hs hb k

theorem FzL.append {h h' : AHeap} : ∀ {a b c d : List AV}, FzL h h' a b → FzL h h' c d → FzL h h' (a ++ c) (b ++ d)
  | _, _, _, _, .nil, z => z
  | _, _, _, _, .cons x y, z => .cons x (FzL.append y z)

/-- An element that holds a slice that one builds oneself, too. -/
theorem Grow.addIn {h1 h2 : AHeap} {b m : Nat} {vi : AV} {ys pre post : List AV} {ex : Bool} {K : AV → AHeap → Prop} (g : Grow h0 esz v cs n h1) (gi : Grow h1 1 vi ys m h2) (hl : pre.length + 1 + post.length = esz) (hpre : pre.all scalar = true) (hpost : post.all scalar = true) (hb : (n + 1) * b ≤ 70368744177664)
    (k : ∀ v' h', (∃ h4, FzH h' h4 ∧ Grow h0 esz v' (cs ++ (pre ++ .ro ys m false :: post)) (n + 1) h4) → K v' h') : appendA h2 esz b v (.ro (pre ++ vi :: post) 1 ex) K := by
  have hlen : ∀ x : AV, (pre ++ x :: post).length = 1 * esz := fun x => by simp; omega
  have hsca : ∀ x : AV, scalar x = true → (pre ++ x :: post).all scalar = true := fun x hx => by simp only [List.all_append, List.all_cons, hpre, hpost, hx, Bool.and_self]
  have hvi : scalar vi = true := gi.box.2
  have key : ∀ (H0 : AHeap) (z : ∀ id C C', H0 id = Option.none → h0 id = Option.none → FzL (upd H0 id C) (upd h0 id C') [vi] [.ro ys m false]) (s : Sub h0 H0) (id cap : Nat) (junk : List AV) (tot : Nat), n + 1 ≤ cap → cap * esz ≤ tot → H0 id = Option.none → K (.sl id 0 (n + 1) cap) (upd H0 id (.cells ((cs ++ (pre ++ vi :: post)) ++ junk) tot)) := by
    intro H0 z s id cap junk tot hcap hT hid
    have h0id := s.isNone hid
    refine k _ _ ⟨upd h0 id (.cells ((cs ++ (pre ++ .ro ys m false :: post)) ++ junk) tot), ?_, ⟨by rw [List.length_append, g.size, hlen, Nat.add_mul], by rw [List.all_append, g.sca, hsca _ rfl]; rfl, .inr (.inr ⟨id, cap, junk, tot, rfl, hcap, hT, h0id, rfl⟩)⟩⟩
    intro x o hx
    by_cases hxi : x = id
    · subst hxi
      rw [upd_same] at hx ⊢; cases hx
      refine ⟨_, rfl, .cells (FzL.append (FzL.append (.refl _ _ _) (FzL.append (.refl _ _ _) ?_)) (.refl _ _ _))⟩
      have := z x (.cells ((cs ++ (pre ++ vi :: post)) ++ junk) tot) (.cells ((cs ++ (pre ++ .ro ys m false :: post)) ++ junk) tot) hid h0id
      cases this with
      | cons a b => exact .cons a (.refl _ _ _)
    · rw [upd_ne hxi] at hx ⊢
      exact ⟨o, s x o hx, .refl _⟩
  rcases gi.how with ⟨rfl, rfl, rfl⟩ | ⟨rfl, rfl⟩ | ⟨idi, capi, junki, toti, rfl, hc, hTi, hidi, rfl⟩
  · have : ys = [] := by have := gi.size; simp at this; exact this
    subst this
    refine g.appendS (m := 1) (by simp only [E.acells]; rw [if_pos (hlen _)]) rfl (by omega) (hlen _) (hsca _ hvi) hb (key h0 (fun _ _ _ _ _ => .cons .nils .nil) (Sub.refl _))
  · refine g.appendS (m := 1) (by simp only [E.acells]; rw [if_pos (hlen _)]) rfl (by omega) (hlen _) (hsca _ hvi) hb (key h0 (fun _ _ _ _ _ => .cons (.ro (.refl _ _ _) (by simp)) .nil) (Sub.refl _))
  · have h0i : h0 idi = Option.none := by
      cases e : h0 idi with
      | none => rfl
      | some p => rw [g.keep e] at hidi; cases hidi
    have gm : Grow (upd h0 idi (.cells (ys ++ junki) toti)) esz v cs n (upd h1 idi (.cells (ys ++ junki) toti)) := by
      refine ⟨g.size, g.sca, ?_⟩
      rcases g.how with ⟨e1, e2, rfl⟩ | ⟨e1, rfl⟩ | ⟨id, cap, junk, tot, e1, e2, hT, hid, rfl⟩
      · exact .inl ⟨e1, e2, rfl⟩
      · exact .inr (.inl ⟨e1, rfl⟩)
      · have hne : id ≠ idi := by rintro rfl; simp [upd] at hidi
        exact .inr (.inr ⟨id, cap, junk, tot, e1, e2, hT, by rw [upd_ne hne]; exact hid, upd_comm hne⟩)
    refine gm.appendS (m := 1) (by simp only [E.acells]; rw [if_pos (hlen _)]) rfl (by omega) (hlen _) (hsca _ hvi) hb (key _ (fun id C C' hid h0id => .cons (.sl (cs := ys ++ junki) (tot := toti) ys.length ?_ ?_ (by simp) ?_ (by simp)) .nil) (upd_new h0i))
    · have hne : idi ≠ id := by rintro rfl; simp [upd] at hid
      rw [upd_ne hne, upd_same]
    · have hne : idi ≠ id := by rintro rfl; simp [upd] at hid
      rw [upd_ne hne]; exact h0i
    · rw [List.drop_zero, List.take_left]; exact .refl _ _ _

/-- A block of h0 is written to. -/
theorem Grow.poke (c : Grow h0 esz v cs n h) {x : Nat} {p o : AObj} (hx : h0 x = some p) : Grow (upd h0 x o) esz v cs n (upd h x o) := by
  refine ⟨c.size, c.sca, ?_⟩
  rcases c.how with ⟨h1, h2, rfl⟩ | ⟨h1, rfl⟩ | ⟨id, cap, junk, tot, h1, h2, hT, hid, rfl⟩
  · exact .inl ⟨h1, h2, rfl⟩
  · exact .inr (.inl ⟨h1, rfl⟩)
  · have hne : id ≠ x := by rintro rfl; rw [hid] at hx; cases hx
    exact .inr (.inr ⟨id, cap, junk, tot, h1, h2, hT, by rw [upd_ne hne]; exact hid, upd_comm hne⟩)

/-- A new block. -/
theorem Grow.more (c : Grow h0 esz v cs n h) {x : Nat} {o : AObj} (hx : h x = none) : Grow (upd h0 x o) esz v cs n (upd h x o) := by
  refine ⟨c.size, c.sca, ?_⟩
  rcases c.how with ⟨h1, h2, rfl⟩ | ⟨h1, rfl⟩ | ⟨id, cap, junk, tot, h1, h2, hT, hid, rfl⟩
  · exact .inl ⟨h1, h2, rfl⟩
  · exact .inr (.inl ⟨h1, rfl⟩)
  · have hne : id ≠ x := by rintro rfl; simp [upd] at hx
    exact .inr (.inr ⟨id, cap, junk, tot, h1, h2, hT, by rw [upd_ne hne]; exact hid, upd_comm hne⟩)

/-- A block that is h0's no more. -/
theorem Grow.unpoke {x : Nat} {p : AObj} (hx : h0 x = none) (c : Grow (upd h0 x p) esz v cs n h) : ∃ h2, Grow h0 esz v cs n h2 ∧ h2 x = none ∧ Sub h2 h ∧ ∀ o, upd h x o = upd h2 x o := by
  rcases c.how with ⟨h1, h2, rfl⟩ | ⟨h1, rfl⟩ | ⟨id, cap, junk, tot, h1, h2, hT, hid, rfl⟩
  · exact ⟨h0, ⟨c.size, c.sca, .inl ⟨h1, h2, rfl⟩⟩, hx, upd_new hx, fun o => upd_upd⟩
  · exact ⟨h0, ⟨c.size, c.sca, .inr (.inl ⟨h1, rfl⟩)⟩, hx, upd_new hx, fun o => upd_upd⟩
  · have hne : id ≠ x := by rintro rfl; simp [upd] at hid
    rw [upd_ne hne] at hid
    have hxn : upd h0 id (.cells (cs ++ junk) tot) x = none := by rw [upd_ne (fun e => hne e.symm)]; exact hx
    refine ⟨upd h0 id (.cells (cs ++ junk) tot), ⟨c.size, c.sca, .inr (.inr ⟨id, cap, junk, tot, h1, h2, hT, hid, rfl⟩)⟩, hxn, ?_, fun o => ?_⟩
    · rw [upd_comm (fun e => hne e.symm)]; exact upd_new hxn
    · rw [upd_comm (fun e => hne e.symm), upd_upd]

theorem Grow.none (c : Grow h0 esz v cs n h) {x : Nat} (hx : h x = Option.none) : h0 x = Option.none := by
  cases e : h0 x with
  | none => rfl
  | some p => rw [c.keep e] at hx; cases hx

/-- What it reads as while it grows. -/
theorem Grow.rd (c : Grow h0 esz v cs n h) {K : AV → AHeap → Prop} {k : IntKind} {i : Nat} (hi : i < n) (h' : AHeap) (hK : ∀ p, (∀ off, off < esz → aload h (match p with | .ptr a b => .ptr a (b + off) | .rp l => .rp (l.drop off) | _ => .undef) = cs[i * esz + off]?) → aloads h esz p = some ((cs.drop (i * esz)).take esz) → K p h') : idxK esz v (.int k (i : Int)) K h' := by
  have hle : i * esz + esz ≤ cs.length := by rw [c.size, ← Nat.succ_mul]; exact Nat.mul_le_mul_right _ hi
  rcases c.how with ⟨rfl, rfl, _⟩ | ⟨rfl, rfl⟩ | ⟨id, cap, junk, tot, rfl, hc, hT, hid, rfl⟩
  · omega
  · refine ⟨⟨Int.natCast_nonneg _, by omega⟩, hK _ (fun off ho => ?_) ?_⟩
    · simp [aload, List.drop_drop]
    · simp only [aloads, Int.toNat_natCast, List.length_drop]
      rw [if_pos (by omega)]
  · refine ⟨⟨Int.natCast_nonneg _, by omega⟩, hK _ (fun off ho => ?_) ?_⟩
    · simp only [aload, upd, if_true, Int.toNat_natCast, Nat.zero_add]
      rw [List.getElem?_append_left (by omega)]
    · simp only [aloads, upd, if_true, Int.toNat_natCast, Nat.zero_add]
      rw [if_pos (by rw [List.length_append]; omega), List.drop_append_of_le_length (by omega), List.take_append_of_le_length (by rw [List.length_drop]; omega)]
end

/-- What a call leaves may be laid still. -/
theorem CallsA.fz {P : Program} {f : FuncId} {args : List AV} {h : AHeap} {R R' : AV → AHeap → Prop} (c : CallsA P f args h R) (hr : ∀ r h', R r h' → ∃ r' h2, FzH h' h2 ∧ Fz h' h2 r r' ∧ R' r' h2) : CallsA P f args h R' :=
  ⟨c.1, fun W0 w cargs hrel hargs => (c.2 W0 w cargs hrel hargs).mono fun e w' ⟨W1, v, r, h', h1, h2, h3, h4, h5⟩ => by
    obtain ⟨r', h2', z1, z2, k⟩ := hr _ _ h5
    obtain ⟨r1, f1⟩ := h3.still z1
    exact ⟨_, v, r', h2', h1, Fz_sound h3 z2 v h2, r1, h4.trans f1, k⟩⟩

theorem Grow.pure {P : Program} {f : FuncId} {args : List AV} {h : AHeap} {esz n : Nat} {cs : List AV} (c : CallsA P f args h fun r h' => Grow h esz r cs n h') : PureA P f args h (.ro cs n false) :=
  c.fz fun r h' g => ⟨_, _, g.fzH, g.fz, rfl, rfl⟩

theorem Grow.pure2 {P : Program} {f : FuncId} {args : List AV} {h : AHeap} {esz n : Nat} {cs : List AV} {x : AV} (c : CallsA P f args h fun r h' => ∃ v, r = .tup [v, x] ∧ Grow h esz v cs n h') : PureA P f args h (.tup [.ro cs n false, x]) :=
  c.fz fun r h' ⟨v, e, g⟩ => ⟨_, _, g.fzH, by rw [e]; exact .tup (.cons g.fz (.cons (.refl _) .nil)), rfl, rfl⟩

/-- A call whose arguments are seen as what its contract speaks of. -/
theorem PureA.useZ {P : Program} {f : FuncId} {args args' : List AV} {h : AHeap} {v : AV} {K : AV → AHeap → Prop} (c : PureA P f args' h v) (z : FzL h h args args') (k : K v h) : callF P f args h K :=
  ⟨h, args', .refl h, z, .inl (c.mono fun r h' ⟨e1, e2⟩ => by rw [e1, e2]; exact k)⟩
theorem PureA.useH {P : Program} {f : FuncId} {args args' : List AV} {h h2 : AHeap} {v : AV} {K : AV → AHeap → Prop} (c : PureA P f args' h2 v) (y : FzH h h2) (z : FzL h h2 args args') (k : K v h2) : callF P f args h K :=
  ⟨h2, args', y, z, .inl (c.mono fun r h' ⟨e1, e2⟩ => by rw [e1, e2]; exact k)⟩
theorem CallsA.useZ {P : Program} {f : FuncId} {args args' : List AV} {h : AHeap} {R K : AV → AHeap → Prop} (c : CallsA P f args' h R) (z : FzL h h args args') (k : ∀ r h', R r h' → K r h') : callF P f args h K := ⟨h, args', .refl h, z, .inl (c.mono k)⟩

theorem CallsA.use {P : Program} {f : FuncId} {args : List AV} {h : AHeap} {R K : AV → AHeap → Prop} (c : CallsA P f args h R) (k : ∀ r h', R r h' → K r h') : callF P f args h K := (c.mono k).go

/-- A variable of one cell, at p, that holds a slice that one builds. -/
def Line (h : AHeap) (esz p : Nat) (cs : List AV) (n : Nat) (H : AHeap) : Prop := ∃ v h2, Grow h esz v cs n h2 ∧ h2 p = none ∧ H = upd h2 p (.cells [v] 1)

theorem Line.fz {h H : AHeap} {esz p n : Nat} {cs : List AV} (l : Line h esz p cs n H) : FzH H (upd h p (.cells [.ro cs n false] 1)) := by
  obtain ⟨v, h2, g, hp, rfl⟩ := l
  intro x o hx
  by_cases hxp : x = p
  · subst hxp
    rw [upd_same] at hx ⊢
    cases hx
    exact ⟨_, rfl, .cells (.cons (Fz_upd hp g.fz) .nil)⟩
  · rw [upd_ne hxp] at hx ⊢
    exact ⟨o, g.keep hx, .refl _⟩

/-! ### Whole numbers -/

def i1 (n : Int) : List AV := [.int .i64 n]
def b1 (n : Int) : List AV := [.int .u8 n]
theorem i1_len (n : Int) : (i1 n).length = 1 := rfl
theorem b1_len (n : Int) : (b1 n).length = 1 := rfl
theorem cat_sca {α : Type} {enc : α → List AV} (he : ∀ a, (enc a).all scalar = true) (l : List α) : (cat enc l).all scalar = true := by
  induction l with
  | nil => rfl
  | cons x l ih => rw [cat_cons, List.all_append, he, ih]; rfl
theorem i1_sca (n : Int) : (i1 n).all scalar = true := rfl
theorem b1_sca (n : Int) : (b1 n).all scalar = true := rfl
theorem rdI {h : AHeap} {l : List Int} {k : Nat} (hk : k < l.length) : aload h (.rp ((cat i1 l).drop k)) = some (.int .i64 l[k]) := by
  have := rd_first (h := h) i1_len (by omega) hk
  simpa [i1] using this
theorem rdB {h : AHeap} {l : List Int} {k : Nat} (hk : k < l.length) : aload h (.rp ((cat b1 l).drop k)) = some (.int .u8 l[k]) := by
  have := rd_first (h := h) b1_len (by omega) hk
  simpa [b1] using this

/-- A long row of zeros. -/
def bigZ (n : Nat) : List AV := List.replicate n (.int .i64 0)
theorem bigZ_len (n : Nat) : (bigZ n).length = n := by simp [bigZ]

theorem w64 {n : Int} (h1 : -9223372036854775808 ≤ n) (h2 : n ≤ 9223372036854775807) : IntKind.i64.wrap n = n := IntWalk.i64_in n ⟨h1, h2⟩
theorem w8 (n : Int) : IntKind.u8.wrap n = n % 256 := by simp [IntKind.wrap, IntKind.signed, IntKind.bits]
theorem wu64 (n : Int) : IntKind.u64.wrap n = n % 18446744073709551616 := by simp [IntKind.wrap, IntKind.signed, IntKind.bits]

theorem wadd1 {k : Nat} (h : k < 9223372036854775807) : IntKind.i64.wrap ((k : Int) + 1) = ((k + 1 : Nat) : Int) := by rw [w64 (by omega) (by omega)]; rfl

theorem take_eq_next {α : Type} {xs ys : List α} {k : Nat} (h1 : k < xs.length) (h2 : k < ys.length) (h : xs.take k = ys.take k) (e : xs[k] = ys[k]) : xs.take (k + 1) = ys.take (k + 1) := by
  rw [List.take_succ_eq_append_getElem h1, List.take_succ_eq_append_getElem h2, h, e]
theorem ne_of_at {α : Type} {xs ys : List α} {k : Nat} (h1 : k < xs.length) (h2 : k < ys.length) (e : xs[k] ≠ ys[k]) : xs ≠ ys := by
  rintro rfl; exact e rfl
theorem ne_of_len {α : Type} {xs ys : List α} (e : xs.length ≠ ys.length) : xs ≠ ys := by rintro rfl; exact e rfl
theorem take_all {α : Type} {p : α → Bool} {l : List α} {k : Nat} (hk : k < l.length) (h : (l.take k).all p = true) : (l.take (k + 1)).all p = p l[k] := by
  rw [List.take_succ_eq_append_getElem hk, List.all_append, h]; simp
theorem all_bad {α : Type} {p : α → Bool} {l : List α} {k : Nat} (hk : k < l.length) (h : p l[k] = false) : l.all p = false := by
  rw [List.all_eq_false]; exact ⟨l[k], List.getElem_mem _, by simp [h]⟩
theorem take_any {α : Type} {p : α → Bool} {l : List α} {k : Nat} (hk : k < l.length) (h : (l.take k).any p = false) : (l.take (k + 1)).any p = p l[k] := by
  rw [List.take_succ_eq_append_getElem hk, List.any_append, h]; simp
theorem any_good {α : Type} {p : α → Bool} {l : List α} {k : Nat} (hk : k < l.length) (h : p l[k] = true) : l.any p = true := by
  rw [List.any_eq_true]; exact ⟨l[k], List.getElem_mem _, h⟩

/-- The place of the first one of which p holds; below 0: there is none. -/
def idxP {α : Type} (p : α → Bool) (l : List α) : Int := (l.findIdx? p).elim (-1) fun i => (i : Int)
theorem idx_hit {α : Type} {p : α → Bool} {l : List α} {k : Nat} (hk : k < l.length) (h : (l.take k).any p = false) (e : p l[k] = true) : idxP p l = k := by
  have : l.findIdx? p = some k := List.findIdx?_eq_some_iff_getElem.2 ⟨hk, e, fun j hj => by
    have h2 := List.any_eq_false.1 h l[j] (List.mem_take_iff_getElem.2 ⟨j, by omega, rfl⟩)
    simpa using h2⟩
  unfold idxP; rw [this]; rfl
theorem idx_none {α : Type} {p : α → Bool} {l : List α} (h : l.any p = false) : idxP p l = -1 := by
  have : l.findIdx? p = none := List.findIdx?_eq_none_iff.2 fun x hx => by simpa using List.any_eq_false.1 h x hx
  unfold idxP; rw [this]; rfl
theorem idxP_any {α : Type} (p : α → Bool) (l : List α) : decide (0 ≤ idxP p l) = l.any p := by
  cases e : l.any p with
  | false => rw [idx_none e]; rfl
  | true =>
    cases e2 : l.findIdx? p with
    | none =>
      rw [List.findIdx?_eq_none_iff] at e2
      obtain ⟨x, hx, hp⟩ := List.any_eq_true.1 e
      rw [e2 x hx] at hp; cases hp
    | some i =>
      have : idxP p l = (i : Int) := by unfold idxP; rw [e2]; rfl
      rw [this]
      exact decide_eq_true (Int.natCast_nonneg _)

section
variable {α : Type} {enc : α → List AV} {esz : Nat} {l : List α} {ex : Bool} {k1 k2 k3 : IntKind}
/-- A part of a slice that stands still. -/
theorem sl_hi (he : ∀ a, (enc a).length = esz) {b : Nat} (hb : b ≤ l.length) : sliceA esz (.ro (cat enc l) l.length ex) none (some (.int k1 (b : Int))) none = some (.ro (cat enc (l.take b)) (l.take b).length (ex && b == l.length)) := by
  simp [sliceA, bnd, hb, cat_take he, Nat.min_eq_left hb]
theorem sl_lo (he : ∀ a, (enc a).length = esz) {a : Nat} (ha : a ≤ l.length) : sliceA esz (.ro (cat enc l) l.length ex) (some (.int k1 (a : Int))) none none = some (.ro (cat enc (l.drop a)) (l.drop a).length ex) := by
  have : (cat enc (l.drop a)).length = (l.length - a) * esz := by rw [cat_len he, List.length_drop]
  simp [sliceA, bnd, ha, cat_drop he, ← this]
theorem sl_lohi (he : ∀ a, (enc a).length = esz) {a b : Nat} (hab : a ≤ b) (hb : b ≤ l.length) : sliceA esz (.ro (cat enc l) l.length ex) (some (.int k1 (a : Int))) (some (.int k2 (b : Int))) none = some (.ro (cat enc ((l.drop a).take (b - a))) ((l.drop a).take (b - a)).length (ex && b == l.length)) := by
  have : min (b - a) (l.length - a) = b - a := by omega
  simp [sliceA, bnd, hb, hab, cat_drop he, cat_take he, this]
theorem sl_3 (he : ∀ a, (enc a).length = esz) {a b c : Nat} (hab : a ≤ b) (hbc : b ≤ c) (hc : c ≤ l.length) : sliceA esz (.ro (cat enc l) l.length ex) (some (.int k1 (a : Int))) (some (.int k2 (b : Int))) (some (.int k3 (c : Int))) = some (.ro (cat enc ((l.drop a).take (b - a))) ((l.drop a).take (b - a)).length (b == c)) := by
  have : min (b - a) (l.length - a) = b - a := by omega
  simp [sliceA, bnd, hc, hbc, hab, cat_drop he, cat_take he, this]
end

/-- All of h but for block p is in H. -/
def SubX (p : Nat) (h H : AHeap) : Prop := ∀ x o, x ≠ p → h x = some o → H x = some o
theorem SubX.refl {p : Nat} {h : AHeap} : SubX p h h := fun _ _ _ e => e
theorem SubX.updp {p : Nat} {h H : AHeap} {o : AObj} (s : SubX p h H) : SubX p h (upd H p o) := fun x q hx e => by rw [upd_ne hx]; exact s x q hx e
theorem SubX.upd {p id : Nat} {h H : AHeap} {o : AObj} (s : SubX p h H) (hid : h id = none) : SubX p h (E.upd H id o) := fun x q hx e => by
  rw [upd_ne (by rintro rfl; rw [hid] at e; cases e)]; exact s x q hx e
theorem SubX.del {p id : Nat} {h H : AHeap} (s : SubX p h H) (hid : h id = none) : SubX p h (E.del H id) := fun x q hx e => by
  unfold E.del; rw [if_neg (by rintro rfl; rw [hid] at e; cases e)]; exact s x q hx e
theorem del_ne {h : AHeap} {x y : Nat} (e : y ≠ x) : E.del h x y = h y := by unfold E.del; rw [if_neg e]
theorem SubX.fz2 {p : Nat} {h H : AHeap} {X : AObj} (hp : H p = some X) (s : SubX p h H) : FzH H (E.upd h p X) := FzH.sub fun x o e => by
  by_cases hx : x = p
  · subst hx; rw [upd_same] at e; cases e; exact hp
  · rw [upd_ne hx] at e; exact s x o hx e
theorem SubX.fz {p : Nat} {h H : AHeap} {X : AObj} (s : SubX p h H) : FzH (E.upd H p X) (E.upd h p X) := FzH.sub fun x o e => by
  by_cases hx : x = p
  · subst hx; rw [upd_same] at e ⊢; exact e
  · rw [upd_ne hx] at e ⊢; exact s x o hx e

/-- nil or not: what holds of both holds of a slice of no elements. -/
theorem VRs_mid {W0 : World} : ∀ {pre : List AV} {x : AV} {post : List AV} {l : List Value}, VRs W0 (pre ++ x :: post) l → ∃ a v b, l = a ++ v :: b ∧ VRs W0 pre a ∧ VR W0 x v ∧ VRs W0 post b := by
  intro pre x post l h
  obtain ⟨a, b, rfl, h1, h2⟩ := VRs_split h
  simp only [VRs] at h2
  obtain ⟨v, b', rfl, h3, h4⟩ := h2
  exact ⟨a, v, b', rfl, h1, h3, h4⟩

theorem CallsA.nils {P : Program} {f : FuncId} {pre post : List AV} {ex : Bool} {h : AHeap} {K : AV → AHeap → Prop} (h1 : CallsA P f (pre ++ .nils :: post) h K) (h2 : CallsA P f (pre ++ .rz :: post) h K) : CallsA P f (pre ++ .ro [] 0 ex :: post) h K := by
  refine ⟨h1.1, fun W0 w cargs hrel hargs => ?_⟩
  obtain ⟨a, v, b, e, g1, g2, g3⟩ := VRs_mid hargs
  simp only [VR] at g2
  rcases g2 with ⟨p, cap, l, rfl, _⟩ | ⟨_, _, rfl⟩
  · exact h2.2 W0 w cargs hrel (by rw [e]; exact VRs_append g1 (VRs_cons (by simp only [VR]; exact ⟨p, cap, rfl⟩) g3))
  · exact h1.2 W0 w cargs hrel (by rw [e]; exact VRs_append g1 (VRs_cons (by simp only [VR]) g3))

/-- Two slices that one builds at the same time. -/
theorem Grow.swap {h h1 h2 : AHeap} {e1 e2 n1 n2 : Nat} {v1 v2 : AV} {c1 c2 : List AV} (g1 : Grow h e1 v1 c1 n1 h1) (g2 : Grow h1 e2 v2 c2 n2 h2) : ∃ h1', Grow h e2 v2 c2 n2 h1' ∧ Grow h1' e1 v1 c1 n1 h2 := by
  rcases g1.how with ⟨a1, a2, rfl⟩ | ⟨a1, rfl⟩ | ⟨id, cap, junk, tot, a1, a2, hT, hid, rfl⟩
  · exact ⟨h2, g2, g1.size, g1.sca, .inl ⟨a1, a2, rfl⟩⟩
  · exact ⟨h2, g2, g1.size, g1.sca, .inr (.inl ⟨a1, rfl⟩)⟩
  · rcases g2.how with ⟨b1, b2, rfl⟩ | ⟨b1, rfl⟩ | ⟨id2, cap2, junk2, tot2, b1, b2, hT2, hid2, rfl⟩
    · exact ⟨h, ⟨g2.size, g2.sca, .inl ⟨b1, b2, rfl⟩⟩, g1⟩
    · exact ⟨h, ⟨g2.size, g2.sca, .inr (.inl ⟨b1, rfl⟩)⟩, g1⟩
    · have hne : id2 ≠ id := by rintro rfl; simp [upd] at hid2
      rw [upd_ne hne] at hid2
      exact ⟨upd h id2 (.cells (c2 ++ junk2) tot2), ⟨g2.size, g2.sca, .inr (.inr ⟨id2, cap2, junk2, tot2, b1, b2, hT2, hid2, rfl⟩)⟩, g1.size, g1.sca, .inr (.inr ⟨id, cap, junk, tot, a1, a2, hT, by rw [upd_ne hne.symm]; exact hid, upd_comm hne.symm⟩)⟩

mutual
theorem Fz_mono {h h' k k' : AHeap} (s : Sub h h') (q : Sub k' k) : ∀ {x y : AV}, Fz h k x y → Fz h' k' x y
  | _, _, .refl x => .refl x
  | _, _, .undef x => .undef x
  | _, _, .sl n h1 h2 h3 h4 h5 => .sl n (s _ _ h1) (q.isNone h2) h3 (FzL_mono s q h4) h5
  | _, _, .ptr n h1 h2 h3 h4 => .ptr n (s _ _ h1) (q.isNone h2) h3 (FzL_mono s q h4)
  | _, _, .nils => .nils
  | _, _, .ro h1 h2 => .ro (FzL_mono s q h1) h2
  | _, _, .rp h1 => .rp (FzL_mono s q h1)
  | _, _, .agg h1 => .agg (FzL_mono s q h1)
  | _, _, .tup h1 => .tup (FzL_mono s q h1)
  | _, _, .fn h1 => .fn (FzL_mono s q h1)
theorem FzL_mono {h h' k k' : AHeap} (s : Sub h h') (q : Sub k' k) : ∀ {x y : List AV}, FzL h k x y → FzL h' k' x y
  | _, _, .nil => .nil
  | _, _, .cons a b => .cons (Fz_mono s q a) (FzL_mono s q b)
end

theorem loop_rh {body : PostA → List AV → AHeap → Prop} {Q : PostA} {s : List AV} {h : AHeap} (ds : List Nat) (n : Nat) (f : Nat → List AV → List AV) (I : Nat → AHeap → Prop)
    (h0 : kill ds s = f 0 (kill ds s)) (i0 : I 0 h) (round : ∀ (N : List AV → AHeap → Prop) k h', k ≤ n → I k h' → (∀ s' h'' h2, k < n → kill ds s' = f (k + 1) (kill ds s) → FzH h'' h2 → I (k + 1) h2 → N s' h'') → body (thenA N Q) (f k (kill ds s)) h') : loopA body Q s h :=
  loop_sh ds (fun k => n - k) f (fun k h => k ≤ n ∧ I k h) 0 h0 ⟨Nat.zero_le _, i0⟩ fun N k h' hi hN => round N k h' hi.1 hi.2 fun s' h'' h2 hk e z i => hN (k + 1) s' h'' h2 (by omega) e z ⟨hk, i⟩

theorem if_min (a b : Int) : (if b < a then b else a) = min a b := by omega
theorem if_max (a b : Int) : (if a < b then b else a) = max a b := by omega

attribute [go_sem] w64 Int.cast_ofNat_Int Int.natCast_zero Int.natCast_inj Int.ofNat_lt Int.ofNat_le Int.natCast_nonneg Int.toNat_natCast Nat.mul_one decide_true decide_false Bool.not_true Bool.not_false Bool.false_eq_true if_true if_false true_and and_true and_self Bool.and_true Bool.true_and Bool.and_self upd_upd

end Go.Proofs.YteijaibggalapaaGreatDoor.E
