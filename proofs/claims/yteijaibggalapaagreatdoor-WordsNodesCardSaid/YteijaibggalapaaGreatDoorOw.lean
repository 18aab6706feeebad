/-
  Slices of one's own: what is read and written in place; parts of them.
-/
import Derived.Test.YteijaibggalapaaGreatDoorEQ
namespace Go.Proofs.YteijaibggalapaaGreatDoor
open Go E
set_option linter.unusedVariables false
set_option linter.unusedSimpArgs false

section
variable {α : Type} {enc : α → List AV} {esz : Nat} {h0 : AHeap} {id tot : Nat} {junk : List AV}

theorem own_at (he : ∀ a, (enc a).length = esz) {A B : List α} {x : α} : aloads (upd h0 id (.cells (cat enc (A ++ x :: B) ++ junk) tot)) esz (.ptr id (A.length * esz)) = some (enc x) := by
  have h1 : (cat enc (A ++ x :: B)).length = A.length * esz + (esz + B.length * esz) := by rw [cat_len he, List.length_append, List.length_cons, Nat.add_mul, Nat.succ_mul]; omega
  simp only [aloads, upd_same, List.length_append]
  rw [if_pos (by omega), List.drop_append_of_le_length (by omega), cat_append, cat_cons]
  have h2 := cat_len he A
  rw [← h2, List.drop_left, ← he x, List.append_assoc, List.take_left]

theorem own_put (he : ∀ a, (enc a).length = esz) {A B : List α} {x y : α} : awrite (upd h0 id (.cells (cat enc (A ++ x :: B) ++ junk) tot)) (.ptr id (A.length * esz)) (enc y) = some (upd h0 id (.cells (cat enc (A ++ y :: B) ++ junk) tot)) := by
  have h1 : (cat enc (A ++ x :: B)).length = A.length * esz + (esz + B.length * esz) := by rw [cat_len he, List.length_append, List.length_cons, Nat.add_mul, Nat.succ_mul]; omega
  have h2 := cat_len he A
  simp only [awrite, upd_same, List.length_append, upd_upd]
  rw [if_pos (by rw [he]; omega)]
  congr 3
  simp only [splice, cat_append, cat_cons, List.append_assoc]
  rw [← h2, List.take_left, ← List.drop_drop, List.drop_left, he, ← he x, List.drop_left]

/-- What stands in a part of it. -/
theorem own_part (he : ∀ a, (enc a).length = esz) {L : List α} {a m c : Nat} (hm : a + m ≤ L.length) : acells (upd h0 id (.cells (cat enc L ++ junk) tot)) esz (.sl id (a * esz) m c) = some (cat enc ((L.drop a).take m)) := by
  have h1 := cat_len he L
  have h2 : a * esz + m * esz ≤ L.length * esz := by rw [← Nat.add_mul]; exact Nat.mul_le_mul_right _ hm
  simp only [acells, upd_same, List.length_append]
  rw [if_pos (by omega), List.drop_append_of_le_length (by omega), List.take_append_of_le_length (by rw [List.length_drop]; omega), cat_drop he, cat_take he]
theorem own_part0 {cs : List AV} {a c : Nat} (ha : a ≤ cs.length) : acells (upd h0 id (.cells cs tot)) esz (.sl id a 0 c) = some [] := by
  simp only [acells, upd_same]
  rw [if_pos (by omega)]; simp
end

theorem splice_mid {P Q S : List AV} {off : Nat} (h : P.length = off) : splice (P ++ Q) off S = P ++ (S ++ Q.drop S.length) := by
  subst h
  unfold splice
  rw [List.take_left, List.drop_length_add_append, List.append_assoc]

/-- What stands in a part of a block. -/
theorem part_at {h : AHeap} {esz id a m c tot : Nat} {P Q R : List AV} (hid : h id = some (.cells (P ++ (Q ++ R)) tot)) (hP : P.length = a) (hQ : Q.length = m * esz) : acells h esz (.sl id a m c) = some Q := by
  subst hP
  simp only [acells, hid, List.length_append]
  rw [if_pos (by omega), List.drop_left, ← hQ, List.take_left]

/-- 'copy' into a part of a block. -/
theorem copy_at {h : AHeap} {esz id off n c tot : Nat} {P Q new : List AV} {y : AV} {K : AV → AHeap → Prop} (hid : h id = some (.cells (P ++ Q) tot)) (hP : P.length = off) (hQ : n * esz ≤ Q.length) (hy : acells h esz y = some new)
    (hs : (new.take (Nat.min (slen y) n * esz)).all scalar = true)
    (k : K (.int .i64 (Nat.min (slen y) n : Nat)) (upd h id (.cells (P ++ (new.take (Nat.min (slen y) n * esz) ++ Q.drop (new.take (Nat.min (slen y) n * esz)).length)) tot))) : copyA h esz (.sl id off n c) y K :=
  ⟨new, hy, P ++ Q, tot, hid, by rw [List.length_append]; omega, hs, by rw [splice_mid hP]; exact k⟩

section
variable {esz id n cap : Nat} {k1 k2 k3 : IntKind}
theorem own_lohi {a b : Nat} (ha : a < cap) (hab : a ≤ b) (hb : b ≤ cap) : sliceA esz (.sl id 0 n cap) (some (.int k1 (a : Int))) (some (.int k2 (b : Int))) none = some (.sl id (a * esz) (b - a) (cap - a)) := by
  simp [sliceA, bnd, hb, hab, show ¬ cap = a by omega]
theorem own_lo {a : Nat} (ha : a < cap) (hab : a ≤ n) (hb : n ≤ cap) : sliceA esz (.sl id 0 n cap) (some (.int k1 (a : Int))) none none = some (.sl id (a * esz) (n - a) (cap - a)) := by
  simp [sliceA, bnd, hb, hab, show ¬ cap = a by omega]
theorem own_lo0 : sliceA esz (.sl id 0 n n) (some (.int k1 (n : Int))) none none = some (.sl id 0 0 0) := by
  simp [sliceA, bnd]
theorem own_hi {b : Nat} (hb : b ≤ cap) : sliceA esz (.sl id 0 n cap) none (some (.int k2 (b : Int))) none = some (.sl id 0 b cap) := by
  simp [sliceA, bnd, hb]
theorem own_3 {a b c : Nat} (ha : a < c) (hab : a ≤ b) (hb : b ≤ c) (hc : c ≤ cap) : sliceA esz (.sl id 0 n cap) (some (.int k1 (a : Int))) (some (.int k2 (b : Int))) (some (.int k3 (c : Int))) = some (.sl id (a * esz) (b - a) (c - a)) := by
  simp [sliceA, bnd, hb, hab, hc, show ¬ c = a by omega]
end

/-- It may be written to. -/
def Wr (v : AV) : Prop := ∀ cs n ex, v ≠ .ro cs n ex
theorem Wr.nils : Wr .nils := fun _ _ _ e => by cases e
theorem Wr.sl {a b c d : Nat} : Wr (.sl a b c d) := fun _ _ _ e => by cases e
/-- One element more, and it may be written to. -/
theorem E.Grow.add1W {h0 h : AHeap} {esz n : Nat} {v : AV} {cs : List AV} {b : Nat} {x : List AV} {ex : Bool} {K : AV → AHeap → Prop} (c : Grow h0 esz v cs n h) (hl : x.length = esz) (hs : x.all scalar = true) (hb : (n + 1) * b ≤ 70368744177664)
    (k : ∀ v' h', Grow h0 esz v' (cs ++ x) (n + 1) h' → Wr v' → K v' h') : appendA h esz b v (.ro x 1 ex) K :=
  c.appendS (m := 1) (by simp only [E.acells]; rw [if_pos (by omega)]) rfl (by omega) (by omega) hs hb fun id cap junk tot hcap hT hid =>
    k _ _ ⟨by rw [List.length_append, c.size, hl, Nat.succ_mul], by rw [List.all_append, c.sca, hs]; rfl, .inr (.inr ⟨id, cap, junk, tot, rfl, hcap, hT, hid, rfl⟩)⟩ Wr.sl

/-- An element of it. -/
theorem E.Grow.at {α : Type} {enc : α → List AV} {esz : Nat} {l : List α} {h0 h h' : AHeap} {v : AV} {K : AV → AHeap → Prop} {k : IntKind} {i : Nat} (c : Grow h0 esz v (cat enc l) l.length h) (w : Wr v) (he : ∀ a, (enc a).length = esz) (hi : i < l.length)
    (hK : ∀ id, (∀ off, off < esz → aload h (.ptr id (i * esz + off)) = (enc l[i])[off]?) → aloads h esz (.ptr id (i * esz)) = some (enc l[i]) → K (.ptr id (i * esz)) h') : idxK esz v (.int k (i : Int)) K h' := by
  have hcl := cat_len he l
  have hle : i * esz + esz ≤ (cat enc l).length := by rw [hcl, ← Nat.succ_mul]; exact Nat.mul_le_mul_right _ hi
  rcases c.how with ⟨rfl, e, _⟩ | ⟨rfl, rfl⟩ | ⟨id, cap, junk, tot, rfl, hc, hT, hid, rfl⟩
  · omega
  · exact absurd rfl (w _ _ _)
  · have := hK id (fun off ho => ?_) ?_
    · refine ⟨⟨Int.natCast_nonneg _, by omega⟩, ?_⟩
      simpa using this
    · simp only [aload, upd_same]
      rw [List.getElem?_append_left (by omega), cat_get he hi ho]
    · simp only [aloads, upd_same]
      rw [if_pos (by rw [List.length_append]; omega), List.drop_append_of_le_length (by omega), List.take_append_of_le_length (by rw [List.length_drop]; omega), cat_at he hi, ← he l[i], List.take_left]

/-- 'append' that finds room. -/
theorem append_in {h0 : AHeap} {esz n m b id cap tot : Nat} {cs junk ys : List AV} {y : AV} {K : AV → AHeap → Prop} (hc : cs.length = n * esz)
    (hy : acells (upd h0 id (.cells (cs ++ junk) tot)) esz y = some ys) (hm : slen y = m) (hl : ys.length = m * esz) (hs : ys.all scalar = true) (hb : (n + m) * b ≤ 70368744177664) (hcap : n + m ≤ cap) (hT : cap * esz ≤ tot)
    (k : K (.sl id 0 (n + m) cap) (upd h0 id (.cells (cs ++ (ys ++ junk.drop ys.length)) tot))) : appendA (upd h0 id (.cells (cs ++ junk) tot)) esz b (.sl id 0 n cap) y K := by
  refine ⟨cs, ys, ?_, hy, by rw [hm]; exact hb, fun e => ?_, fun e => ?_⟩
  · simp only [acells, upd_same, Nat.zero_add, ← hc, List.length_append, Nat.le_add_right, if_true, List.drop_zero, List.take_left]
  · rw [hm] at e; subst e
    have : ys = [] := by simpa using hl
    subst this; simpa using k
  · rw [hm]
    refine ⟨cs ++ junk, tot, upd_same, by omega, fun _ => ⟨hs, ?_⟩, fun hlt => by omega⟩
    have hsp : splice (cs ++ junk) (0 + n * esz) ys = cs ++ (ys ++ junk.drop ys.length) := by
      rw [Nat.zero_add, ← hc]
      unfold splice
      rw [List.take_left, List.drop_append]
      have : List.drop (cs.length + ys.length) cs = [] := List.drop_of_length_le (by omega)
      rw [this, Nat.add_sub_cancel_left]; simp
    rw [hsp, upd_upd]
    exact k

end Go.Proofs.YteijaibggalapaaGreatDoor
