/-
  strings.Join and strconv.Itoa as the evaluator answers them; the law's own examples, run by the kernel.
-/
import Derived.Test.YteijaibggalapaaGreatDoorWa
import Derived.KernelRfl
namespace Go.Proofs.YteijaibggalapaaGreatDoor
open Go E Go.RowKit
set_option linter.unusedVariables false
set_option maxRecDepth 100000

namespace E
def strsOf : List AV → Option (List ByteArray)
  | [] => some []
  | .str b :: l => match strsOf l with
    | some xs => some (b :: xs)
    | none => none
  | _ => none

theorem strsOf_ren {E : List Blk} : ∀ {cs cs' : List AV} {xs : List ByteArray}, strsOf cs = some xs → Rens E cs cs' → cs' = cat s1 xs
  | [], _, xs, e, .nil => by simp only [strsOf, Option.some.injEq] at e; subst e; rfl
  | x :: cs, _, xs, e, .cons r rs => by
    unfold strsOf at e
    split at e
    · rename_i hh; cases hh
    · rename_i b l hh
      cases hh
      split at e
      · rename_i ys hy
        cases e
        rw [r.leaf_eq rfl, strsOf_ren hy rs]; rfl
      · cases e
    · cases e

theorem s1_cat_len (xs : List ByteArray) : (cat s1 xs).length = xs.length := by simpa using cat_len s1_len (l := xs)
end E

/-- What the library answers, for the evaluator. -/
def libX : E.Call := fun g args H =>
  bif Nat.beq g 12 then
    (match args with
    | [.nils, .str sep] => some (.str ⟨#[]⟩, H)
    | [.sl i off n c, .str sep] => (match H.get (i / 2) with
      | .cells cs _ => if off + n ≤ cs.length then (match strsOf ((cs.drop off).take n) with
        | some xs => bif Nat.ble n 140737488355328 && Nat.ble (Lib.join (xs.map (·.data.toList)) sep.data.toList).length 140737488355328 then some (.str ⟨(Lib.join (xs.map (·.data.toList)) sep.data.toList).toArray⟩, H) else none
        | none => none) else none
      | _ => none)
    | _ => none)
  else bif Nat.beq g 23 then
    (match args with
    | [.int .i64 n] => if -9223372036854775808 ≤ n ∧ n ≤ 9223372036854775807 then some (.str ⟨(Lib.itoa n).toArray⟩, H) else none
    | _ => none)
  else none

theorem libX_ok : CallOK Tryz.prog libX := by
  intro g args H v H' q E args' h base K ra m k
  unfold libX at q
  cases e1 : Nat.beq g 12 with
  | true =>
    rw [e1] at q
    obtain rfl := Nat.eq_of_beq_eq_true e1
    simp only [cond_true] at q
    split at q
    · rename_i sep
      cases q
      obtain ⟨a, b, rfl, r1, r2⟩ := ra.inv2
      rw [r1.leaf_eq rfl, r2.leaf_eq rfl]
      exact (join_nil sep h).use (k.here (.leaf rfl) m)
    · rename_i i off n c sep
      obtain ⟨a, b, rfl, r1, r2⟩ := ra.inv2
      rw [r2.leaf_eq rfl]
      split at q
      rotate_left
      · cases q
      rename_i cs ez hc
      cases r1 with
      | leaf hl => cases hl
      | sl q1 q0 q2 q3 =>
        rename_i c' b
        obtain ⟨_, _, _, pre, csR, post, g1, g2, g3⟩ := m.cells q1 hc
        have hcl := g3.length
        split at q
        rotate_left
        · cases q
        rename_i hh
        split at q
        rotate_left
        · cases q
        rename_i xs hx
        have h5 := strsOf_ren hx ((g3.drop off).take n)
        have hn : xs.length = n := by
          have := congrArg List.length h5
          rw [s1_cat_len, List.length_take, List.length_drop] at this; omega
        subst hn
        cases h6 : (Nat.ble xs.length 140737488355328 && Nat.ble (Lib.join (xs.map (·.data.toList)) sep.data.toList).length 140737488355328) with
        | false => rw [h6] at q; cases q
        | true =>
          rw [h6] at q
          simp only [cond_true] at q
          cases q
          simp only [Bool.and_eq_true] at h6
          exact (join_at (fun a b => Nat.le_refl 0) ljoin bExtra Tryz.func12 rfl (by decide) sep (off := off + b.sh) g1 (by rw [← g2, mid_take (by omega)]; exact h5) (Nat.le_of_ble_eq_true h6.1) (Nat.le_of_ble_eq_true h6.2)).use (k.here (.leaf rfl) m)
    · cases q
  | false =>
    rw [e1] at q
    simp only [cond_false] at q
    cases e2 : Nat.beq g 23 with
    | true =>
      rw [e2] at q
      obtain rfl := Nat.eq_of_beq_eq_true e2
      simp only [cond_true] at q
      split at q
      · rename_i n
        split at q
        · rename_i hh
          cases q
          obtain ⟨a, rfl, r1⟩ := ra.inv1
          rw [r1.leaf_eq rfl]
          exact (itoa_spec n hh.1 hh.2 h).use (k.here (.leaf rfl) m)
        · cases q
      · cases q
    | false => rw [e2] at q; cases q

theorem known_spec (h : AHeap) : PureA Tryz.prog 5 [] h (.bool true) := run_pure libX_ok (f := 1000) rfl rfl (by kernel_rfl) h

end Go.Proofs.YteijaibggalapaaGreatDoor
