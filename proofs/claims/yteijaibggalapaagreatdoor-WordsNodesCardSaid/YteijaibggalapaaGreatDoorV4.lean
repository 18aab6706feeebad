/-
  What the evaluator does at slices, copies and maps; one operation.
-/
import Derived.Test.YteijaibggalapaaGreatDoorV3
namespace Go.Proofs.YteijaibggalapaaGreatDoor.E
open Go
set_option linter.unusedVariables false
set_option linter.unusedSimpArgs false

section
variable {E : List Blk} {H : LH} {h base : AHeap}

def sliceL (H : LH) (esz : Nat) (x : AV) (lo hi mx : Option AV) : Option (AV × LH) :=
  match x with
  | .sl i off len cap =>
    if mx.isSome then
      if hi.isNone then none else
      match bnd mx cap cap with
      | none => none
      | some m => match bnd hi m len with
        | none => none
        | some h => match bnd lo h 0 with
          | none => none
          | some l => some (.sl (2 * (i / 2) + 1) (if m = l then off else off + l * esz) (h - l) (m - l), H)
    else
      match bnd hi cap len with
      | none => none
      | some h => match bnd lo h 0 with
        | none => none
        | some l =>
          if i % 2 = 1 then some (.sl i (if cap = l then off else off + l * esz) (h - l) (cap - l), H)
          else match H.get (i / 2) with
            | .cells cs esz' =>
              if esz' = esz ∧ off + cap * esz ≤ cs.length then
                if l < cap then some (.sl i (off + l * esz) (h - l) (cap - l), H)
                else if l = cap ∧ h = l ∧ H.room = true then some (.sl (2 * H.n) 0 0 0, H.push .dead)
                else none
              else none
            | _ => none
  | .ro .. | .nils | .rz => (sliceA esz x lo hi mx).map fun v => (v, H)
  | _ => none

theorem bnd_up {o : Option AV} {y y' d m : Nat} (h : bnd o y d = some m) (hy : y ≤ y') : bnd o y' d = some m := by
  unfold bnd at h ⊢
  split at h
  · exact h
  · split at h
    · rename_i hh; rw [if_pos ⟨hh.1, by omega⟩]; exact h
    · cases h
  · cases h
theorem bnd_le {o : Option AV} {y d m : Nat} (h : bnd o y d = some m) (ho : o.isSome) : m ≤ y := by
  unfold bnd at h
  split at h
  · cases ho
  · split at h
    · cases h; omega
    · cases h
  · cases h
theorem bnd_y {o : Option AV} {y d d' m : Nat} (h : bnd o y d = some m) (ho : o.isSome) : bnd o y d' = some m := by
  unfold bnd at h ⊢
  split at h
  · cases ho
  · exact h
  · cases h
theorem bnd_none {y d : Nat} : bnd none y d = some d := rfl

theorem slice_ren (m : MtH E H h base) {esz : Nat} {x x' v : AV} {e e' : AArg → AV} {lo hi mx : Option AArg} {H' : LH} {K : AV → AHeap → Prop} (rx : Ren E x x')
    (hlo : ∀ x ∈ lo.toList, Ren E (e x) (e' x)) (hhi : ∀ x ∈ hi.toList, Ren E (e x) (e' x)) (hmx : ∀ x ∈ mx.toList, Ren E (e x) (e' x))
    (q : sliceL H esz x (lo.map e) (hi.map e) (mx.map e) = some (v, H')) (k : Then E base v H' K) : ∃ v', sliceA esz x' (lo.map e') (hi.map e') (mx.map e') = some v' ∧ K v' h := by
  have iso : ∀ (o : Option AArg), (o.map e').isSome = (o.map e).isSome := fun o => by cases o <;> rfl
  have ino : ∀ (o : Option AArg), (o.map e').isNone = (o.map e).isNone := fun o => by cases o <;> rfl
  cases rx with
  | leaf hl =>
    cases x <;> first | (cases hl; done) | (cases q; done) | skip
    · simp only [sliceL, Option.map_eq_some_iff, Prod.mk.injEq] at q
      obtain ⟨u, hu, rfl, rfl⟩ := q
      unfold sliceA at hu ⊢
      rw [iso, ino]
      split at hu
      · cases hu
      · rename_i hc; rw [if_neg hc]
        simp only at hu ⊢
        split at hu
        · rename_i h1 h2 h3
          cases hu
          rw [bnd_ren hmx h1, bnd_ren hhi h2, bnd_ren hlo h3]
          exact ⟨_, rfl, k.here (.leaf rfl) m⟩
        · cases hu
    · simp only [sliceL, Option.map_eq_some_iff, Prod.mk.injEq] at q
      obtain ⟨u, hu, rfl, rfl⟩ := q
      unfold sliceA at hu ⊢
      rw [iso, ino]
      split at hu
      · cases hu
      · rename_i hc; rw [if_neg hc]
        simp only at hu ⊢
        split at hu
        · rename_i h1 h2 h3
          cases hu
          rw [bnd_ren hmx h1, bnd_ren hhi h2, bnd_ren hlo h3]
          exact ⟨_, rfl, k.here (.ro .nil) m⟩
        · cases hu
  | ro r =>
    rename_i cs cs' n ex
    simp only [sliceL, Option.map_eq_some_iff, Prod.mk.injEq] at q
    obtain ⟨u, hu, rfl, rfl⟩ := q
    unfold sliceA at hu ⊢
    rw [iso, ino]
    split at hu
    · cases hu
    · rename_i hc; rw [if_neg hc]
      simp only at hu ⊢
      split at hu
      · cases hu
      · rename_i a h1
        rw [bnd_ren hmx h1]; simp only
        split at hu
        · cases hu
        · rename_i b h2
          rw [bnd_ren hhi h2]; simp only
          split at hu
          · cases hu
          · rename_i c h3
            rw [bnd_ren hlo h3]; simp only
            cases hu
            exact ⟨_, rfl, k.here (.ro ((r.drop _).take _)) m⟩
  | sl q1 q0 q2 q3 =>
    rename_i i off n c c' b
    have hcc : c ≤ c' := by
      rcases Nat.mod_two_eq_zero_or_one i with hi' | hi'
      · have := (q3 hi').1; omega
      · have := q2 hi'; omega
    simp only [sliceL] at q
    simp only [sliceA]
    split at q
    · rename_i hm
      have hm' : (mx.map e').isSome = true := by rw [iso]; exact hm
      split at q
      · cases q
      · rename_i hn
        rw [if_neg (by rw [iso, ino]; simp [hn])]
        split at q
        · cases q
        · rename_i a h1
          rw [bnd_up (bnd_y (bnd_ren hmx h1) hm') hcc]; simp only
          split at q
          · cases q
          · rename_i d h2
            rw [bnd_ren hhi h2]; simp only
            split at q
            · cases q
            · rename_i l h3
              rw [bnd_ren hlo h3]; simp only
              cases q
              refine ⟨_, rfl, k.here ?_ m⟩
              have := Ren.sl (E := E) (i := 2 * (i / 2) + 1) (o := if a = l then off else off + l * esz) (n := d - l) (c := a - l) (c' := a - l) (b := b) (by rw [show (2 * (i / 2) + 1) / 2 = i / 2 by omega]; exact q1) q0 (fun _ => rfl) (fun hh => by omega)
              have e9 : (if a = l then off else off + l * esz) + b.sh = if a = l then off + b.sh else off + b.sh + l * esz := by split <;> omega
              rw [← e9]; exact this
    · rename_i hm
      have hmn : mx.map e = none := by cases mx <;> first | rfl | simp at hm
      have hmn' : mx.map e' = none := by cases mx <;> first | rfl | simp at hm
      rw [hmn', if_neg (by simp)]
      rw [bnd_none]; simp only
      split at q
      · cases q
      · rename_i d h2
        rw [bnd_up (bnd_ren hhi h2) hcc]; simp only
        split at q
        · cases q
        · rename_i l h3
          rw [bnd_ren hlo h3]; simp only
          split at q
          · rename_i hi1
            have := q2 hi1; subst this
            cases q
            refine ⟨_, rfl, k.here ?_ m⟩
            have e9 : (if c' = l then off else off + l * esz) + b.sh = if c' = l then off + b.sh else off + b.sh + l * esz := by split <;> omega
            rw [← e9]
            exact .sl q1 q0 (fun _ => rfl) (fun hh => by omega)
          · rename_i hi1
            have hi0 : i % 2 = 0 := by omega
            obtain ⟨r1, r2⟩ := q3 hi0
            split at q
            rotate_left
            · cases q
            rename_i cs esz' hc
            obtain ⟨h0, he, ht, pre, csR, post, g1, g2, g3⟩ := m.cells q1 hc
            split at q
            rotate_left
            · cases q
            rename_i hh
            rw [he, hh.1] at r2
            split at q
            · rename_i hlt
              cases q
              refine ⟨_, rfl, k.here ?_ m⟩
              rw [if_neg (by omega), show off + b.sh + l * esz = off + l * esz + b.sh by omega]
              refine .sl q1 q0 (fun hh => by omega) (fun _ => ⟨by omega, ?_⟩)
              rw [he, hh.1]
              have : l * esz + (c' - l) * esz = c' * esz := by rw [← Nat.add_mul]; congr 1; omega
              omega
            · split at q
              rotate_left
              · cases q
              rename_i hlc
              obtain ⟨hl1, hl2, hr⟩ := hlc
              subst hl2
              cases q
              have hcl := g3.length
              obtain ⟨o2, ho2⟩ : ∃ o2, o2 = if c' = d then off + b.sh else off + b.sh + d * esz := ⟨_, rfl⟩
              have ho3 : o2 ≤ off + b.sh + d * esz := by rw [ho2]; split <;> omega
              refine ⟨_, rfl, ?_⟩
              rw [← ho2, Nat.sub_self]
              have hdc : d * esz = c * esz := by rw [hl1]
              have hbnd : o2 + (c' - d) * esz ≤ b.tot := by
                rw [ho2]
                split
                · rename_i e5; rw [e5]; simp; omega
                · have : d * esz + (c' - d) * esz = c' * esz := by rw [← Nat.add_mul]; congr 1; omega
                  omega
              have hk : E.length = H.n := m.len
              refine k [⟨b.id, o2, esz, b.tot, c' - d, false⟩] _ _ ?_ (m.alias hr (.inl ⟨rfl, _, g1, by simp; omega⟩))
              have := Ren.sl (E := E ++ [⟨b.id, o2, esz, b.tot, c' - d, false⟩]) (i := 2 * H.n) (o := 0) (n := 0) (c := 0) (c' := c' - d) (b := ⟨b.id, o2, esz, b.tot, c' - d, false⟩) (by rw [show 2 * H.n / 2 = E.length by omega]; exact snoc_get _) rfl (fun hh => by omega) (fun _ => ⟨by simp, by simpa using hbnd⟩)
              simpa using this
  | _ => cases q

def arrL (n esz : Nat) (x : AV) (lo hi mx : Option AV) : Option AV :=
  match arrA n esz x lo hi mx with
  | some (.sl i o l c) => some (.sl (2 * (i / 2) + 1) o l c)
  | some (.ro cs l e) => some (.ro cs l e)
  | _ => none

theorem arr_ren {n esz : Nat} {x x' v : AV} {e e' : AArg → AV} {lo hi mx : Option AArg} (hm : ∀ i o, x = .ptr i o → ∃ b, E[i / 2]? = some b ∧ b.mp = false) (rx : Ren E x x')
    (hlo : ∀ x ∈ lo.toList, Ren E (e x) (e' x)) (hhi : ∀ x ∈ hi.toList, Ren E (e x) (e' x)) (hmx : ∀ x ∈ mx.toList, Ren E (e x) (e' x))
    (q : arrL n esz x (lo.map e) (hi.map e) (mx.map e) = some v) : ∃ v', arrA n esz x' (lo.map e') (hi.map e') (mx.map e') = some v' ∧ Ren E v v' := by
  have iso : ∀ (o : Option AArg), (o.map e').isSome = (o.map e).isSome := fun o => by cases o <;> rfl
  have ino : ∀ (o : Option AArg), (o.map e').isNone = (o.map e).isNone := fun o => by cases o <;> rfl
  unfold arrL arrA at q
  unfold arrA
  rw [iso, ino]
  by_cases hc : ((mx.map e).isSome && (hi.map e).isNone) = true
  · rw [if_pos hc] at q; cases q
  rw [if_neg hc] at q ⊢
  cases h1 : bnd (mx.map e) n n with
  | none => rw [h1] at q; cases q
  | some a =>
    rw [h1] at q; rw [bnd_ren hmx h1]; simp only at q ⊢
    cases h2 : bnd (hi.map e) a n with
    | none => rw [h2] at q; cases q
    | some d =>
      rw [h2] at q; rw [bnd_ren hhi h2]; simp only at q ⊢
      cases h3 : bnd (lo.map e) d 0 with
      | none => rw [h3] at q; cases q
      | some l =>
        rw [h3] at q; rw [bnd_ren hlo h3]; simp only at q ⊢
        cases rx with
        | leaf hl => cases x <;> first | (cases hl; done) | (cases q; done)
        | ptr q1 =>
          rename_i i o b
          obtain ⟨b', hb1, hb2⟩ := hm i o rfl
          rw [q1] at hb1; cases hb1
          cases q
          refine ⟨_, rfl, ?_⟩
          have := Ren.sl (E := E) (i := 2 * (i / 2) + 1) (o := if a = l then o else o + l * esz) (n := d - l) (c := a - l) (c' := a - l) (b := b) (by rw [show (2 * (i / 2) + 1) / 2 = i / 2 by omega]; exact q1) hb2 (fun _ => rfl) (fun hh => by omega)
          have e9 : (if a = l then o else o + l * esz) + b.sh = if a = l then o + b.sh else o + b.sh + l * esz := by split <;> omega
          rw [← e9]; exact this
        | rp r => cases q; exact ⟨_, rfl, .ro ((r.drop _).take _)⟩
        | _ => cases q

def overL (H : LH) (i off esz n : Nat) (new : List AV) : Option LH :=
  match H.get (i / 2) with
  | .cells cs esz' => if off + n * esz ≤ cs.length ∧ new.length ≤ n * esz ∧ new.all scalar = true then some (H.set (i / 2) (.cells (splice cs off new) esz')) else none
  | _ => none

def copyL (H : LH) (esz : Nat) (x y : AV) : Option (AV × LH) :=
  match cellsL H esz y with
  | some new => match x with
    | .nils => some (.int .i64 0, H)
    | .sl i off n _ => (overL H i off esz n (new.take (Nat.min (slen y) n * esz))).map fun H' => (.int .i64 (Nat.min (slen y) n : Nat), H')
    | _ => none
  | none => none

theorem copy_ren (m : MtH E H h base) {esz : Nat} {x y x' y' v : AV} {H' : LH} {K : AV → AHeap → Prop} (rx : Ren E x x') (ry : Ren E y y') (e : copyL H esz x y = some (v, H')) (k : Then E base v H' K) : copyA h esz x' y' K := by
  unfold copyL at e
  split at e
  rotate_left
  · cases e
  rename_i new hw
  obtain ⟨new', hw1, hw2⟩ := cells_ren m ry hw
  refine ⟨new', hw1, ?_⟩
  cases rx with
  | leaf hl =>
    cases x <;> first | (cases hl; done) | (cases e; done) | skip
    cases e
    exact k.here (.leaf rfl) m
  | sl q q0 q1 q2 =>
    rename_i i off n c c' b
    simp only [Option.map_eq_some_iff, Prod.mk.injEq] at e
    obtain ⟨H1, h1, rfl, rfl⟩ := e
    unfold overL at h1
    split at h1
    rotate_left
    · cases h1
    rename_i cs esz' hc
    split at h1
    rotate_left
    · cases h1
    rename_i hh
    cases h1
    have hr := hw2.take (Nat.min (slen y) n * esz)
    obtain ⟨csR, g1, g2, g3⟩ := over_ren m q hc (o := off) hr (by omega)
    obtain ⟨_, _, _, pre, cs', post, u1, u2, u3⟩ := m.cells q hc
    have hcl := u3.length
    rw [g1] at u1; cases u1
    refine ⟨_, b.tot, g1, by simp; omega, ?_, ?_⟩
    · rw [slen_ren ry, hr.scalars]; exact hh.2.2
    · rw [slen_ren ry]; exact k.here (.leaf rfl) g3
  | _ => cases e

def clearL (H : LH) (z : List AV) (x : AV) : Option (AV × LH) :=
  match x with
  | .nils => some (.tup [], H)
  | .sl i off n _ => (overL H i off z.length n (zrep z n)).map fun H' => (.tup [], H')
  | _ => none

theorem zrep_idF {z : List AV} (hz : idFs z = true) (n : Nat) : idFs (zrep z n) = true := by
  unfold zrep
  generalize List.range (n * z.length) = l
  induction l with
  | nil => rfl
  | cons a l ih =>
    have : idF (z.getD (a % z.length) .undef) = true := by
      rw [List.getD_eq_getElem?_getD]
      cases e : z[a % z.length]? with
      | none => rfl
      | some v => exact idFs_get hz e
    simp only [List.map_cons, idFs, ih, Bool.and_true, this]

theorem clear_ren (m : MtH E H h base) {z : List AV} (hz : idFs z = true) {x x' v : AV} {H' : LH} {K : AV → AHeap → Prop} (rx : Ren E x x') (e : clearL H z x = some (v, H')) (k : Then E base v H' K) : clearA h z x' K := by
  unfold clearL at e
  cases rx with
  | leaf hl =>
    cases x <;> first | (cases hl; done) | (cases e; done) | skip
    cases e
    exact k.here (.tup .nil) m
  | sl q q0 q1 q2 =>
    rename_i i off n c c' b
    simp only [Option.map_eq_some_iff, Prod.mk.injEq] at e
    obtain ⟨H1, h1, rfl, rfl⟩ := e
    unfold overL at h1
    split at h1
    rotate_left
    · cases h1
    rename_i cs esz' hc
    split at h1
    rotate_left
    · cases h1
    rename_i hh
    cases h1
    have hr := idFs_ren (E := E) _ (zrep_idF hz n)
    obtain ⟨csR, g1, g2, g3⟩ := over_ren m q hc (o := off) hr (by omega)
    obtain ⟨_, _, _, pre, cs', post, u1, u2, u3⟩ := m.cells q hc
    have hcl := u3.length
    rw [g1] at u1; cases u1
    exact ⟨_, b.tot, g1, by simp; omega, hh.2.2, k.here (.tup .nil) g3⟩
  | _ => cases e

theorem Rens.inv1 {a : AV} {ys : List AV} (r : Rens E [a] ys) : ∃ a', ys = [a'] ∧ Ren E a a' := by
  cases r with
  | cons x r => cases r; exact ⟨_, rfl, x⟩
theorem Rens.inv2 {a b : AV} {ys : List AV} (r : Rens E [a, b] ys) : ∃ a' b', ys = [a', b'] ∧ Ren E a a' ∧ Ren E b b' := by
  cases r with
  | cons x r => obtain ⟨b', rfl, y⟩ := r.inv1; exact ⟨_, _, rfl, x, y⟩
theorem Rens.inv3 {a b c : AV} {ys : List AV} (r : Rens E [a, b, c] ys) : ∃ a' b' c', ys = [a', b', c'] ∧ Ren E a a' ∧ Ren E b b' ∧ Ren E c c' := by
  cases r with
  | cons x r => obtain ⟨b', c', rfl, y, z⟩ := r.inv2; exact ⟨_, _, _, rfl, x, y, z⟩

/-! ### Maps -/

def mentsL (H : LH) : AV → Option (Option Nat × Ents × Nat)
  | .nilm => some (none, [], 0)
  | .map i => match H.get (i / 2) with
    | .map es c => some (some (i / 2), es, c)
    | _ => none
  | _ => none

def mapL (H : LH) : MapOp → List AV → Option (AV × LH)
  | .get kk z ok, [m, k] => match mentsL H m with
    | some (_, es, _) => if keyOk kk k then (match mfind kk k es 0 with
      | some (some (_, v)) => some (mres ok v true, H)
      | some none => some (mres ok z false, H)
      | none => none) else none
    | none => none
  | .put kk, [m, k, v] => match mentsL H m with
    | some (some b, es, c) => if keyOk kk k then (match mfind kk k es 0 with
      | some (some (i, _)) => some (.undef, H.set b (.map (es.modify i fun e => (k, v, e.2.2)) c))
      | some none => some (.undef, H.set b (.map (es ++ [(k, v, c)]) (c + 1)))
      | none => none) else none
    | _ => none
  | .del kk, [m, k] => match mentsL H m with
    | some (o, es, c) => if keyOk kk k then (match mfind kk k es 0 with
      | some (some (i, _)) => some (.tup [], match o with | some b => H.set b (.map (es.eraseIdx i) c) | none => H)
      | some none => some (.tup [], match o with | some b => H.set b (.map es c) | none => H)
      | none => none) else none
    | none => none
  | .len, [m] => (mentsL H m).map fun e => (.int .i64 e.2.1.length, H)
  | .clr, [m] => (mentsL H m).map fun e => (.tup [], match e.1 with | some b => H.set b (.map [] e.2.2) | none => H)
  | _, _ => none

theorem keyEq_ren {kk : KK} {k k' x x' : AV} {b : Bool} (rk : Ren E k k') (rx : Ren E x x') (h : keyEq kk k x = some b) : keyEq kk k' x' = some b := by
  cases kk with
  | c ck =>
    simp only [keyEq] at h ⊢
    have hx : leafA k = true ∧ leafA x = true := by
      cases ck <;> cases k <;> first | (cases h; done) | (cases x <;> first | (cases h; done) | exact ⟨rfl, rfl⟩)
    rw [rk.leaf_eq hx.1, rx.leaf_eq hx.2]; exact h
  | a n ck =>
    unfold keyEq at h
    split at h
    · rename_i hh; cases hh
    · rename_i n2 k2 xs ys hh
      cases hh
      cases rk with
      | leaf hl => cases hl
      | agg r1 =>
        cases rx with
        | leaf hl => cases hl
        | agg r2 => exact eqCells_ren r1 r2 h
    · cases h

theorem keyOk_ren {kk : KK} {k k' : AV} (rk : Ren E k k') (h : keyOk kk k = true) : keyOk kk k' = true := by
  cases kk with
  | c ck =>
    have hx : leafA k = true := by cases ck <;> cases k <;> first | rfl | cases h
    rw [rk.leaf_eq hx]; exact h
  | a n ck =>
    cases k <;> first | (cases h; done) | skip
    cases rk with
    | leaf hl => cases hl
    | agg r => simp only [keyOk, r.length, r.scalars] at h ⊢; exact h

theorem mfind_ren {kk : KK} {k k' : AV} (rk : Ren E k k') : ∀ {es es' : Ents} {i : Nat} {r : Option (Nat × AV)}, RenEnts E es es' → mfind kk k es i = some r →
    (r = none ∧ mfind kk k' es' i = some none) ∨ ∃ j v v', r = some (j, v) ∧ Ren E v v' ∧ mfind kk k' es' i = some (some (j, v'))
  | [], _, i, r, hr, h => by
    simp only [RenEnts] at hr; subst hr
    simp only [mfind, Option.some.injEq] at h; subst h
    exact .inl ⟨rfl, rfl⟩
  | (x, v, n) :: es, _, i, r, ⟨x', v', l', e, r1, r2, r3⟩, h => by
    subst e
    simp only [mfind] at h ⊢
    split at h
    · rename_i hk
      rw [keyEq_ren rk r1 hk]
      cases h
      exact .inr ⟨_, _, _, rfl, r2, rfl⟩
    · rename_i hk
      rw [keyEq_ren rk r1 hk]
      exact mfind_ren rk r3 h
    · cases h

theorem RenEnts.length : ∀ {x y : Ents}, RenEnts E x y → y.length = x.length
  | [], _, h => by simp only [RenEnts] at h; subst h; rfl
  | (k, v, n) :: xs, _, ⟨k', v', l', e, a, b, c⟩ => by subst e; simp [c.length]
theorem RenEnts.snoc {k v k' v' : AV} {n : Nat} (rk : Ren E k k') (rv : Ren E v v') : ∀ {x y : Ents}, RenEnts E x y → RenEnts E (x ++ [(k, v, n)]) (y ++ [(k', v', n)])
  | [], _, h => by simp only [RenEnts] at h; subst h; exact ⟨k', v', [], rfl, rk, rv, rfl⟩
  | (a, b, m) :: xs, _, ⟨a', b', l', e, r1, r2, r3⟩ => by subst e; exact ⟨a', b', _, rfl, r1, r2, RenEnts.snoc rk rv r3⟩
theorem RenEnts.erase : ∀ {x y : Ents} (i : Nat), RenEnts E x y → RenEnts E (x.eraseIdx i) (y.eraseIdx i)
  | [], _, i, h => by simp only [RenEnts] at h; subst h; simp [RenEnts]
  | (a, b, m) :: xs, _, 0, ⟨a', b', l', e, r1, r2, r3⟩ => by subst e; simpa using r3
  | (a, b, m) :: xs, _, i + 1, ⟨a', b', l', e, r1, r2, r3⟩ => by subst e; simp only [List.eraseIdx_cons_succ]; exact ⟨a', b', _, rfl, r1, r2, r3.erase i⟩
theorem RenEnts.mod {k v k' v' : AV} (rk : Ren E k k') (rv : Ren E v v') : ∀ {x y : Ents} (i : Nat), RenEnts E x y → RenEnts E (x.modify i fun e => (k, v, e.2.2)) (y.modify i fun e => (k', v', e.2.2))
  | [], _, i, h => by simp only [RenEnts] at h; subst h; cases i <;> simp [RenEnts]
  | (a, b, m) :: xs, _, 0, ⟨a', b', l', e, r1, r2, r3⟩ => by subst e; simp only [List.modify_zero_cons]; exact ⟨k', v', _, rfl, rk, rv, r3⟩
  | (a, b, m) :: xs, _, i + 1, ⟨a', b', l', e, r1, r2, r3⟩ => by subst e; simp only [List.modify_succ_cons]; exact ⟨a', b', _, rfl, r1, r2, r3.mod rk rv i⟩

theorem ments_ren (m : MtH E H h base) {x x' : AV} {o : Option Nat} {es : Ents} {c : Nat} (r : Ren E x x') (e : mentsL H x = some (o, es, c)) :
    ∃ o' es', ments h x' = some (o', es', c) ∧ RenEnts E es es' ∧ (o = none → o' = none) ∧ ∀ k, o = some k → ∃ b : Blk, E[k]? = some b ∧ o' = some b.id ∧ H.get k = .map es c := by
  cases r with
  | leaf hl =>
    cases x <;> first | (cases hl; done) | (cases e; done) | skip
    cases e
    exact ⟨none, [], rfl, rfl, fun _ => rfl, fun k hk => (by cases hk)⟩
  | map q =>
    rename_i i b
    simp only [mentsL] at e
    split at e
    · rename_i es2 c2 hc
      cases e
      obtain ⟨_, es', h1, h2⟩ := m.maps q hc
      exact ⟨some b.id, es', by simp only [ments, h1], h2, fun hh => (by cases hh), fun k hk => (by cases hk; exact ⟨b, q, rfl, hc⟩)⟩
    · cases e
  | _ => cases e

/-- A map's block that is written anew. -/
theorem mset_ren (m : MtH E H h base) {k : Nat} {b : Blk} (hk : E[k]? = some b) {es es2 es2' : Ents} {c c2 : Nat} (hg : H.get k = .map es c) (r : RenEnts E es2 es2') : MtH E (H.set k (.map es2 c2)) (upd h b.id (.map es2' c2)) base := by
  obtain ⟨h0, es', h1, h2⟩ := m.maps hk hg
  exact m.step hk (by rw [hg]; simp) (fun c => Alive.maps h1 c) ⟨h0, es2', by rw [upd_same], r⟩

theorem map_op_ren (m : MtH E H h base) {mo : MapOp} (hz : ∀ kk z ok, mo = .get kk z ok → idF z = true) {xs xs' : List AV} {v : AV} {H' : LH} {K : AV → AHeap → Prop} (r : Rens E xs xs') (e : mapL H mo xs = some (v, H')) (k : Then E base v H' K) : mapA h mo xs' K := by
  unfold mapL at e
  split at e
  · -- get
    rename_i kk z ok mm key
    obtain ⟨y1, y2, rfl, r1, r2⟩ := r.inv2
    split at e
    rotate_left
    · cases e
    rename_i o es c hm
    obtain ⟨o', es', g1, g2, g3, g4⟩ := ments_ren m r1 hm
    split at e
    rotate_left
    · cases e
    rename_i hok
    split at e
    · rename_i j u hf
      cases e
      rcases mfind_ren r2 g2 hf with ⟨hh, _⟩ | ⟨_, _, v', hh, g5, g6⟩
      · cases hh
      · cases hh
        refine ⟨(mres ok v' true, none), by simp only [mapF, g1, keyOk_ren r2 hok, if_true, g6], k.here ?_ m⟩
        cases ok
        · exact g5
        · exact .tup (.cons g5 (.cons (.leaf rfl) .nil))
    · rename_i hf
      cases e
      rcases mfind_ren r2 g2 hf with ⟨_, g6⟩ | ⟨_, _, v', hh, _, _⟩
      · refine ⟨(mres ok z false, none), by simp only [mapF, g1, keyOk_ren r2 hok, if_true, g6], k.here ?_ m⟩
        have := idF_ren (E := E) z (hz _ _ _ rfl)
        cases ok
        · exact this
        · exact .tup (.cons this (.cons (.leaf rfl) .nil))
      · cases hh
    · cases e
  · -- put
    rename_i kk mm key val
    obtain ⟨y1, y2, y3, rfl, r1, r2, r3⟩ := r.inv3
    split at e
    rotate_left
    · cases e
    rename_i kb es c hm
    obtain ⟨o', es', g1, g2, g3, g4⟩ := ments_ren m r1 hm
    obtain ⟨b, g5, rfl, g7⟩ := g4 kb rfl
    split at e
    rotate_left
    · cases e
    rename_i hok
    split at e
    · rename_i j u hf
      cases e
      rcases mfind_ren r2 g2 hf with ⟨hh, _⟩ | ⟨_, _, v', hh, _, g6⟩
      · cases hh
      · cases hh
        exact ⟨_, by simp only [mapF, g1, keyOk_ren r2 hok, if_true, g6]; rfl, k.here (.leaf rfl) (mset_ren m g5 g7 (g2.mod r2 r3 j))⟩
    · rename_i hf
      cases e
      rcases mfind_ren r2 g2 hf with ⟨_, g6⟩ | ⟨_, _, v', hh, _, _⟩
      · exact ⟨_, by simp only [mapF, g1, keyOk_ren r2 hok, if_true, g6]; rfl, k.here (.leaf rfl) (mset_ren m g5 g7 (g2.snoc r2 r3))⟩
      · cases hh
    · cases e
  · -- del
    rename_i kk mm key
    obtain ⟨y1, y2, rfl, r1, r2⟩ := r.inv2
    split at e
    rotate_left
    · cases e
    rename_i o es c hm
    obtain ⟨o', es', g1, g2, g3, g4⟩ := ments_ren m r1 hm
    split at e
    rotate_left
    · cases e
    rename_i hok
    split at e
    · rename_i j u hf
      cases e
      rcases mfind_ren r2 g2 hf with ⟨hh, _⟩ | ⟨_, _, v', hh, _, g6⟩
      · cases hh
      · cases hh
        cases o with
        | none =>
          rw [g3 rfl] at g1
          exact ⟨(.tup [], none), by simp only [mapF, g1, keyOk_ren r2 hok, if_true, g6]; rfl, Then.here (h := h) k (.tup .nil) m⟩
        | some kb =>
          obtain ⟨b, g5, rfl, g7⟩ := g4 kb rfl
          exact ⟨_, by simp only [mapF, g1, keyOk_ren r2 hok, if_true, g6]; rfl, k.here (.tup .nil) (mset_ren m g5 g7 (g2.erase j))⟩
    · rename_i hf
      cases e
      rcases mfind_ren r2 g2 hf with ⟨_, g6⟩ | ⟨_, _, v', hh, _, _⟩
      · cases o with
        | none =>
          rw [g3 rfl] at g1
          exact ⟨(.tup [], none), by simp only [mapF, g1, keyOk_ren r2 hok, if_true, g6]; rfl, Then.here (h := h) k (.tup .nil) m⟩
        | some kb =>
          obtain ⟨b, g5, rfl, g7⟩ := g4 kb rfl
          exact ⟨_, by simp only [mapF, g1, keyOk_ren r2 hok, if_true, g6]; rfl, k.here (.tup .nil) (mset_ren m g5 g7 g2)⟩
      · cases hh
    · cases e
  · -- len
    rename_i mm
    obtain ⟨y1, rfl, r1⟩ := r.inv1
    simp only [Option.map_eq_some_iff, Prod.mk.injEq] at e
    obtain ⟨⟨o, es, c⟩, hm, rfl, rfl⟩ := e
    obtain ⟨o', es', g1, g2, g3, g4⟩ := ments_ren m r1 hm
    exact ⟨(.int .i64 es'.length, none), by simp only [mapF, g1, Option.map_some], Then.here (h := h) k (by simp only [g2.length]; exact .leaf rfl) m⟩
  · -- clr
    rename_i mm
    obtain ⟨y1, rfl, r1⟩ := r.inv1
    simp only [Option.map_eq_some_iff, Prod.mk.injEq] at e
    obtain ⟨⟨o, es, c⟩, hm, rfl, rfl⟩ := e
    obtain ⟨o', es', g1, g2, g3, g4⟩ := ments_ren m r1 hm
    cases o with
    | none =>
      rw [g3 rfl] at g1
      exact ⟨(.tup [], none), by simp only [mapF, g1, Option.map_some]; rfl, Then.here (h := h) k (.tup .nil) m⟩
    | some kb =>
      obtain ⟨b, g5, rfl, g7⟩ := g4 kb rfl
      exact ⟨(.tup [], some (b.id, .map [] c)), by simp only [mapF, g1, Option.map_some], k.here (.tup .nil) (mset_ren m g5 g7 (es2 := []) (es2' := []) (by simp [RenEnts]))⟩
  · cases e
end
end Go.Proofs.YteijaibggalapaaGreatDoor.E
