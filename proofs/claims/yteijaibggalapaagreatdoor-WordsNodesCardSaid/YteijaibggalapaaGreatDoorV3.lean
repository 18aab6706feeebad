/-
  What the evaluator does at the operations that look at memory, and that the abstract heap follows.
-/
import Derived.Test.YteijaibggalapaaGreatDoorV2
namespace Go.Proofs.YteijaibggalapaaGreatDoor.E
open Go
set_option linter.unusedVariables false
set_option linter.unusedSimpArgs false

theorem globs_idF (g : Nat) (cs : List AV) (e : globs g = some cs) : idFs cs = true := by
  unfold globs at e
  first
  | (cases e; done)
  | (split at e <;> first | (cases e; done) | (cases e; decide +kernel))

theorem idFs_get : ∀ {cs : List AV} {n : Nat} {v : AV}, idFs cs = true → cs[n]? = some v → idF v = true
  | [], _, _, _, e => by simp at e
  | x :: cs, 0, v, h, e => by simp only [idFs, Bool.and_eq_true] at h; simp at e; subst e; exact h.1
  | x :: cs, n + 1, v, h, e => by simp only [idFs, Bool.and_eq_true] at h; simp at e; exact idFs_get h.2 e

section
variable {pre cs post : List AV} {o n : Nat}
theorem mid_get (h : o < cs.length) : (pre ++ cs ++ post)[o + pre.length]? = cs[o]? := by
  rw [List.append_assoc, List.getElem?_append_right (by omega), List.getElem?_append_left (by omega)]
  congr 1; omega
theorem mid_take (h : o + n ≤ cs.length) : ((pre ++ cs ++ post).drop (o + pre.length)).take n = (cs.drop o).take n := by
  rw [List.append_assoc, List.drop_append, List.drop_of_length_le (by omega), List.nil_append, show o + pre.length - pre.length = o by omega, List.drop_append_of_le_length (by omega), List.take_append_of_le_length (by simp; omega)]
theorem mid_splice {l : List AV} (h : o + l.length ≤ cs.length) : splice (pre ++ cs ++ post) (o + pre.length) l = pre ++ splice cs o l ++ post := by
  unfold splice
  have e1 : (pre ++ cs ++ post).take (o + pre.length) = pre ++ cs.take o := by
    rw [List.append_assoc, List.take_append, List.take_of_length_le (by omega), show o + pre.length - pre.length = o by omega, List.take_append_of_le_length (by omega)]
  have e2 : (pre ++ cs ++ post).drop (o + pre.length + l.length) = cs.drop (o + l.length) ++ post := by
    rw [List.append_assoc, List.drop_append, List.drop_of_length_le (by omega), List.nil_append, show o + pre.length + l.length - pre.length = o + l.length by omega, List.drop_append_of_le_length (by omega)]
  rw [e1, e2]; simp [List.append_assoc]
theorem splice_len {l : List AV} (h : o + l.length ≤ cs.length) : (splice cs o l).length = cs.length := by
  unfold splice; simp; omega
theorem splice_le {l : List AV} : cs.length ≤ (splice cs o l).length ∨ cs.length < o := by
  unfold splice; simp; omega
end

section
variable {E : List Blk} {H : LH} {h base : AHeap}

theorem MtH.cells (m : MtH E H h base) {k : Nat} {b : Blk} (hk : E[k]? = some b) {cs : List AV} {esz : Nat} (hg : H.get k = .cells cs esz) :
    base b.id = none ∧ b.esz = esz ∧ b.sh + cs.length ≤ b.tot ∧ ∃ pre cs' post, h b.id = some (.cells (pre ++ cs' ++ post) b.tot) ∧ pre.length = b.sh ∧ Rens E cs cs' := by
  have := m.obj k b hk
  rw [hg] at this; exact this
theorem MtH.maps (m : MtH E H h base) {k : Nat} {b : Blk} (hk : E[k]? = some b) {es : Ents} {c : Nat} (hg : H.get k = .map es c) :
    base b.id = none ∧ ∃ es', h b.id = some (.map es' c) ∧ RenEnts E es es' := by
  have := m.obj k b hk
  rw [hg] at this; exact this

def loadL (H : LH) (g : Bool) (n : Nat) : AV → Option AV
  | .ptr i o => match H.get (i / 2) with
    | .cells cs _ => if g then (if o + n ≤ cs.length then some (.agg ((cs.drop o).take n)) else none) else cs[o]?
    | _ => none
  | .gp g' off => if g then none else match globs g' with
    | some cs => cs[off]?
    | none => none
  | .rp cs => if g then (if n ≤ cs.length then some (.agg (cs.take n)) else none) else cs.head?
  | _ => none

theorem load_ren (m : MtH E H h base) {g : Bool} {n : Nat} {p p' v : AV} (r : Ren E p p') (e : loadL H g n p = some v) : ∃ v', rdv g n p' h = some v' ∧ Ren E v v' := by
  cases r with
  | leaf hl =>
    cases p <;> first | (cases hl; done) | (cases e; done) | skip
    rename_i g' off
    simp only [loadL] at e
    cases g
    · simp only [Bool.false_eq_true, if_false] at e
      split at e
      · rename_i cs hc
        refine ⟨v, ?_, idF_ren v (idFs_get (globs_idF _ _ hc) e)⟩
        simp only [rdv, Bool.false_eq_true, if_false, aload, hc, e]
      · cases e
    · simp at e
  | ptr q =>
    rename_i i o b
    simp only [loadL] at e
    split at e
    · rename_i cs esz hc
      obtain ⟨_, _, _, pre, cs', post, h1, h2, h3⟩ := m.cells q hc
      cases g
      · simp only [Bool.false_eq_true, if_false] at e
        obtain ⟨u, hu, hr⟩ := h3.get o e
        have hlt := (List.getElem?_eq_some_iff.1 hu).1
        exact ⟨u, by simp only [rdv, Bool.false_eq_true, if_false, aload, h1, ← h2, mid_get hlt, hu], hr⟩
      · simp only [if_true] at e
        split at e
        · rename_i hh; cases e
          have hl := h3.length
          refine ⟨_, ?_, .agg ((h3.drop o).take n)⟩
          simp only [rdv, if_true, aloads, h1, ← h2]
          rw [if_pos (by simp; omega), mid_take (by omega)]; rfl
        · cases e
    · cases e
  | rp q =>
    simp only [loadL] at e
    cases g
    · simp only [Bool.false_eq_true, if_false] at e
      rw [List.head?_eq_getElem?] at e
      obtain ⟨u, hu, hr⟩ := q.get 0 e
      exact ⟨u, by simp only [rdv, Bool.false_eq_true, if_false, aload, List.head?_eq_getElem?, hu], hr⟩
    · simp only [if_true] at e
      split at e
      · rename_i hh; cases e
        exact ⟨_, by simp only [rdv, if_true, aloads, q.length, if_pos hh, Option.map_some], .agg (q.take n)⟩
      · cases e
  | _ => cases e

def writeL (H : LH) (p : AV) (l : List AV) : Option LH :=
  match p with
  | .ptr i o => match H.get (i / 2) with
    | .cells cs esz => if o + l.length ≤ cs.length then some (H.set (i / 2) (.cells (splice cs o l) esz)) else none
    | _ => none
  | _ => none

/-- Cells of a block that are written over. -/
theorem over_ren (m : MtH E H h base) {k : Nat} {b : Blk} (hk : E[k]? = some b) {cs : List AV} {esz : Nat} (hg : H.get k = .cells cs esz) {o : Nat} {l l' : List AV} (hl : Rens E l l') (ho : o + l.length ≤ cs.length) :
    ∃ csR, h b.id = some (.cells csR b.tot) ∧ o + b.sh + l'.length ≤ csR.length ∧ MtH E (H.set k (.cells (splice cs o l) esz)) (upd h b.id (.cells (splice csR (o + b.sh) l') b.tot)) base := by
  obtain ⟨h0, he, ht, pre, cs', post, h1, h2, h3⟩ := m.cells hk hg
  have hll := hl.length
  have hcl := h3.length
  refine ⟨_, h1, by simp; omega, ?_⟩
  refine m.step hk (by rw [hg]; simp) (fun c => Alive.cells h1 ?_ c) ?_
  · rw [← h2, mid_splice (by omega)]; simp only [List.length_append, splice_len (cs := cs') (o := o) (l := l') (by omega)]; omega
  · refine ⟨h0, he, by rw [splice_len ho]; exact ht, pre, splice cs' o l', post, ?_, h2, h3.spl o hl⟩
    rw [upd_same, ← h2, mid_splice (by omega)]

theorem write_ren (m : MtH E H h base) {p p' : AV} {l l' : List AV} {H' : LH} (r : Ren E p p') (hl : Rens E l l') (e : writeL H p l = some H') : ∃ h', awrite h p' l' = some h' ∧ MtH E H' h' base := by
  unfold writeL at e
  split at e
  · rename_i i o
    cases r with
    | leaf hl => cases hl
    | ptr q =>
      rename_i b
      split at e
      · rename_i cs esz hc
        split at e
        · rename_i hh; cases e
          obtain ⟨csR, h1, h2, h3⟩ := over_ren m q hc hl hh
          refine ⟨_, ?_, h3⟩
          simp only [awrite, h1]; rw [if_pos h2]
        · cases e
      · cases e
  · cases e

def cellsL (H : LH) (esz : Nat) : AV → Option (List AV)
  | .nils | .rz => some []
  | .ro cs len _ => if cs.length = len * esz then some cs else none
  | .sl i off len _ => if len = 0 ∧ off = 0 then some [] else match H.get (i / 2) with
    | .cells cs _ => if off + len * esz ≤ cs.length then some ((cs.drop off).take (len * esz)) else none
    | _ => none
  | _ => none

theorem cellsL_len {esz : Nat} {x : AV} {cs : List AV} (e : cellsL H esz x = some cs) : cs.length = slen x * esz := by
  unfold cellsL at e
  split at e
  · cases e; simp [slen]
  · cases e; simp [slen]
  · split at e
    · cases e; simpa [slen]
    · cases e
  · split at e
    · rename_i hh; cases e; simp [slen, hh.1]
    · split at e
      · split at e
        · cases e; simp [slen]; omega
        · cases e
      · cases e
  · cases e

theorem slen_ren {x x' : AV} (r : Ren E x x') : slen x' = slen x := by cases r <;> rfl

theorem cells_ren (m : MtH E H h base) {esz : Nat} {x x' : AV} {cs : List AV} (r : Ren E x x') (e : cellsL H esz x = some cs) : ∃ cs', acells h esz x' = some cs' ∧ Rens E cs cs' := by
  cases r with
  | leaf hl =>
    cases x <;> first | (cases hl; done) | (cases e; done) | (cases e; exact ⟨_, rfl, .nil⟩)
  | ro q =>
    simp only [cellsL] at e
    split at e
    · rename_i hh; cases e
      exact ⟨_, by simp only [acells, q.length, if_pos hh], q⟩
    · cases e
  | sl q q0 q1 q2 =>
    rename_i i off n c c' b
    simp only [cellsL] at e
    split at e
    · rename_i hh; cases e
      obtain ⟨rfl, rfl⟩ := hh
      rcases m.al _ _ q with ⟨_, cs', h1, h2⟩ | ⟨hm, _⟩
      · refine ⟨[], ?_, .nil⟩
        simp only [acells, h1]; rw [if_pos (by omega)]; simp
      · rw [q0] at hm; cases hm
    · split at e
      · rename_i cs2 esz2 hc
        obtain ⟨_, _, _, pre, cs', post, h1, h2, h3⟩ := m.cells q hc
        split at e
        · rename_i hh; cases e
          have hl := h3.length
          refine ⟨_, ?_, (h3.drop off).take (n * esz)⟩
          simp only [acells, h1, ← h2]
          rw [if_pos (by simp; omega), mid_take (by omega)]
        · cases e
      · cases e
  | _ => cases e

/-- A new block of cells, and the slice of all of it, of which it is not told how many places it has. -/
def growL (H : LH) (esz need : Nat) (cs : List AV) : Option (AV × LH) := if H.room then some (.sl (2 * H.n) 0 need need, H.push (.cells cs esz)) else none

def appendL (H : LH) (esz bytes : Nat) (x y : AV) : Option (AV × LH) :=
  match cellsL H esz x, cellsL H esz y with
  | some old, some new =>
    if (slen x + slen y) * bytes ≤ 70368744177664 then
      if slen y = 0 then some (x, H) else
      match x with
      | .nils => growL H esz (slen y) new
      | .ro _ n true => growL H esz (n + slen y) (old ++ new)
      | .sl i off n cap => match H.get (i / 2) with
        | .cells cs esz' =>
          if off + cap * esz ≤ cs.length ∧ n ≤ cap then
            if n + slen y ≤ cap then
              if new.all scalar = true ∧ (i % 2 = 1 ∨ esz' = esz) then some (.sl i off (n + slen y) cap, H.set (i / 2) (.cells (splice cs (off + n * esz) new) esz')) else none
            else if i % 2 = 1 then growL H esz (n + slen y) (old ++ new)
            else if esz' = esz ∧ new.all scalar = true then growL (H.set (i / 2) .dead) esz (n + slen y) (old ++ new)
            else none
          else none
        | _ => none
      | _ => none
    else none
  | _, _ => none

/-- What comes behind an operation, where the heap and the blocks are told anew. -/
def Then (E : List Blk) (base : AHeap) (v : AV) (H : LH) (K : AV → AHeap → Prop) : Prop := ∀ (T : List Blk) (v' : AV) (h' : AHeap), Ren (E ++ T) v v' → MtH (E ++ T) H h' base → K v' h'

theorem Then.here {v v' : AV} {K : AV → AHeap → Prop} (k : Then E base v H K) (r : Ren E v v') (m : MtH E H h base) : K v' h := k [] v' h (by simpa using r) (by simpa using m)

theorem mul_le {a b c : Nat} (h : a ≤ b) : a * c ≤ b * c := Nat.mul_le_mul_right c h

theorem grow_ren (m : MtH E H h base) {esz need : Nat} {cs cs' : List AV} {v : AV} {H' : LH} {K : AV → AHeap → Prop} (hc : Rens E cs cs') (hn : cs.length = need * esz) (e : growL H esz need cs = some (v, H')) (k : Then E base v H' K) : grows h esz need cs' K := by
  unfold growL at e
  split at e
  · rename_i hr; cases e
    intro id cap hid hcap
    have hl := hc.length
    have hle := mul_le (c := esz) hcap
    have hk : E.length = H.n := m.len
    refine k [⟨id, 0, esz, cap * esz, cap - need, false⟩] _ _ ?_ (m.fresh hr hid rfl (.inl ⟨rfl, cs', by rw [upd_same], by simp⟩) ⟨m.sub.isNone hid, rfl, by simp; omega, [], cs', [], by rw [upd_same]; simp, rfl, hc.mono⟩)
    have := Ren.sl (E := E ++ [⟨id, 0, esz, cap * esz, cap - need, false⟩]) (i := 2 * H.n) (o := 0) (n := need) (c := need) (c' := cap) (b := ⟨id, 0, esz, cap * esz, cap - need, false⟩) (by rw [show 2 * H.n / 2 = E.length by omega]; exact snoc_get _) rfl (fun h1 => by omega) (fun _ => ⟨by show cap = need + (cap - need); omega, by simp⟩)
    simpa using this
  · cases e

theorem append_ren (m : MtH E H h base) {esz bytes : Nat} {x y x' y' v : AV} {H' : LH} {K : AV → AHeap → Prop} (rx : Ren E x x') (ry : Ren E y y') (e : appendL H esz bytes x y = some (v, H')) (k : Then E base v H' K) : appendA h esz bytes x' y' K := by
  unfold appendL at e
  split at e
  rotate_left
  · cases e
  rename_i old new ho hw
  obtain ⟨old', ho1, ho2⟩ := cells_ren m rx ho
  obtain ⟨new', hw1, hw2⟩ := cells_ren m ry hw
  have lo := cellsL_len ho
  have lw := cellsL_len hw
  have ll := hw2.length
  have lol := ho2.length
  split at e
  rotate_left
  · cases e
  rename_i hb
  have sy := slen_ren ry
  refine ⟨old', new', ho1, hw1, by rw [slen_ren rx, sy]; exact hb, fun hz => ?_, fun hz => ?_⟩
  · rw [sy] at hz
    rw [if_pos hz] at e; cases e
    exact k.here rx m
  · rw [sy] at hz ⊢
    rw [if_neg hz] at e
    cases rx with
    | leaf hl =>
      cases x <;> first | (cases hl; done) | (cases e; done) | skip
      exact grow_ren m hw2 lw (show growL H esz (slen y) new = some (v, H') from e) k
    | ro q =>
      rename_i cs cs' n ex
      cases ex
      · cases e
      · exact grow_ren m (ho2.append hw2) (by simp [lo, lw, slen, Nat.add_mul]) e k
    | sl q q0 q1 q2 =>
      rename_i i off n c c' b
      simp only at e ⊢
      split at e
      rotate_left
      · cases e
      rename_i cs esz' hc
      obtain ⟨h0, he, ht, pre, csR, post, h1, h2, h3⟩ := m.cells q hc
      have hcl := h3.length
      split at e
      rotate_left
      · cases e
      rename_i hoc
      have hcap : off + b.sh + c' * esz ≤ b.tot ∧ c ≤ c' ∨ (i % 2 = 0 ∧ esz' ≠ esz) := by
        rcases Nat.mod_two_eq_zero_or_one i with hi | hi
        · by_cases hes : esz' = esz
          · refine .inl ⟨?_, by have := (q2 hi).1; omega⟩
            have := (q2 hi).2; rw [he, hes] at this; exact this
          · exact .inr ⟨hi, hes⟩
        · have := q1 hi; subst this; exact .inl ⟨by omega, Nat.le_refl _⟩
      have sn : slen (AV.sl i off n c) = n := rfl
      rw [sn] at lo
      split at e
      · rename_i hin
        split at e
        · rename_i hs; cases e
          rcases hcap with ⟨hc1, hc2⟩ | ⟨hc1, hc2⟩
          · have hmul := mul_le (c := esz) hin
            rw [Nat.add_mul] at hmul
            obtain ⟨csR2, g1, g2, g3⟩ := over_ren m q hc (o := off + n * esz) hw2 (by omega)
            refine ⟨csR2, b.tot, g1, hc1, fun _ => ⟨by rw [hw2.scalars]; exact hs.1, ?_⟩, fun hlt => by omega⟩
            refine k.here ?_ (by rw [show off + b.sh + n * esz = off + n * esz + b.sh by omega]; exact g3)
            exact .sl q q0 q1 q2
          · rcases hs.2 with h5 | h5
            · omega
            · exact absurd h5 hc2
        · cases e
      · rename_i hin
        split at e
        · rename_i hi
          have := q1 hi; subst this
          refine ⟨_, b.tot, h1, by omega, fun hle => by omega, fun _ => .inl ?_⟩
          exact grow_ren m (ho2.append hw2) (by simp [lo, lw, Nat.add_mul]) e k
        · rename_i hi
          split at e
          rotate_left
          · cases e
          rename_i hs
          have hi0 : i % 2 = 0 := by omega
          obtain ⟨hc1, hc2⟩ := hcap.resolve_right (fun hh => hh.2 hs.1)
          refine ⟨_, b.tot, h1, hc1, fun hle => ⟨by rw [hw2.scalars]; exact hs.2, ?_⟩, fun _ => .inl ?_⟩
          · unfold growL at e
            split at e
            rotate_left
            · cases e
            rename_i hr
            simp only [LH.set] at hr
            cases e
            have hmul := mul_le (c := esz) hle
            rw [Nat.add_mul] at hmul
            have hnc := mul_le (c := esz) hoc.2
            have mk := m.kill (m.lt q)
            obtain ⟨b2, hb2⟩ : ∃ b2 : Blk, b2 = ⟨b.id, off + b.sh, esz, b.tot, c' - (n + slen y), false⟩ := ⟨_, rfl⟩
            have e1 : old' = (csR.drop off).take (n * esz) := by
              have hg : acells h esz (.sl b.id (off + b.sh) n c') = some old' := ho1
              simp only [acells, h1, ← h2] at hg
              rw [if_pos (by simp; omega), mid_take (by omega)] at hg
              exact (Option.some.inj hg).symm
            have e2 : splice (pre ++ csR ++ post) (off + b.sh + n * esz) new' = (pre ++ csR.take off) ++ (old' ++ new') ++ (pre ++ csR ++ post).drop (off + b.sh + n * esz + new'.length) := by
              unfold splice
              congr 1
              rw [← List.append_assoc]; congr 1
              rw [e1, ← h2, show off + pre.length + n * esz = pre.length + (off + n * esz) by omega, List.append_assoc, List.take_append, List.take_of_length_le (by omega), show pre.length + (off + n * esz) - pre.length = off + n * esz by omega, List.take_append_of_le_length (by omega), List.take_add, List.append_assoc]
            have hA : ∀ d, Alive d h → Alive d (upd h b.id (.cells (splice (pre ++ csR ++ post) (off + b.sh + n * esz) new') b.tot)) := fun d => Alive.cells h1 (by
              rcases splice_le (cs := pre ++ csR ++ post) (o := off + b.sh + n * esz) (l := new') with hh | hh
              · exact hh
              · simp at hh; omega) d
            refine k [b2] _ _ ?_ (by
              subst hb2
              refine mk.new hr (b := ⟨b.id, off + b.sh, esz, b.tot, c' - (n + slen y), false⟩) h0 (fun j d hj hd hne => ?_) hA (.inl ⟨rfl, _, by rw [upd_same], ?_⟩) ⟨h0, rfl, ?_, pre ++ csR.take off, old' ++ new', _, by rw [upd_same, e2], ?_, (ho2.append hw2).mono⟩
              · rw [LH.get_set (m.lt q)] at hd
                split at hd
                · exact hd rfl
                · rename_i hjk
                  exact m.inj j _ d b hj q hd (by rw [hc]; simp) hjk hne
              · rw [e2]; simp; omega
              · simp; omega
              · simp; omega)
            subst hb2
            have hk : E.length = H.n := m.len
            have := Ren.sl (E := E ++ [⟨b.id, off + b.sh, esz, b.tot, c' - (n + slen y), false⟩]) (i := 2 * H.n) (o := 0) (n := n + slen y) (c := n + slen y) (c' := c') (b := ⟨b.id, off + b.sh, esz, b.tot, c' - (n + slen y), false⟩) (by rw [show 2 * H.n / 2 = E.length by omega]; exact snoc_get _) rfl (fun h1 => by omega) (fun _ => ⟨by simp; omega, by simpa using hc1⟩)
            simpa [LH.set] using this
          · exact grow_ren (m.kill (m.lt q)) (ho2.append hw2) (by simp [lo, lw, Nat.add_mul]) e k
    | _ => cases e
end
end Go.Proofs.YteijaibggalapaaGreatDoor.E
