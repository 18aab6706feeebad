/-
  What comes of a range over a map; slices that stand on more than one's own.
-/
import Derived.Test.YteijaibggalapaaGreatDoorEX
namespace Go.Proofs.YteijaibggalapaaGreatDoor.E
open Go
set_option linter.unusedVariables false
set_option linter.unusedSectionVars false
set_option linter.unusedSimpArgs false

theorem snocI {α : Type} {p : List α → Prop} (h0 : p []) (h1 : ∀ l x, p l → p (l ++ [x])) (l : List α) : p l := by
  have key : ∀ (r l : List α), l.reverse = r → p l := by
    intro r
    induction r with
    | nil => intro l h; simp at h; subst h; exact h0
    | cons x r ih =>
      intro l h
      have e : l = r.reverse ++ [x] := by rw [← List.reverse_reverse l, h]; simp
      rw [e]; exact h1 _ x (ih _ (by simp))
  exact key _ l rfl

theorem zrep_sca {z : List AV} (h : z.all scalar = true) (n : Nat) : (zrep z n).all scalar = true := by
  unfold zrep
  rw [List.all_eq_true]
  intro x hx
  obtain ⟨i, hi, rfl⟩ := List.mem_map.1 hx
  have hi2 := List.mem_range.1 hi
  have hz : 0 < z.length := by
    rcases Nat.eq_zero_or_pos z.length with e | e
    · rw [e] at hi2; omega
    · exact e
  have hlt := Nat.mod_lt i hz
  rw [List.getD_eq_getElem?_getD, List.getElem?_eq_getElem hlt]
  exact List.all_eq_true.1 h _ (List.getElem_mem hlt)

abbrev Ent := AV × AV × Nat

section
variable {α : Type} {key : α → Nat}
theorem key_inj {l : List α} (hn : (l.map key).Nodup) {a b : α} (ha : a ∈ l) (hb : b ∈ l) (e : key a = key b) : a = b := by
  obtain ⟨i, hi⟩ := List.mem_iff_getElem?.1 ha
  obtain ⟨j, hj⟩ := List.mem_iff_getElem?.1 hb
  obtain ⟨i1, i2⟩ := List.getElem?_eq_some_iff.1 hi
  obtain ⟨j1, j2⟩ := List.getElem?_eq_some_iff.1 hj
  have : i = j := (List.getElem_inj (xs := l.map key) hn (i := i) (j := j) (h₀ := by simpa using i1) (h₁ := by simpa using j1)).1 (by simp [i2, j2, e])
  subst this
  rw [← i2, ← j2]

/-- Those whose keys were seen. -/
def seenL (key : α → Nat) (seen : Array Nat) (l : List α) : List α := l.filter fun q => decide (key q ∈ seen)

theorem seen_push {l : List α} (hn : (l.map key).Nodup) {seen : Array Nat} {a : α} (ha : a ∈ l) (hs : key a ∉ seen) : (seenL key (seen.push (key a)) l).Perm (seenL key seen l ++ [a]) := by
  have hnd : l.Nodup := List.Pairwise.of_map key (fun a b h e => h (by rw [e])) hn
  refine (List.perm_ext_iff_of_nodup (hnd.filter _) ?_).2 fun q => ?_
  · rw [List.nodup_append]
    refine ⟨hnd.filter _, by simp, fun x hx b hb2 => ?_⟩
    simp at hb2; subst hb2
    rintro rfl
    simp [seenL] at hx
    exact hs hx.2
  · simp only [seenL, List.mem_filter, decide_eq_true_eq, Array.mem_push, List.mem_append, List.mem_singleton]
    constructor
    · rintro ⟨h1, h2 | h2⟩
      · exact .inl ⟨h1, h2⟩
      · exact .inr (key_inj hn h1 ha h2)
    · rintro (⟨h1, h2⟩ | rfl)
      · exact ⟨h1, .inl h2⟩
      · exact ⟨ha, .inr rfl⟩
theorem seen_len (seen : Array Nat) (l : List α) : (seenL key seen l).length ≤ l.length := List.length_filter_le _ _
theorem seen_all {l : List α} {seen : Array Nat} (h : ∀ e ∈ l, key e ∈ seen) : seenL key seen l = l :=
  List.filter_eq_self.2 fun q hq => decide_eq_true (h q hq)
theorem seen_empty (l : List α) : seenL key #[] l = [] := by simp [seenL]
end

/-- Entries whose values read as those of a list. -/
theorem ents_zip {V : Type} {ew : V → AV} : ∀ {es : Ents} {vs : List V}, es.map (·.2.1) = vs.map ew → ∃ ps : List (Ent × V), es = ps.map (·.1) ∧ vs = ps.map (·.2) ∧ ∀ p ∈ ps, p.1.2.1 = ew p.2
  | [], [], _ => ⟨[], rfl, rfl, by simp⟩
  | [], _ :: _, h => by simp at h
  | _ :: _, [], h => by simp at h
  | e :: es, v :: vs, h => by
    simp only [List.map_cons, List.cons.injEq] at h
    obtain ⟨ps, h1, h2, h3⟩ := ents_zip h.2
    exact ⟨(e, v) :: ps, by simp [h1], by simp [h2], fun p hp => by
      rcases List.mem_cons.1 hp with rfl | hp
      · exact h.1
      · exact h3 p hp⟩

/-- How a loop's state may stand on memory that others turn: it keeps the base, and follows what is done to it. -/
structure Stands {α : Type} (I : AHeap → α → AHeap → Prop) : Prop where
  keep : ∀ {b a H x o}, I b a H → b x = some o → H x = some o
  more : ∀ {b a H x o}, I b a H → H x = none → I (upd b x o) a (upd H x o)
  turn : ∀ {b a H x o o'}, I b a H → b x = some o → I (upd b x o') a (upd H x o')

theorem Stands.none {α : Type} {I : AHeap → α → AHeap → Prop} (s : Stands I) {b H : AHeap} {a : α} {x : Nat} (i : I b a H) (h : H x = none) : b x = none := by
  cases e : b x with
  | none => rfl
  | some o => rw [s.keep i e] at h; cases h

/-- A function that hands over the elements of a list, in some order. -/
def SeqOf (P : Program) (g : FuncId) (caps : List AV) {T : Type} (ea : T → AV) (b0 : AHeap) (fs : List T) : Prop :=
  ∀ (l : Nat) (I : AHeap → List T → AHeap → Prop) (b1 H : AHeap), Stands I → Sub b0 b1 → I b1 [] H → (∀ b pre x H, x ∈ fs → pre.length < fs.length → I b pre H → YldA P l [ea x] H (fun H' => I b (pre ++ [x]) H')) →
    CallsA P g (.yld l :: caps) H (fun r H' => ∃ b pre, Sub b1 b ∧ pre.Perm fs ∧ I b pre H')

theorem Sub.upd2 {b b' : AHeap} {x : Nat} {o : AObj} (s : Sub b b') (h : b x = none) : Sub b (E.upd b' x o) := fun y q e => by
  have : y ≠ x := by rintro rfl; rw [h] at e; cases e
  rw [upd_ne this]; exact s y q e

theorem Grow.rebase {h b H : AHeap} {esz n : Nat} {v : AV} {cs : List AV} (g : Grow b esz v cs n H) (s : Sub h b) : ∃ H2, Grow h esz v cs n H2 ∧ Sub H2 H := by
  rcases g.how with ⟨rfl, rfl, rfl⟩ | ⟨rfl, rfl⟩ | ⟨id, cap, junk, tot, rfl, hc, hT, hid, rfl⟩
  · exact ⟨h, ⟨g.size, g.sca, .inl ⟨rfl, rfl, rfl⟩⟩, s⟩
  · exact ⟨h, ⟨g.size, g.sca, .inr (.inl ⟨rfl, rfl⟩)⟩, s⟩
  · have h0 : h id = Option.none := s.isNone hid
    refine ⟨upd h id (.cells (cs ++ junk) tot), ⟨g.size, g.sca, .inr (.inr ⟨id, cap, junk, tot, rfl, hc, hT, h0, rfl⟩)⟩, fun x o e => ?_⟩
    unfold upd at e ⊢
    split at e
    · rename_i hx; rw [if_pos hx]; exact e
    · rename_i hx; rw [if_neg hx]; exact s x o e

def setAllZ (zs : List (Nat × AV)) (s : List AV) : List AV := zs.foldl (fun s p => s.set p.1 p.2) s
theorem setAllZ_nil (s : List AV) : setAllZ [] s = s := rfl
theorem setAllZ_cons (i : Nat) (v : AV) (zs : List (Nat × AV)) (s : List AV) : setAllZ ((i, v) :: zs) s = setAllZ zs (s.set i v) := rfl
attribute [go_sem] setAllZ_nil setAllZ_cons

/-- A loop at whose head slots are seen otherwise, as blocks are laid still. -/
theorem loop_zz {α : Type} {body : PostA → List AV → AHeap → Prop} {Q : PostA} {s : List AV} {h : AHeap} (ds : List Nat) (zs : List (Nat × AV)) (m : α → Nat) (f : α → List AV → List AV) (I : α → AHeap → Prop) (x0 : α) (h0 : AHeap)
    (z0 : FzH h h0) (z1 : FzL h h0 (kill ds s) (f x0 (setAllZ zs (kill ds s)))) (i0 : I x0 h0)
    (round : ∀ (N : List AV → AHeap → Prop) x h', I x h' → (∀ y s' h'', m y < m x → kill ds s' = f y (setAllZ zs (kill ds s)) → I y h'' → N s' h'') → body (thenA N Q) (f x (setAllZ zs (kill ds s))) h') : loopA body Q s h :=
  loop_fz ds m (fun x => f x (setAllZ zs (kill ds s))) I x0 h0 z0 z1 i0 fun N x h' hi hN => round N x h' hi fun y s' h'' h1 e i => hN y s' h'' h'' h1 (.refl _) (by rw [e]; exact FzL.refl _ _ _) i

end Go.Proofs.YteijaibggalapaaGreatDoor.E
