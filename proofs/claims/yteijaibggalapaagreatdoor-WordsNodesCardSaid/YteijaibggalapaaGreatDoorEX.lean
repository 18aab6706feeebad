/-
  Maps as lists of keys and values.
-/
import Derived.Test.YteijaibggalapaaGreatDoorEZ
namespace Go.Proofs.YteijaibggalapaaGreatDoor.E
open Go
set_option linter.unusedVariables false
set_option linter.unusedSectionVars false
set_option linter.unusedSimpArgs false

section
variable {κ V : Type} [DecidableEq κ]

def alook (f : List (κ × V)) (k : κ) : Option V := (f.find? fun p => p.1 = k).map (·.2)
def aset (f : List (κ × V)) (k : κ) (v : V) : List (κ × V) := if f.any (fun p => p.1 = k) then f.map (fun p => if p.1 = k then (k, v) else p) else f ++ [(k, v)]
def adel (f : List (κ × V)) (k : κ) : List (κ × V) := f.filter fun p => !decide (p.1 = k)
def AKeys (f : List (κ × V)) : Prop := (f.map (·.1)).Nodup

theorem alook_nil (k : κ) : alook ([] : List (κ × V)) k = none := rfl
theorem alook_cons (p : κ × V) (f : List (κ × V)) (k : κ) : alook (p :: f) k = if p.1 = k then some p.2 else alook f k := by
  unfold alook; rw [List.find?_cons]; by_cases h : p.1 = k <;> simp [h]
theorem alook_append (f g : List (κ × V)) (k : κ) : alook (f ++ g) k = (alook f k).or (alook g k) := by
  induction f with
  | nil => simp [alook_nil]
  | cons p f ih => rw [List.cons_append, alook_cons, alook_cons, ih]; split <;> simp
theorem alook_none {f : List (κ × V)} {k : κ} : alook f k = none ↔ f.any (fun p => p.1 = k) = false := by
  induction f with
  | nil => simp [alook_nil]
  | cons p f ih => rw [alook_cons, List.any_cons]; by_cases h : p.1 = k <;> simp [h, ih]
theorem alook_mapset {f : List (κ × V)} {k j : κ} {v : V} (h : f.any (fun p => p.1 = k) = true) : alook (f.map (fun p => if p.1 = k then (k, v) else p)) j = if j = k then some v else alook f j := by
  induction f with
  | nil => simp at h
  | cons p f ih =>
    rw [List.map_cons, alook_cons, alook_cons]
    by_cases h1 : p.1 = k
    · rw [if_pos h1]
      by_cases h2 : j = k
      · subst h2; simp
      · have e1 : ¬ k = j := fun e => h2 e.symm
        have e2 : ¬ p.1 = j := fun e => h2 (by rw [← e, h1])
        simp only [e1, e2, h2, if_false]
        by_cases h3 : f.any (fun p => p.1 = k) = true
        · rw [ih h3, if_neg h2]
        · have : f.map (fun p => if p.1 = k then (k, v) else p) = f := by
            have h3' : f.any (fun p => p.1 = k) = false := Bool.eq_false_iff.2 h3
            rw [List.any_eq_false] at h3'
            conv => rhs; rw [← List.map_id f]
            refine List.map_congr_left fun q hq => ?_
            have := h3' q hq; simp at this; simp [this]
          rw [this]
    · rw [if_neg h1]
      have h3 : f.any (fun p => p.1 = k) = true := by simpa [h1] using h
      by_cases h4 : p.1 = j
      · have : ¬ j = k := fun e => h1 (by rw [h4, e])
        simp [h4, this]
      · simp only [h4, if_false]; rw [ih h3]
theorem alook_set (f : List (κ × V)) (k j : κ) (v : V) : alook (aset f k v) j = if j = k then some v else alook f j := by
  unfold aset; split
  · rename_i h; exact alook_mapset h
  · rename_i h
    rw [alook_append, alook_cons, alook_nil]
    by_cases h2 : j = k
    · subst h2
      rw [alook_none.2 (Bool.eq_false_iff.2 h)]; simp
    · have : ¬ k = j := fun e => h2 e.symm
      simp [h2, this]
theorem alook_del (f : List (κ × V)) (k j : κ) : alook (adel f k) j = if j = k then none else alook f j := by
  induction f with
  | nil => simp [adel, alook_nil]
  | cons p f ih =>
    unfold adel at ih ⊢
    rw [List.filter_cons]
    by_cases h1 : p.1 = k
    · simp only [h1, decide_true, Bool.not_true, Bool.false_eq_true, if_false, ih, alook_cons]
      by_cases h2 : j = k
      · simp [h2]
      · have : ¬ k = j := fun e => h2 e.symm
        simp [h2, this]
    · simp only [h1, decide_false, Bool.not_false, if_true, alook_cons, ih]
      by_cases h2 : p.1 = j
      · have : ¬ j = k := fun e => h1 (by rw [h2, e])
        simp [h2, this]
      · simp [h2]

theorem AKeys_nil : AKeys ([] : List (κ × V)) := by simp [AKeys]
theorem aset_keys {f : List (κ × V)} {k : κ} {v : V} (h : f.any (fun p => p.1 = k) = true) : (aset f k v).map (·.1) = f.map (·.1) := by
  unfold aset; rw [if_pos h, List.map_map]
  refine List.map_congr_left fun q hq => ?_
  simp only [Function.comp]
  split
  · rename_i e; exact e.symm
  · rfl
theorem AKeys_set {f : List (κ × V)} {k : κ} {v : V} (h : AKeys f) : AKeys (aset f k v) := by
  unfold AKeys at h ⊢
  by_cases h1 : f.any (fun p => p.1 = k) = true
  · rw [aset_keys h1]; exact h
  · unfold aset; rw [if_neg h1, List.map_append, List.nodup_append]
    refine ⟨h, by simp, ?_⟩
    intro a ha b hb
    simp at hb; subst hb
    rintro rfl
    simp only [Bool.not_eq_true, List.any_eq_false, decide_eq_true_eq] at h1
    obtain ⟨q, hq, e⟩ := List.mem_map.1 ha
    exact h1 q hq e
theorem AKeys_del {f : List (κ × V)} {k : κ} (h : AKeys f) : AKeys (adel f k) := by
  unfold AKeys adel at *
  exact h.sublist (List.Sublist.map _ (List.filter_sublist))
theorem aset_len (f : List (κ × V)) (k : κ) (v : V) : (aset f k v).length = if (alook f k).isSome then f.length else f.length + 1 := by
  unfold aset
  cases e : alook f k with
  | none => rw [alook_none] at e; simp [e]
  | some q =>
    have : f.any (fun p => p.1 = k) = true := by
      cases h : f.any (fun p => p.1 = k) with
      | true => rfl
      | false => rw [alook_none.2 h] at e; cases e
    rw [if_pos this]; simp

end

section
variable {κ V : Type} [DecidableEq κ] {ek : κ → AV} {ew : V → AV} {kk : KK}

/-- Entries that read as a list of keys and values. -/
def MapIs (ek : κ → AV) (ew : V → AV) (es : Ents) (f : List (κ × V)) : Prop := es.map (fun e => (e.1, e.2.1)) = f.map fun p => (ek p.1, ew p.2)

theorem MapIs_nil : MapIs ek ew [] [] := rfl
theorem MapIs_len {es : Ents} {f : List (κ × V)} (h : MapIs ek ew es f) : es.length = f.length := by simpa using congrArg List.length h

/-- Keys of this kind. -/
structure KeyFit (kk : KK) (ek : κ → AV) : Prop where
  ok : ∀ a, keyOk kk (ek a) = true
  eq : ∀ a b, keyEq kk (ek a) (ek b) = some (decide (a = b))

theorem mfind_is (hk : KeyFit kk ek) {k : κ} : ∀ {es : Ents} {f : List (κ × V)} {i : Nat}, MapIs ek ew es f →
    (alook f k = none ∧ mfind kk (ek k) es i = some none) ∨ ∃ j v, alook f k = some v ∧ mfind kk (ek k) es i = some (some (i + j, ew v)) ∧ f.findIdx? (fun p => p.1 = k) = some j
  | [], [], i, h => .inl ⟨rfl, rfl⟩
  | [], _ :: _, i, h => by simp [MapIs] at h
  | _ :: _, [], i, h => by simp [MapIs] at h
  | e :: es, p :: f, i, h => by
    simp only [MapIs, List.map_cons, List.cons.injEq, Prod.mk.injEq] at h
    obtain ⟨⟨h1, h2⟩, h3⟩ := h
    rw [alook_cons]
    simp only [mfind, h1, hk.eq]
    by_cases hp : k = p.1
    · have hp' : p.1 = k := hp.symm
      rw [decide_eq_true hp, if_pos hp']
      exact .inr ⟨0, p.2, rfl, by simp [h2], by simp [List.findIdx?_cons, hp']⟩
    · have hp' : ¬ p.1 = k := fun e => hp e.symm
      rw [decide_eq_false hp, if_neg hp']
      simp only
      rcases mfind_is hk (i := i + 1) (es := es) (f := f) h3 with ⟨a, b⟩ | ⟨j, v, a, b, c⟩
      · exact .inl ⟨a, b⟩
      · exact .inr ⟨j + 1, v, a, by rw [b]; simp; omega, by simp [List.findIdx?_cons, hp', c]⟩

theorem map_get (hk : KeyFit kk ek) {h : AHeap} {id c : Nat} {es : Ents} {f : List (κ × V)} (hid : h id = some (.map es c)) (hm : MapIs ek ew es f) {z : AV} {ok : Bool} {k : κ} {K : AV → AHeap → Prop}
    (kk1 : K (match alook f k with | some v => mres ok (ew v) true | none => mres ok z false) h) : mapA h (.get kk z ok) [.map id, ek k] K := by
  rcases mfind_is hk (k := k) (i := 0) hm with ⟨a, b⟩ | ⟨j, v, a, b, _⟩
  · rw [a] at kk1
    exact ⟨(mres ok z false, none), by simp [mapF, ments, hid, hk.ok, b], kk1⟩
  · rw [a] at kk1
    exact ⟨(mres ok (ew v) true, none), by simp [mapF, ments, hid, hk.ok, b], kk1⟩

theorem findIdx_set {f : List (κ × V)} {k : κ} {v : V} {j : Nat} (hn : AKeys f) (h : f.findIdx? (fun p => p.1 = k) = some j) : aset f k v = f.set j (k, v) := by
  have hj := List.findIdx?_eq_some_iff_getElem.1 h
  obtain ⟨hlt, h1, h2⟩ := hj
  have hany : f.any (fun p => p.1 = k) = true := List.any_eq_true.2 ⟨f[j], List.getElem_mem _, h1⟩
  unfold aset; rw [if_pos hany]
  apply List.ext_getElem (by simp)
  intro i hi hi'
  simp only [List.getElem_map, List.getElem_set]
  by_cases e : j = i
  · subst e; simp at h1; simp [h1]
  · simp only [e, if_false]
    simp at hi
    have : ¬ f[i].1 = k := fun e2 => by
      simp at h1
      have hnd : (f.map (·.1)).Nodup := hn
      have := (List.getElem_inj (xs := f.map (·.1)) hnd (i := i) (j := j) (h₀ := by simpa using hi) (h₁ := by simpa using hlt)).1 (by simp [e2, h1])
      exact e this.symm
    simp [this]

theorem map_put (hk : KeyFit kk ek) {h : AHeap} {id c : Nat} {es : Ents} {f : List (κ × V)} (hid : h id = some (.map es c)) (hm : MapIs ek ew es f) (hn : AKeys f) {k : κ} {v : V} {K : AV → AHeap → Prop}
    (kk1 : ∀ es' c', MapIs ek ew es' (aset f k v) → K .undef (upd h id (.map es' c'))) : mapA h (.put kk) [.map id, ek k, ew v] K := by
  rcases mfind_is hk (k := k) (i := 0) hm with ⟨a, b⟩ | ⟨j, w, a, b, hj⟩
  · refine ⟨(.undef, some (id, .map (es ++ [(ek k, ew v, c)]) (c + 1))), by simp [mapF, ments, hid, hk.ok, b], kk1 _ _ ?_⟩
    have : f.any (fun p => p.1 = k) = false := alook_none.1 a
    unfold aset MapIs at *
    rw [if_neg (by simp [this]), List.map_append, List.map_append, hm]; rfl
  · rw [Nat.zero_add] at b
    refine ⟨(.undef, some (id, .map (es.modify j fun e => (ek k, ew v, e.2.2)) c)), by simp [mapF, ments, hid, hk.ok, b], kk1 _ _ ?_⟩
    rw [findIdx_set hn hj]
    unfold MapIs at *
    have hl : es.length = f.length := by simpa using congrArg List.length hm
    apply List.ext_getElem (by simp [hl])
    intro i hi hi'
    have q : ∀ (i : Nat) (h1 : i < es.length) (h2 : i < f.length), (es[i].1, es[i].2.1) = (ek f[i].1, ew f[i].2) := fun i h1 h2 => by
      have := congrArg (·[i]?) hm
      simpa [h1, h2] using this
    simp only [List.getElem_map, List.getElem_modify, List.getElem_set]
    by_cases e : j = i
    · subst e; simp
    · simp only [e, if_false]
      simp at hi
      exact q i hi (by omega)

theorem map_erase {α β : Type} (g : α → β) : ∀ (l : List α) (i : Nat), (l.eraseIdx i).map g = (l.map g).eraseIdx i
  | [], i => by simp
  | x :: l, 0 => by simp
  | x :: l, i + 1 => by simp [map_erase g l i]

theorem map_del (hk : KeyFit kk ek) {h : AHeap} {id c : Nat} {es : Ents} {f : List (κ × V)} (hid : h id = some (.map es c)) (hm : MapIs ek ew es f) (hn : AKeys f) {k : κ} {K : AV → AHeap → Prop}
    (kk1 : ∀ es', MapIs ek ew es' (adel f k) → K (.tup []) (upd h id (.map es' c))) : mapA h (.del kk) [.map id, ek k] K := by
  rcases mfind_is hk (k := k) (i := 0) hm with ⟨a, b⟩ | ⟨j, w, a, b, hj⟩
  · refine ⟨(.tup [], some (id, .map es c)), by simp [mapF, ments, hid, hk.ok, b], kk1 _ ?_⟩
    have : adel f k = f := by
      have := alook_none.1 a
      rw [List.any_eq_false] at this
      exact List.filter_eq_self.2 fun p hp => by simpa using this p hp
    rw [this]; exact hm
  · rw [Nat.zero_add] at b
    refine ⟨(.tup [], some (id, .map (es.eraseIdx j) c)), by simp [mapF, ments, hid, hk.ok, b], kk1 _ ?_⟩
    obtain ⟨hlt, h1, h2⟩ := List.findIdx?_eq_some_iff_getElem.1 hj
    have : adel f k = f.eraseIdx j := by
      have hnd : (f.map (·.1)).Nodup := hn
      simp at h1
      have e0 : f = f.take j ++ f[j] :: f.drop (j + 1) := by rw [← List.drop_eq_getElem_cons hlt, List.take_append_drop]
      have key : ∀ p ∈ f.take j ++ f.drop (j + 1), ¬ p.1 = k := by
        intro p hp e
        rw [e0] at hnd
        simp only [List.map_append, List.map_cons] at hnd
        rw [List.nodup_append] at hnd
        obtain ⟨_, n2, n3⟩ := hnd
        rw [List.nodup_cons] at n2
        rcases List.mem_append.1 hp with hp | hp
        · exact n3 _ (List.mem_map_of_mem hp) _ (List.mem_cons_self) (by rw [e, h1])
        · exact n2.1 (by rw [h1, ← e]; exact List.mem_map_of_mem hp)
      unfold adel
      rw [List.eraseIdx_eq_take_drop_succ]
      conv => lhs; rw [e0]
      rw [List.filter_append, List.filter_cons]
      simp only [h1, decide_true, Bool.not_true, Bool.false_eq_true, if_false]
      rw [← List.filter_append]
      exact List.filter_eq_self.2 fun p hp => by simpa using key p hp
    rw [this]
    unfold MapIs at *
    rw [map_erase, map_erase, hm]

theorem map_len {h : AHeap} {id c : Nat} {es : Ents} {f : List (κ × V)} (hid : h id = some (.map es c)) (hm : MapIs ek ew es f) {K : AV → AHeap → Prop} (kk1 : K (.int .i64 f.length) h) : mapA h .len [.map id] K :=
  ⟨(.int .i64 f.length, none), by simp [mapF, ments, hid, MapIs_len hm], kk1⟩
theorem map_clr {h : AHeap} {id c : Nat} {es : Ents} (hid : h id = some (.map es c)) {K : AV → AHeap → Prop} (kk1 : K (.tup []) (upd h id (.map [] c))) : mapA h .clr [.map id] K :=
  ⟨(.tup [], some (id, .map [] c)), by simp [mapF, ments, hid], kk1⟩
end

def kI (n : Int) : AV := .int .i64 n
theorem kI_fit : KeyFit (.c .i) kI := ⟨fun _ => rfl, fun a b => by simp [keyEq, kI, eqCell]⟩
def kI2 (p : Int × Int) : AV := .agg [.int .i64 p.1, .int .i64 p.2]
theorem kI2_fit : KeyFit (.a 2 .i) kI2 := ⟨fun _ => rfl, fun a b => by
  obtain ⟨a1, a2⟩ := a; obtain ⟨b1, b2⟩ := b
  simp only [keyEq, kI2, List.replicate, eqCells, eqCell, if_true]
  by_cases h1 : a1 = b1 <;> by_cases h2 : a2 = b2 <;> simp [h1, h2]⟩
def kS (n : ByteArray) : AV := .str n

end Go.Proofs.YteijaibggalapaaGreatDoor.E
