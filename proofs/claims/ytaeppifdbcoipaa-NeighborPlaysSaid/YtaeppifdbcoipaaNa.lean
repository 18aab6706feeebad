/-
  Neighbours: the plain table.
-/
import Derived.Test.YtaeppifdbcoipaaEQ
namespace Go.Proofs.Ytaeppifdbcoipaa
open Go E
set_option linter.unusedVariables false
set_option linter.unusedSimpArgs false
set_option linter.unusedSectionVars false

structure En where
  node : Int
  rank : Int
  ver : Int
  cost : Int
  heard : Int
  deriving DecidableEq
def encE (e : En) : List AV := [.int .i64 e.node, .int .i64 e.rank, .int .i64 e.ver, .int .i64 e.cost, .int .i64 e.heard]
theorem encE_len (e : En) : (encE e).length = 5 := rfl
theorem encE_sca (e : En) : (encE e).all scalar = true := rfl

def rightE (e : En) : Bool := decide (0 ≤ e.node ∧ e.node ≤ 63 ∧ 0 ≤ e.rank ∧ e.rank ≤ 65535 ∧ 0 ≤ e.ver ∧ e.ver ≤ 255 ∧ 128 ≤ e.cost ∧ e.cost ≤ 65535 ∧ 0 ≤ e.heard ∧ e.heard ≤ 2305843009213693952)
theorem rightE_iff {e : En} : rightE e = true ↔ (0 ≤ e.node ∧ e.node ≤ 63 ∧ 0 ≤ e.rank ∧ e.rank ≤ 65535 ∧ 0 ≤ e.ver ∧ e.ver ≤ 255 ∧ 128 ≤ e.cost ∧ e.cost ≤ 65535 ∧ 0 ≤ e.heard ∧ e.heard ≤ 2305843009213693952) := decide_eq_true_iff

def cmpZ (a b : Int) : Int := if a < b then -1 else if b < a then 1 else 0
def orZ : List Int → Int
  | [] => 0
  | n :: l => if n = 0 then orZ l else n
/-- How one entry is against another one. -/
def worseE (a b : En) : Int := orZ [cmpZ a.cost b.cost, cmpZ a.rank b.rank, cmpZ b.heard a.heard, cmpZ a.node b.node]
def nodeC (a b : En) : Int := cmpZ a.node b.node

theorem worseE_cost {a b : En} (h : a.cost ≠ b.cost) : (0 < worseE a b) = (b.cost < a.cost) := by
  unfold worseE orZ cmpZ
  by_cases h1 : a.cost < b.cost
  · simp [h1]; omega
  · have h2 : b.cost < a.cost := by omega
    simp [h1, h2]

/-- The first of the worst ones. -/
def maxL (c : En → En → Int) : En → List En → En
  | m, [] => m
  | m, x :: l => maxL c (if 0 < c x m then x else m) l
theorem maxL_mem (c : En → En → Int) : ∀ (m : En) (l : List En), maxL c m l ∈ m :: l
  | m, [] => by simp [maxL]
  | m, x :: l => by
    unfold maxL
    have := maxL_mem c (if 0 < c x m then x else m) l
    rcases List.mem_cons.1 this with h | h
    · rw [h]; split <;> simp
    · simp [h]
theorem maxL_snoc (c : En → En → Int) : ∀ (m : En) (l : List En) (x : En), maxL c m (l ++ [x]) = if 0 < c x (maxL c m l) then x else maxL c m l
  | m, [], x => rfl
  | m, y :: l, x => by simp only [List.cons_append, maxL]; exact maxL_snoc c _ l x

/-- Where all costs are unlike, the worst one costs the most. -/
theorem maxL_cost : ∀ (l : List En) (m : En), ((m :: l).map (·.cost)).Nodup → ∀ x ∈ m :: l, x.cost ≤ (maxL worseE m l).cost := by
  intro l
  induction l using snocI with
  | h0 => intro m _ x hx; simp at hx; subst hx; exact Int.le_refl _
  | h1 l y ih =>
    intro m hn x hx
    have hn1 : ((m :: l).map (·.cost)).Nodup := by
      have : (m :: (l ++ [y])).map (·.cost) = (m :: l).map (·.cost) ++ [y.cost] := by simp
      rw [this, List.nodup_append] at hn; exact hn.1
    have hne : ∀ z ∈ m :: l, y.cost ≠ z.cost := by
      have : (m :: (l ++ [y])).map (·.cost) = (m :: l).map (·.cost) ++ [y.cost] := by simp
      rw [this, List.nodup_append] at hn
      intro z hz e
      exact hn.2.2 _ (List.mem_map_of_mem hz) y.cost (by simp) e.symm
    have hm := maxL_mem worseE m l
    rw [maxL_snoc]
    have hw := worseE_cost (hne _ hm)
    have hx' : x ∈ m :: l ∨ x = y := by
      simp only [List.mem_cons, List.mem_append, List.not_mem_nil, or_false] at hx ⊢
      rcases hx with h | h | h
      · exact .inl (.inl h)
      · exact .inl (.inr h)
      · exact .inr h
    by_cases hc : 0 < worseE y (maxL worseE m l)
    · rw [if_pos hc]
      rw [hw] at hc
      rcases hx' with h | h
      · have := ih m hn1 x h; omega
      · subst h; omega
    · rw [if_neg hc]
      rw [hw] at hc
      rcases hx' with h | h
      · exact ih m hn1 x h
      · subst h; omega

abbrev Tb := List (Int × En)
def tbOk (f : Tb) : Prop := AKeys f ∧ ∀ p ∈ f, p.1 = p.2.node
def vals (f : Tb) : List En := f.map (·.2)
def allN (f : Tb) : List En := isort nodeC (vals f)

/-- What a put does: the table, who is driven out, what is wrong. -/
def putN (most : Int) (kept : List Int) (f : Tb) (e : En) : Tb × Int × Int :=
  if rightE e = false then (f, 0, 1) else
  if (alook f e.node).isSome = true ∨ (f.length : Int) < most then (aset f e.node e, -1, 0) else
  match (allN f ++ [e]).filter (fun x => !kept.contains x.node) with
  | [] => (f, 0, 7)
  | m :: l => if (maxL worseE m l).node = e.node then (f, 0, 7) else (aset (adel f (maxL worseE m l).node) e.node e, (maxL worseE m l).node, 0)


/-! ### What a put leaves -/

theorem look_mem {f : Tb} {k : Int} {v : En} (h : alook f k = some v) : (k, v) ∈ f := by
  induction f with
  | nil => simp [alook_nil] at h
  | cons p f ih =>
    rw [alook_cons] at h
    split at h
    · rename_i e; cases h; subst e; simp
    · exact List.mem_cons_of_mem _ (ih h)
theorem look_of_mem {f : Tb} (hn : AKeys f) {k : Int} {v : En} (h : (k, v) ∈ f) : alook f k = some v := by
  induction f with
  | nil => cases h
  | cons p f ih =>
    unfold AKeys at hn ih
    rw [List.map_cons, List.nodup_cons] at hn
    rw [alook_cons]
    rcases List.mem_cons.1 h with e | h
    · subst e; simp
    · rw [if_neg]
      · exact ih hn.2 h
      · rintro e; exact hn.1 (by rw [e]; exact List.mem_map_of_mem h)
theorem tbOk_nil : tbOk [] := ⟨AKeys_nil, by simp⟩
theorem aset_new {f : Tb} {k : Int} (v : En) (h : alook f k = none) : aset f k v = f ++ [(k, v)] := by
  unfold aset; rw [if_neg (by rw [alook_none.1 h]; simp)]
theorem mem_aset {f : Tb} {k : Int} {v : En} {p : Int × En} (h : p ∈ aset f k v) : p = (k, v) ∨ p ∈ f := by
  unfold aset at h
  split at h
  · obtain ⟨q, hq, rfl⟩ := List.mem_map.1 h
    split
    · exact .inl rfl
    · exact .inr hq
  · rcases List.mem_append.1 h with h | h
    · exact .inr h
    · simp at h; exact .inl h
theorem tbOk_set {f : Tb} (h : tbOk f) (e : En) : tbOk (aset f e.node e) :=
  ⟨AKeys_set h.1, fun p hp => by rcases mem_aset hp with rfl | hp; rfl; exact h.2 p hp⟩
theorem tbOk_del {f : Tb} (h : tbOk f) (k : Int) : tbOk (adel f k) := ⟨AKeys_del h.1, fun p hp => h.2 p (List.mem_filter.1 hp).1⟩
theorem adel_len {f : Tb} (hn : AKeys f) {k : Int} (h : (alook f k).isSome = true) : (adel f k).length + 1 = f.length := by
  induction f with
  | nil => simp [alook_nil] at h
  | cons p f ih =>
    unfold AKeys at hn ih
    rw [List.map_cons, List.nodup_cons] at hn
    rw [alook_cons] at h
    unfold adel at ih ⊢
    rw [List.filter_cons]
    by_cases e : p.1 = k
    · have : f.filter (fun p => !decide (p.1 = k)) = f := List.filter_eq_self.2 fun q hq => by
        have : ¬ q.1 = k := fun e2 => hn.1 (by rw [e, ← e2]; exact List.mem_map_of_mem hq)
        simp [this]
      simp [e, this]
    · rw [if_neg e] at h
      simp [e, ih hn.2 h]
theorem mem_allN {f : Tb} {x : En} : x ∈ allN f ↔ x ∈ vals f := mem_isort
theorem allN_len (f : Tb) : (allN f).length = f.length := by unfold allN; rw [isort_len]; simp [vals]
theorem vals_look {f : Tb} (h : tbOk f) {x : En} (hx : x ∈ vals f) : alook f x.node = some x := by
  obtain ⟨p, hp, rfl⟩ := List.mem_map.1 hx
  have := look_of_mem h.1 (k := p.1) (v := p.2) hp
  rw [h.2 p hp] at this; exact this

theorem tbOk_put {most : Int} {kept : List Int} {f : Tb} (h : tbOk f) (e : En) : tbOk (putN most kept f e).1 := by
  unfold putN
  split
  · exact h
  · split
    · exact tbOk_set h e
    · split
      · exact h
      · split
        · exact h
        · exact tbOk_set (tbOk_del h _) e

theorem put_len {most : Int} {kept : List Int} {f : Tb} (h : tbOk f) (hl : (f.length : Int) ≤ most) (e : En) : ((putN most kept f e).1.length : Int) ≤ most := by
  unfold putN
  split
  · exact hl
  · split
    · rename_i h1
      simp only [aset_len]
      split
      · exact hl
      · rename_i h2; have := h1.resolve_left h2; push_cast; omega
    · split
      · exact hl
      · rename_i m l hf
        split
        · exact hl
        · rename_i h1 _ hne
          have hm := maxL_mem worseE m l
          rw [← hf] at hm
          have hm1 := (List.mem_filter.1 hm).1
          have hin : maxL worseE m l ∈ vals f := by
            rcases List.mem_append.1 hm1 with h2 | h2
            · exact mem_allN.1 h2
            · simp at h2; exact absurd (by rw [h2]) hne
          have hlk := vals_look h hin
          have hd := adel_len h.1 (k := (maxL worseE m l).node) (by rw [hlk]; rfl)
          simp only [aset_len]
          split <;> (push_cast; omega)

/-- Who is kept stays there. -/
theorem put_keeps {most node : Int} {f : Tb} (h : tbOk f) (hk : (alook f node).isSome = true) (hn : 0 ≤ node) (e : En) : (alook (putN most [node] f e).1 node).isSome = true ∧ ((putN most [node] f e).2.2 = 0 → (putN most [node] f e).2.1 ≠ node) := by
  unfold putN
  split
  · exact ⟨hk, fun h => by cases h⟩
  · split
    · exact ⟨by simp only [alook_set]; split <;> simp [hk], fun _ => by show (-1 : Int) ≠ node; omega⟩
    · split
      · exact ⟨hk, fun h => by cases h⟩
      · rename_i m l hf
        split
        · exact ⟨hk, fun h => by cases h⟩
        · have hm := maxL_mem worseE m l
          rw [← hf] at hm
          have hm1 := (List.mem_filter.1 hm).2
          have hne : (maxL worseE m l).node ≠ node := by simpa using hm1
          refine ⟨?_, fun _ => hne⟩
          simp only [alook_set, alook_del]
          split
          · rfl
          · rw [if_neg (fun e => hne e.symm)]; exact hk

/-! ### The least costs -/

def belowN (all : List Int) (c : Int) : Nat := (all.filter fun x => decide (x < c)).length
theorem belowN_snoc (all : List Int) (a c : Int) : belowN (all ++ [a]) c = belowN all c + if a < c then 1 else 0 := by
  unfold belowN; rw [List.filter_append, List.length_append, List.filter_cons]
  by_cases h : a < c <;> simp [h]
theorem belowN_le {all : List Int} {a b : Int} (h : a ≤ b) : belowN all a ≤ belowN all b := by
  unfold belowN
  induction all with
  | nil => simp
  | cons x l ih =>
    rw [List.filter_cons, List.filter_cons]
    by_cases h1 : x < a
    · have : x < b := by omega
      simp [h1, this]; exact ih
    · by_cases h2 : x < b
      · simp [h1, h2]; omega
      · simp [h1, h2]; exact ih
theorem belowN_lt {all : List Int} {a b : Int} (hm : a ∈ all) (h : a < b) : belowN all a < belowN all b := by
  have hle := fun l : List Int => belowN_le (all := l) (Int.le_of_lt h)
  unfold belowN at hle ⊢
  induction all with
  | nil => cases hm
  | cons x l ih =>
    rw [List.filter_cons, List.filter_cons]
    by_cases e : x = a
    · subst e
      have h1 : ¬ x < x := by omega
      have := hle l
      simp [h1, h]; omega
    · have hm2 : a ∈ l := by
        rcases List.mem_cons.1 hm with h2 | h2
        · exact absurd h2.symm e
        · exact h2
      have ih2 := ih hm2
      by_cases h1 : x < a
      · have : x < b := by omega
        simp [h1, this]; exact ih2
      · by_cases h2 : x < b
        · simp [h1, h2]; omega
        · simp [h1, h2]; exact ih2
theorem belowN_mem {all : List Int} {a : Int} (hm : a ∈ all) : belowN all a < all.length := by
  unfold belowN
  induction all with
  | nil => cases hm
  | cons x l ih =>
    rw [List.filter_cons]
    have hle : (l.filter fun y => decide (y < a)).length ≤ l.length := List.length_filter_le _ _
    by_cases e : x = a
    · subst e
      simp; omega
    · have hm2 : a ∈ l := by
        rcases List.mem_cons.1 hm with h2 | h2
        · exact absurd h2.symm e
        · exact h2
      have ih2 := ih hm2
      split <;> (simp only [List.length_cons]; omega)

structure Best (most : Int) (all : List Int) (f : Tb) : Prop where
  ok : tbOk f
  len : (f.length : Int) = min (all.length : Int) most
  mem : ∀ x ∈ vals f, x.cost ∈ all
  nd : ((vals f).map (·.cost)).Nodup
  low : ∀ x ∈ vals f, (belowN all x.cost : Int) < most
  node : ∀ x ∈ vals f, x.node < all.length

theorem cost_inj {l : List En} (hn : (l.map (·.cost)).Nodup) {a b : En} (ha : a ∈ l) (hb : b ∈ l) (e : a.cost = b.cost) : a = b := by
  obtain ⟨i, hi⟩ := List.mem_iff_getElem?.1 ha
  obtain ⟨j, hj⟩ := List.mem_iff_getElem?.1 hb
  obtain ⟨i1, i2⟩ := List.getElem?_eq_some_iff.1 hi
  obtain ⟨j1, j2⟩ := List.getElem?_eq_some_iff.1 hj
  have : i = j := (List.getElem_inj (xs := l.map (·.cost)) hn (i := i) (j := j) (h₀ := by simpa using i1) (h₁ := by simpa using j1)).1 (by simp [i2, j2, e])
  subst this
  rw [← i2, ← j2]

theorem best_step {most : Int} {all : List Int} {f : Tb} (hm : 1 ≤ most) (b : Best most all f) {c : Int} (hc : c ∉ all) (hr : 128 ≤ c ∧ c ≤ 65535) (hl : all.length < 40) : Best most (all ++ [c]) (putN most [] f ⟨all.length, 0, 0, c, 0⟩).1 := by
  generalize he : (⟨all.length, 0, 0, c, 0⟩ : En) = e
  have hen : e.node = all.length := by rw [← he]
  have hec : e.cost = c := by rw [← he]
  have hre : rightE e = true := by rw [rightE_iff, ← he]; simp; omega
  have hno : alook f e.node = none := by
    cases h : alook f e.node with
    | none => rfl
    | some v =>
      have hmem := look_mem h
      have h1 := b.ok.2 _ hmem
      have h2 := b.node v (List.mem_map_of_mem hmem)
      simp only at h1
      omega
  have newc : ∀ x ∈ vals f, x.cost ≠ c := fun x hx h => hc (by rw [← h]; exact b.mem x hx)
  have hlen := b.len
  unfold putN
  rw [if_neg (by rw [hre]; simp)]
  by_cases hroom : (f.length : Int) < most
  · rw [if_pos (.inr hroom), aset_new e hno]
    have hv : vals (f ++ [(e.node, e)]) = vals f ++ [e] := by simp [vals]
    have hall : (all.length : Int) < most := by omega
    refine ⟨by have := tbOk_set b.ok e; rwa [aset_new e hno] at this, by simp only [List.length_append, List.length_cons, List.length_nil]; push_cast; omega, ?_, ?_, ?_, ?_⟩
    · rw [hv]; intro x hx
      rcases List.mem_append.1 hx with h | h
      · exact List.mem_append_left _ (b.mem x h)
      · simp at h; subst h; simp [hec]
    · rw [hv, List.map_append, List.nodup_append]
      refine ⟨b.nd, by simp, ?_⟩
      intro y hy z hz
      obtain ⟨x, hx, rfl⟩ := List.mem_map.1 hy
      simp at hz; subst hz
      rw [hec]; exact newc x hx
    · rw [hv]; intro x hx
      have hin : x.cost ∈ all ++ [c] := by
        rcases List.mem_append.1 hx with h | h
        · exact List.mem_append_left _ (b.mem x h)
        · simp at h; subst h; simp [hec]
      have := belowN_mem hin
      simp only [List.length_append, List.length_cons, List.length_nil] at this
      omega
    · rw [hv]; intro x hx
      simp only [List.length_append, List.length_cons, List.length_nil]
      rcases List.mem_append.1 hx with h | h
      · have := b.node x h; push_cast; omega
      · simp at h; subst h; rw [hen]; push_cast; omega
  · rw [if_neg (by rw [hno]; simp; omega)]
    have hfilt : (allN f ++ [e]).filter (fun x => !([] : List Int).contains x.node) = allN f ++ [e] := List.filter_eq_self.2 fun _ _ => by simp
    rw [hfilt]
    have hfull : (f.length : Int) = most := by omega
    have hnd : ((allN f ++ [e]).map (·.cost)).Nodup := by
      rw [List.map_append, List.nodup_append]
      refine ⟨?_, by simp, ?_⟩
      · exact (((isort_perm (c := nodeC) (vals f)).map (·.cost)).nodup_iff).2 b.nd
      · intro y hy z hz
        obtain ⟨x, hx, rfl⟩ := List.mem_map.1 hy
        simp at hz; subst hz
        rw [hec]; exact newc x (mem_allN.1 hx)
    cases hL : allN f ++ [e] with
    | nil => simp at hL
    | cons m l =>
      simp only
      rw [hL] at hnd
      have hbig := maxL_cost l m hnd
      have hmm := maxL_mem worseE m l
      generalize maxL worseE m l = o at *
      rw [← hL] at hbig hmm
      by_cases hoe : o.node = e.node
      · rw [if_pos hoe]
        have hoe' : o = e := by
          rcases List.mem_append.1 hmm with h | h
          · have := b.node o (mem_allN.1 h); omega
          · simpa using h
        subst hoe'
        refine ⟨b.ok, by simp only [List.length_append, List.length_cons, List.length_nil]; push_cast; omega, fun x hx => List.mem_append_left _ (b.mem x hx), b.nd, fun x hx => ?_, fun x hx => ?_⟩
        · rw [belowN_snoc]
          have h1 := hbig x (List.mem_append_left _ (mem_allN.2 hx))
          rw [if_neg (by omega)]; exact b.low x hx
        · have := b.node x hx; simp only [List.length_append, List.length_cons, List.length_nil]; push_cast; omega
      · rw [if_neg hoe]
        have hoin : o ∈ vals f := by
          rcases List.mem_append.1 hmm with h | h
          · exact mem_allN.1 h
          · simp at h; exact absurd (by rw [h]) hoe
        have hlk := vals_look b.ok hoin
        have hd := adel_len b.ok.1 (k := o.node) (by rw [hlk]; rfl)
        have hno2 : alook (adel f o.node) e.node = none := by rw [alook_del]; split; rfl; exact hno
        have hco : c < o.cost := by
          have h1 := hbig e (by simp)
          have h2 := newc o hoin
          rw [hec] at h1; omega
        rw [aset_new e hno2]
        have hv : vals (adel f o.node ++ [(e.node, e)]) = vals (adel f o.node) ++ [e] := by simp [vals]
        have hsub : ∀ x ∈ vals (adel f o.node), x ∈ vals f ∧ x.node ≠ o.node := by
          intro x hx
          obtain ⟨p, hp, rfl⟩ := List.mem_map.1 hx
          obtain ⟨h1, h2⟩ := List.mem_filter.1 hp
          refine ⟨List.mem_map_of_mem h1, ?_⟩
          rw [← b.ok.2 p h1]; simpa using h2
        have hlow := b.low o hoin
        refine ⟨by have := tbOk_set (tbOk_del b.ok o.node) e; rwa [aset_new e hno2] at this, by simp only [List.length_append, List.length_cons, List.length_nil]; push_cast; omega, ?_, ?_, ?_, ?_⟩
        · rw [hv]; intro x hx
          rcases List.mem_append.1 hx with h | h
          · exact List.mem_append_left _ (b.mem x (hsub x h).1)
          · simp at h; subst h; simp [hec]
        · rw [hv, List.map_append, List.nodup_append]
          refine ⟨?_, by simp, ?_⟩
          · refine b.nd.sublist (List.Sublist.map _ ?_)
            unfold vals adel
            exact List.Sublist.map _ List.filter_sublist
          · intro y hy z hz
            obtain ⟨x, hx, rfl⟩ := List.mem_map.1 hy
            simp at hz; subst hz
            rw [hec]; exact newc x (hsub x hx).1
        · rw [hv]; intro x hx
          rw [belowN_snoc]
          rcases List.mem_append.1 hx with h | h
          · obtain ⟨h1, h2⟩ := hsub x h
            have h3 := hbig x (List.mem_append_left _ (mem_allN.2 h1))
            have h4 : x.cost ≠ o.cost := fun e2 => h2 (by rw [cost_inj b.nd h1 hoin e2])
            have h5 := belowN_lt (b.mem x h1) (show x.cost < o.cost by omega)
            split <;> (push_cast; omega)
          · simp at h; subst h
            rw [hec, if_neg (by omega)]
            have := belowN_le (all := all) (Int.le_of_lt hco)
            push_cast; omega
        · rw [hv]; intro x hx
          simp only [List.length_append, List.length_cons, List.length_nil]
          rcases List.mem_append.1 hx with h | h
          · have := b.node x (hsub x h).1; push_cast; omega
          · simp at h; subst h; rw [hen]; push_cast; omega

end Go.Proofs.Ytaeppifdbcoipaa
