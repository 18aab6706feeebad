/-
  Ideal ranks in plain Lean: the list of ranks and the work list together.
-/
import Derived.Test.YtaeppifdbcoipaaIi
import Derived.Test.YtaeppifdbcoipaaIb
namespace Go.Proofs.Ytaeppifdbcoipaa
set_option linter.unusedVariables false

theorem sum_set : ∀ {L : List Int} {k : Nat} (h : k < L.length) (v : Int), (L.set k v).sum + L[k] = L.sum + v
  | x :: L, 0, _, v => by simp only [List.set_cons_zero, List.sum_cons, List.getElem_cons_zero]; omega
  | x :: L, k + 1, h, v => by
    have := sum_set (L := L) (k := k) (by simpa using h) v
    simp only [List.set_cons_succ, List.sum_cons, List.getElem_cons_succ]; omega

theorem sum_nn : ∀ {L : List Int}, (∀ x ∈ L, 0 ≤ x) → 0 ≤ L.sum
  | [], _ => by simp
  | x :: L, h => by
    have h1 := h x (by simp)
    have h2 := sum_nn (L := L) fun y hy => h y (by simp [hy])
    simp only [List.sum_cons]; omega

theorem sum_rep (n : Nat) (v : Int) : (List.replicate n v).sum = n * v := by
  induction n with
  | zero => simp
  | succ n ih => rw [List.replicate_succ, List.sum_cons, ih, Int.natCast_succ, Int.add_mul]; omega

/-- The rank of a node. -/
def rk (L : List Int) (b : Nat) : Int := L.getD b 65535
theorem rk_set {L : List Int} {k : Nat} (h : k < L.length) (v : Int) : rk (L.set k v) = fun b => if b = k then v else rk L b := by
  funext b
  unfold rk
  rw [List.getD_eq_getElem?_getD, List.getElem?_set, List.getD_eq_getElem?_getD]
  by_cases e : k = b
  · subst e; simp [h]
  · rw [if_neg e, if_neg (Ne.symm e)]
theorem rk_at {L : List Int} {k : Nat} (h : k < L.length) : rk L k = L[k] := by simp [rk, h]

def jb2 (x : Jb) : Int × Nat := (x.rank, x.node.toNat)

/-- What holds at the head of the work list's loop. -/
structure RkIn (N : Nat) (step : Nat → Int → Nat → Int) (root : Int) (L : List Int) (l : List Jb) (c : Int) : Prop where
  len : L.length = N
  lab : Lab N step root (l.map jb2) (rk L)
  lo : ∀ b, root ≤ rk L b
  nn : ∀ x ∈ l, 0 ≤ x.node
  cnt : c + L.sum ≤ 1 + (N : Int) * 65535
  c1 : (l.length : Int) ≤ c

/-- What holds while node i's neighbours are gone through. -/
structure RkM (N : Nat) (step : Nat → Int → Nat → Int) (root : Int) (i : Nat) (nb : List Int) (j : Nat) (L : List Int) (l : List Jb) (c : Int) (m : Int) : Prop where
  len : L.length = N
  lab : LabM N step root (l.map jb2) (rk L) i (fun b => (b : Int) ∈ nb.take j)
  nn : ∀ x ∈ l, 0 ≤ x.node
  cnt : c + L.sum ≤ 1 + (N : Int) * 65535
  c1 : (l.length : Int) ≤ c
  meas : 2 * L.sum + l.length ≤ m

theorem lo_nn {L : List Int} {root : Int} (h0 : 0 ≤ root) (lo : ∀ b, root ≤ rk L b) : 0 ≤ L.sum := by
  refine sum_nn fun x hx => ?_
  obtain ⟨k, hk, rfl⟩ := List.mem_iff_getElem.1 hx
  have := lo k
  rw [rk_at hk] at this; omega

section
variable {N : Nat} {step : Nat → Int → Nat → Int} {root : Int}

theorem LabM.weaken {J : List (Int × Nat)} {B : Nat → Int} {i : Nat} {P P' : Nat → Prop} (l : LabM N step root J B i P) (h : ∀ b, P' b → P b) : LabM N step root J B i P' :=
  ⟨l.rt, l.top, l.lo, l.by', l.node, l.todo, fun b hb hb0 hp => l.done b hb hb0 (h b hp)⟩

theorem RkIn.start (ok : Step2 N step) (hN : 0 < N) (h0 : root ≤ 65535) : RkIn N step root ((List.replicate N 65535).set 0 root) [⟨root, 0, 0⟩] 1 := by
  have hl : 0 < (List.replicate N (65535 : Int)).length := by rw [List.length_replicate]; exact hN
  have e0 : rk (List.replicate N (65535 : Int)) = fun _ => 65535 := by
    funext b; unfold rk
    rw [List.getD_eq_getElem?_getD, List.getElem?_replicate]
    split <;> rfl
  have e : rk ((List.replicate N 65535).set 0 root) = fun b => if b = 0 then root else 65535 := by rw [rk_set hl, e0]
  have s := sum_set hl root
  rw [sum_rep, List.getElem_replicate] at s
  refine ⟨by simp, ⟨?_, fun b => ?_, fun b hb hb0 hbi => ?_, fun j hj => ?_, fun a ha => ?_⟩, fun b => ?_, fun x hx => ?_, ?_, by simp⟩
  · rw [e]; rfl
  · rw [e]; simp only; split <;> omega
  · rw [e] at hbi; simp only [if_neg hb0] at hbi; exact absurd rfl hbi
  · simp only [List.map_cons, List.map_nil, List.mem_singleton] at hj
    subst hj
    rw [e]; exact ⟨hN, by simp [jb2]⟩
  · rw [e]
    by_cases a0 : a = 0
    · subst a0; exact .inl (by simp [jb2])
    · refine .inr fun b hb hb0 => ?_
      simp only [if_neg a0, if_neg hb0]
      rw [ok.inf]; omega
  · rw [e]; simp only; split <;> omega
  · simp only [List.mem_singleton] at hx; subst hx; simp
  · omega

theorem perm_jb {l : List Jb} {x : Jb} {l' : List Jb} (h : l.Perm (x :: l')) : (l.map jb2).Perm (jb2 x :: l'.map jb2) := h.map jb2

/-- A job whose node has a lower rank by now. -/
theorem RkIn.skip {L : List Int} {l l' : List Jb} {c : Int} {x : Jb} (r : RkIn N step root L l c) (hp : l.Perm (x :: l')) (hx : rk L x.node.toNat < x.rank) : RkIn N step root L l' c := by
  have hl := hp.length_eq
  simp only [List.length_cons] at hl
  have h1 := r.c1
  exact ⟨r.len, r.lab.skip (perm_jb hp) hx, r.lo, fun y hy => r.nn y (hp.mem_iff.2 (by simp [hy])), r.cnt, by omega⟩

/-- A job that is looked at. -/
theorem RkIn.pop {L : List Int} {l l' : List Jb} {c : Int} {x : Jb} (r : RkIn N step root L l c) (hp : l.Perm (x :: l')) (nb : List Int) : x.node.toNat < N ∧ rk L x.node.toNat ≤ x.rank ∧ RkM N step root x.node.toNat nb 0 L l' c (2 * L.sum + l'.length) := by
  have hl := hp.length_eq
  simp only [List.length_cons] at hl
  have h1 := r.c1
  have hn := r.lab.node (jb2 x) (List.mem_map.2 ⟨x, hp.mem_iff.2 (by simp), rfl⟩)
  refine ⟨hn.1, hn.2, ⟨r.len, (r.lab.pop r.lo (perm_jb hp)).weaken fun b hb => by simp at hb, fun y hy => r.nn y (hp.mem_iff.2 (by simp [hy])), r.cnt, by omega, by omega⟩⟩

theorem take_mem {nb : List Int} {j : Nat} (hj : j < nb.length) {b : Int} : b ∈ nb.take (j + 1) ↔ b ∈ nb.take j ∨ b = nb[j] := by
  rw [List.take_succ_eq_append_getElem hj, List.mem_append, List.mem_singleton]

theorem RkM.keep {i j k : Nat} {nb L : List Int} {l : List Jb} {c m : Int} (r : RkM N step root i nb j L l c m) (hj : j < nb.length) (hk : nb[j] = (k : Int)) (h : rk L k ≤ step i (rk L i) k) : RkM N step root i nb (j + 1) L l c m :=
  ⟨r.len, (r.lab.keep h).weaken fun b hb => by
    rcases (take_mem hj).1 hb with h | h
    · exact .inl h
    · exact .inr (by omega), r.nn, r.cnt, r.c1, r.meas⟩

theorem RkM.push (ok : Step2 N step) {i j k : Nat} {nb L : List Int} {l l' : List Jb} {c m : Int} (r : RkM N step root i nb j L l c m) (hj : j < nb.length) (hk : nb[j] = (k : Int)) (hi : i < N) (hkN : k < N) (hki : k ≠ i) (h : step i (rk L i) k < rk L k)
    (hp : l'.Perm (⟨step i (rk L i) k, (k : Int), c⟩ :: l)) : RkM N step root i nb (j + 1) (L.set k (step i (rk L i) k)) l' (c + 1) m := by
  have hkL : k < L.length := by rw [r.len]; exact hkN
  obtain ⟨k0, lm⟩ := r.lab.push ok hi hkN hki h
  have s := sum_set hkL (step i (rk L i) k)
  rw [← rk_at hkL] at s
  have hl := hp.length_eq
  simp only [List.length_cons] at hl
  have h1 := r.c1
  have h2 := r.cnt
  have h3 := r.meas
  have hJ : (l'.map jb2).Perm ((step i (rk L i) k, k) :: l.map jb2) := by simpa [jb2] using hp.map jb2
  refine ⟨by simp [r.len], ?_, fun y hy => ?_, by omega, by omega, by omega⟩
  · rw [rk_set hkL]
    refine LabM.weaken (P := fun b => (b : Int) ∈ nb.take j ∨ b = k) ?_ fun b hb => ?_
    · exact ⟨lm.rt, lm.top, lm.lo, lm.by', fun y hy => lm.node y (hJ.mem_iff.1 hy), fun a ha hai => (lm.todo a ha hai).imp (fun h => hJ.mem_iff.2 h) id, lm.done⟩
    · rcases (take_mem hj).1 hb with h | h
      · exact .inl h
      · exact .inr (by omega)
  · rcases List.mem_cons.1 (hp.mem_iff.1 hy) with rfl | h
    · simp
    · exact r.nn y h

theorem RkM.turn {i : Nat} {nb L : List Int} {l : List Jb} {c m : Int} (r : RkM N step root i nb nb.length L l c m) (h : ∀ b, b < N → b ≠ 0 → (b : Int) ∉ nb → step i (rk L i) b = 65535) : RkIn N step root L l c :=
  ⟨r.len, r.lab.turn fun b hb hb0 hp => h b hb hb0 (by rwa [List.take_length] at hp), r.lab.lo, r.nn, r.cnt, r.c1⟩

theorem RkIn.least (ok : Step2 N step) {L : List Int} {c : Int} (r : RkIn N step root L [] c) : Least N step root (rk L) := r.lab.least ok

end
end Go.Proofs.Ytaeppifdbcoipaa
