/-
  Texts of addresses: the document's are the program's, and each is parsed as it was.
-/
import Derived.Test.YtdlghfekgecjjaaDoorAr
namespace Go.Proofs.YtdlghfekgecjjaaDoor
open Go E
set_option linter.unusedVariables false
set_option linter.unusedSimpArgs false
set_option maxRecDepth 100000

/-! ### The longest run: both look for the same -/

def zrB : List Bool → Nat
  | [] => 0
  | b :: l => if b then zrB l + 1 else 0
def zB (l : List Int) : List Bool := l.map fun x => decide (x = 0)
theorem zr_B : ∀ l : List Int, zr l = zrB (zB l)
  | [] => rfl
  | x :: l => by
    have ih := zr_B l
    by_cases h : x = 0
    · simp [zr, zB, zrB, h, ih]
    · simp [zr, zB, zrB, h]
theorem zB_drop (l : List Int) (i : Nat) : zB (l.drop i) = (zB l).drop i := by simp [zB]
def runFB (p : List Bool) : Nat → Nat → Int → Int → Int × Int
  | 0, _, a, z => (a, z)
  | f + 1, i, a, z => if i < 8 then
      (if z < zrB (p.drop i) then runFB p f (i + zrB (p.drop i) + 1) i (zrB (p.drop i)) else runFB p f (i + zrB (p.drop i) + 1) a z)
    else (a, z)
theorem runF_B (g : List Int) : ∀ (f i : Nat) (a z : Int), runF g f i a z = runFB (zB g) f i a z
  | 0, _, _, _ => rfl
  | f + 1, i, a, z => by
    have e : zr (g.drop i) = zrB ((zB g).drop i) := by rw [zr_B, zB_drop]
    unfold runF runFB
    rw [e, runF_B g f, runF_B g f]
def rrFB (p : List Bool) : Nat → Int × Int
  | 0 => (0, 1)
  | i + 1 => if (rrFB p i).2 < (zrB (p.drop i) : Int) then ((i : Int), (zrB (p.drop i) : Int)) else rrFB p i
theorem rrF_B (g : List Int) : ∀ i, rrF g i = rrFB (zB g) i
  | 0 => rfl
  | i + 1 => by
    have e : zr (g.drop i) = zrB ((zB g).drop i) := by rw [zr_B, zB_drop]
    unfold rrF rrFB
    rw [e, rrF_B g i]

def sameB (p : List Bool) : Bool :=
  let r := runFB p 8 0 0 0
  let q := rrFB p 8
  (decide (r.2 < 2) && !decide (1 < q.2)) || (decide (2 ≤ r.2) && decide (q = r) && decide (r.2 ≤ (zrB (p.drop r.1.toNat) : Int)))
theorem same_all : ∀ b0 b1 b2 b3 b4 b5 b6 b7 : Bool, sameB [b0, b1, b2, b3, b4, b5, b6, b7] = true := by decide +kernel

theorem same_run (g : List Int) (h8 : g.length = 8) : (runI g = (0, 0) ∧ ¬ 1 < (rrF g 8).2) ∨ (2 ≤ (runI g).2 ∧ rrF g 8 = runI g ∧ (runI g).2 ≤ (zr (g.drop (runI g).1.toNat) : Int)) := by
  have hs : sameB (zB g) = true := by
    obtain ⟨x0, x1, x2, x3, x4, x5, x6, x7, rfl⟩ := len8 h8
    exact same_all _ _ _ _ _ _ _ _
  unfold sameB at hs
  simp only [← runF_B, ← rrF_B, Bool.or_eq_true, Bool.and_eq_true, Bool.not_eq_true', decide_eq_true_eq, decide_eq_false_iff_not] at hs
  unfold runI
  simp only
  rcases hs with ⟨h1, h2⟩ | ⟨⟨h1, h2⟩, h3⟩
  · rw [if_pos h1]; exact .inl ⟨rfl, h2⟩
  · rw [if_neg (by omega)]
    refine .inr ⟨h1, h2, ?_⟩
    rw [← zB_drop, ← zr_B] at h3
    exact h3

/-! ### Joined groups -/

theorem lastI_app {l m : List Int} (h : m ≠ []) : lastI (l ++ m) = lastI m := by
  unfold lastI
  rw [List.getLast?_append]
  cases e : m.getLast? with
  | none => exact absurd (List.getLast?_eq_none_iff.1 e) h
  | some x => rfl
theorem lastI_mem {l : List Int} (h : l ≠ []) : lastI l ∈ l := by
  unfold lastI
  rw [List.getLast?_eq_some_getLast h]
  exact List.getLast_mem h
theorem hexL_ne (n : Int) : hexL n ≠ [] := fun e => by have := hexL_len n; rw [e] at this; simp at this
theorem joinS_snoc (l : List Int) (x : Int) : joinS (l ++ [x]) = (if l = [] then [] else joinS l ++ [58]) ++ hexL x := by
  cases l with
  | nil => simp [joinS, joinL]
  | cons y r => simp [joinS, joinL, List.flatMap_append]
theorem joinS_ne {l : List Int} (h : l ≠ []) : joinS l ≠ [] := by
  cases l with
  | nil => exact absurd rfl h
  | cons x r =>
    intro e
    have : hexL x ++ (r.map hexL).flatMap (fun y => (58 : Int) :: y) = [] := e
    exact hexL_ne x (List.append_eq_nil_iff.1 this).1
theorem joinS_last {l : List Int} (hg : gOk l) (h : l ≠ []) : lastI (joinS l) ≠ 58 := by
  obtain ⟨i, x, rfl⟩ : ∃ i x, l = i ++ [x] := ⟨_, _, (List.dropLast_concat_getLast h).symm⟩
  rw [joinS_snoc, lastI_app (hexL_ne x)]
  have hx := hg x (by simp)
  exact (hexL_byte hx.1 hx.2 _ (lastI_mem (hexL_ne x))).2.2

theorem seg1 {g : List Int} (hg : gOk g) (a z : Int) : ∀ k, k ≤ g.length → (∀ i, i < k → inR a z i = false) → rtF g a z k = joinS (g.take k)
  | 0, _, _ => by simp [rtF, joinS, joinL]
  | k + 1, hk, hr => by
    have hk' : k < g.length := by omega
    have ih := seg1 hg a z k (by omega) fun i hi => hr i (by omega)
    have eg : g.getD k 0 = g[k] := by simp [hk']
    rw [rtF_out (hr k (by omega)), ih, List.take_succ_eq_append_getElem hk', joinS_snoc, eg]
    by_cases h0 : g.take k = []
    · rw [if_pos h0, h0, if_neg (by simp [joinS, joinL])]; rfl
    · rw [if_neg h0, if_pos ⟨joinS_ne h0, joinS_last (fun x hx => hg x (List.mem_of_mem_take hx)) h0⟩]

theorem seg2 {g : List Int} (hg : gOk g) {A Z : Nat} (hZ : 2 ≤ Z) (hA : A ≤ g.length) : ∀ j, j < Z → rtF g (A : Int) (Z : Int) (A + j + 1) = joinS (g.take A) ++ [58, 58]
  | 0, _ => by
    have hin : inR (A : Int) (Z : Int) (A + 0) = true := by
      unfold inR
      rw [decide_eq_true (by omega), decide_eq_true (by omega), decide_eq_true (by omega)]; rfl
    rw [rtF_in hin, if_pos (by simp)]
    rw [Nat.add_zero, seg1 hg _ _ A hA fun i hi => by unfold inR; rw [decide_eq_false (show ¬ (A : Int) ≤ (i : Int) by omega)]; simp]
  | j + 1, hj => by
    have hin : inR (A : Int) (Z : Int) (A + (j + 1)) = true := by
      unfold inR
      rw [decide_eq_true (by omega), decide_eq_true (by omega), decide_eq_true (by omega)]; rfl
    rw [rtF_in hin, if_neg (by omega)]
    exact seg2 hg hZ hA j (by omega)

theorem seg3 {g : List Int} (hg : gOk g) {A Z : Nat} (hZ : 2 ≤ Z) (hA : A + Z ≤ g.length) : ∀ j, A + Z + j ≤ g.length → rtF g (A : Int) (Z : Int) (A + Z + j) = joinS (g.take A) ++ [58, 58] ++ joinS ((g.drop (A + Z)).take j)
  | 0, _ => by
    have := seg2 hg hZ (by omega : A ≤ g.length) (Z - 1) (by omega)
    rw [show A + (Z - 1) + 1 = A + Z by omega] at this
    rw [Nat.add_zero, this]; simp [joinS, joinL]
  | j + 1, hj => by
    have hk' : j < (g.drop (A + Z)).length := by rw [List.length_drop]; omega
    have ih := seg3 hg hZ hA j (by omega)
    have hout : inR (A : Int) (Z : Int) (A + Z + j) = false := by
      unfold inR
      rw [decide_eq_false (show ¬ ((A + Z + j : Nat) : Int) < (A : Int) + (Z : Int) by omega)]; simp
    have eg : g.getD (A + Z + j) 0 = (g.drop (A + Z))[j] := by
      rw [List.getElem_drop, List.getD_eq_getElem?_getD, List.getElem?_eq_getElem (by omega)]; rfl
    rw [show A + Z + (j + 1) = (A + Z + j) + 1 by omega, rtF_out hout, ih, List.take_succ_eq_append_getElem hk', joinS_snoc, eg]
    by_cases h0 : (g.drop (A + Z)).take j = []
    · rw [if_pos h0, h0]
      have e0 : joinS (g.take A) ++ [58, 58] ++ joinS [] = joinS (g.take A) ++ [58, 58] := by simp [joinS, joinL]
      rw [e0, if_neg]
      · simp
      · rw [lastI_app (by simp)]
        simp [lastI]
    · have hne := joinS_ne h0
      have hl := joinS_last (fun x hx => hg x (List.mem_of_mem_drop (List.mem_of_mem_take hx))) h0
      rw [if_neg h0, if_pos ⟨by simp, by rw [lastI_app hne]; exact hl⟩]
      simp [List.append_assoc]

/-- The document's text is the program's. -/
theorem rtext_eq (g : List Int) (hg : gOk g) (h8 : g.length = 8) : rtextG g = textG g := by
  unfold rtextG textG
  rcases same_run g h8 with ⟨h1, h2⟩ | ⟨h1, h2, h3⟩
  · rw [h1, if_pos rfl]
    have := seg1 hg (rrF g 8).1 (rrF g 8).2 8 (by omega) fun i hi => by unfold inR; rw [decide_eq_false h2]; rfl
    rw [this, List.take_of_length_le (by omega)]
  · rw [if_neg (by omega), h2]
    obtain ⟨b1, b2, b3⟩ := runI_bound g h8
    obtain ⟨A, hA⟩ := Int.eq_ofNat_of_zero_le b1
    obtain ⟨Z, hZ⟩ := Int.eq_ofNat_of_zero_le b2
    have hZ2 : 2 ≤ Z := by omega
    have hAZ : A + Z ≤ 8 := by omega
    rw [hA, hZ]
    have := seg3 hg hZ2 (show A + Z ≤ g.length by omega) (8 - A - Z) (by omega)
    rw [show A + Z + (8 - A - Z) = 8 by omega] at this
    rw [this, Int.toNat_natCast, Int.toNat_natCast]
    congr 2
    exact List.take_of_length_le (by rw [List.length_drop]; omega)

end Go.Proofs.YtdlghfekgecjjaaDoor
