/-
  slices.SortFunc at any length: the library's contract, on abstract values.
-/
import Derived.Test.YtaifdlegjhncaaaEQ
import Derived.Shelf.SlSortCmp.WholeK
import Derived.Shelf.SlSortCmp.NoneTotal
import Derived.Shelf.Sort.Plain
import Derived.Shelf.Slices.In.SortNone
namespace Go.Proofs.Ytaifdlegjhncaaa
open Go E Go.Sort
set_option linter.unusedVariables false
set_option linter.unusedSimpArgs false
set_option linter.unusedSectionVars false

section
variable {P : Program} {α : Type} [Inhabited α] {enc : α → List AV} {encV : α → List Value} {k : Nat}

theorem flat_vals (hv : ∀ (W0 : World) (x : α) (l : List Value), VRs W0 (enc x) l ↔ l = encV x) (W0 : World) : ∀ (xs : List α) (l : List Value), VRs W0 (cat enc xs) l ↔ l = xs.flatMap encV
  | [], l => by simp [cat, VRs]
  | x :: xs, l => by
    rw [cat_cons]
    constructor
    · intro h
      obtain ⟨a, b, rfl, ha, hb⟩ := VRs_split h
      rw [(hv W0 x a).1 ha, (flat_vals hv W0 xs b).1 hb]; rfl
    · rintro rfl
      exact VRs_append ((hv W0 x _).2 rfl) ((flat_vals hv W0 xs _).2 rfl)

theorem flat_len (hk : ∀ x, (encV x).length = k) : ∀ (xs : List α), (xs.flatMap encV).length = xs.length * k
  | [] => by simp
  | x :: xs => by rw [List.flatMap_cons, List.length_append, hk, flat_len hk xs, List.length_cons, Nat.succ_mul, Nat.add_comm]
theorem flat_get (hk : ∀ x, (encV x).length = k) (h0 : 0 < k) : ∀ (xs : List α) (j : Nat) (hj : j < xs.length * k), (xs.flatMap encV)[j]? = some ((encV xs.toArray[j / k]!)[j % k]!)
  | [], j, hj => by simp at hj
  | x :: xs, j, hj => by
    rw [List.flatMap_cons]
    by_cases hlt : j < k
    · rw [List.getElem?_append_left (by rw [hk]; exact hlt), Nat.div_eq_of_lt hlt, Nat.mod_eq_of_lt hlt]
      have : (encV x)[j]? = some (encV x)[j]! := by rw [List.getElem!_eq_getElem?_getD, List.getElem?_eq_getElem (by rw [hk]; exact hlt)]; rfl
      simpa using this
    · have hj2 : j - k < xs.length * k := by rw [List.length_cons, Nat.succ_mul] at hj; omega
      rw [List.getElem?_append_right (by rw [hk]; omega), hk, flat_get hk h0 xs (j - k) hj2]
      have e1 : j / k = (j - k) / k + 1 := by
        rw [Nat.div_eq_sub_div h0 (by omega)]
      have e2 : j % k = (j - k) % k := by rw [Nat.mod_eq_sub_mod (by omega)]
      rw [e1, e2]
      simp [Array.getElem!_eq_getD, Array.getD_eq_getD_getElem?]

/-- More blocks, that nobody holds. -/
theorem grow_rel {W0 : World} {h : AHeap} {w : World} (r : Rel W0 h w) (os : Array Obj) : Rel W0 h (grow w os) ∧ Fr W0 h w W0 h (grow w os) := by
  refine ⟨⟨fun p v e => ?_, fun x o hx => ?_⟩, ⟨rfl, rfl, rfl, Nat.le_refl _, by simp [grow], fun b hb hn => ⟨?_, hn⟩, fun b hb hn => hn, fun p v e => e, fun p v e => .inl e⟩⟩
  · have e2 := r.base p v e
    have hlt := cell_lt e2
    rw [← e2]
    simp only [World.cell?, grow]
    rw [Array.getElem?_append_left hlt]
  · obtain ⟨h1, obj, h2, h3⟩ := r.live x o hx
    have hlt := r.lt hx
    exact ⟨h1, obj, by simp only [grow]; rw [Array.getElem?_append_left hlt]; exact h2, h3⟩
  · simp only [grow]
    rw [Array.getElem?_append_left hb]

/-- A comparison's contract, as the library's contract asks it. -/
theorem cmp_lays {g : Nat} {cf : α → α → Int} (hv : ∀ (W0 : World) (x : α) (l : List Value), VRs W0 (enc x) l ↔ l = encV x) (hcmp : ∀ x y, PureA P g [.agg (enc x), .agg (enc y)] emp (.int .i64 (cf x y))) (blk off size : Nat) (w : World) :
    CmpLays P g #[] encV k cf blk off size w := by
  intro m os dk _ x y
  generalize sortWorldK encV k w blk off m dk os = W
  have hr : Rel { W with heap := #[] } emp W := ⟨fun p v e => by simp [World.cell?] at e, fun x o hx => by cases hx⟩
  have ha : VRs { W with heap := #[] } [.agg (enc x), .agg (enc y)] (#[Value.agg (encV x).toArray, .agg (encV y).toArray] ++ #[]).toList := by
    simp only [VRs, VR]
    exact ⟨_, _, rfl, ⟨_, rfl, (hv _ x _).2 rfl⟩, _, _, rfl, ⟨_, rfl, (hv _ y _).2 rfl⟩, rfl⟩
  refine ((hcmp x y).2 _ W _ hr ha).mono fun e w' ⟨W1, v, r, h', h1, h2, h3, h4, h5, h6⟩ => ?_
  subst h5
  simp only [VR] at h2
  subst h2
  refine ⟨h1, w'.drawn - W.drawn, w'.heap.extract W.heap.size w'.heap.size, ?_⟩
  have hd := h4.drawn
  have hs := h4.size
  cases w' with
  | mk heap tape drawn os' output =>
    have e1 := h4.os
    have e2 := h4.tape
    have e3 := h4.output
    simp only at e1 e2 e3 hd hs
    subst e1; subst e2; subst e3
    simp only [grow, World.drewN]
    congr 1
    · apply Array.ext_getElem?
      intro i
      by_cases hi : i < W.heap.size
      · rw [Array.getElem?_append_left hi]; exact (h4.kept i hi rfl).1
      · rw [Array.getElem?_append_right (by omega), Array.getElem?_extract]
        by_cases hi2 : i < heap.size
        · rw [if_pos (by omega)]; congr 1; omega
        · rw [if_neg (by omega), Array.getElem?_eq_none (by omega)]
    · omega

theorem sort_cells {l : List α} {b rest : List Value} {d' : Array α} (hkV : ∀ x, (encV x).length = k) (h0 : 0 < k) (hd : d'.size = l.length) :
    putCells _root_.id 0 (flatK encV k d') (l.flatMap encV ++ b ++ rest).toArray = (d'.toList.flatMap encV ++ b ++ rest).toArray := by
  have e1 := flat_len hkV l
  have e2 : (d'.toList.flatMap encV).length = l.length * k := by rw [flat_len hkV, Array.length_toList, hd]
  apply Array.ext_getElem?
  intro i
  simp only [putCells, Array.getElem?_mapIdx, List.getElem?_toArray]
  by_cases hi : i < l.length * k
  · have hF : i < (flatK encV k d').size := by simp [flatK, hd]; exact hi
    have hg := flat_get hkV h0 d'.toList i (by rw [Array.length_toList, hd]; exact hi)
    rw [List.append_assoc, List.append_assoc, List.getElem?_append_left (by rw [e1]; exact hi), List.getElem?_append_left (by rw [e2]; exact hi), hg, List.getElem?_eq_getElem (by rw [e1]; exact hi), Option.map_some, if_pos ⟨Nat.zero_le _, by omega⟩, Nat.sub_zero, get_flatK _ _ _ i (by rw [hd]; exact hi), Array.toArray_toList]
    rfl
  · have hF : ¬ i < 0 + (flatK encV k d').size := by simp [flatK, hd]; omega
    rw [List.append_assoc, List.append_assoc]
    generalize b ++ rest = br
    rw [List.getElem?_append_right (by rw [e1]; omega), List.getElem?_append_right (by rw [e2]; omega), e1, e2]
    cases br[i - l.length * k]? with
    | none => rfl
    | some x => rw [Option.map_some, if_neg (fun h => hF h.2)]

set_option maxHeartbeats 2000000 in
theorem sort_any {ρ : Shelf.Ren} (L : SlLaysF0.n6 P ρ) (aE : ∀ w, (isAgg (ρ.t 24)).run P w = .ok true w) (zE : ∀ w, (Go.sizeOf (ρ.t 24)).run P w = .ok k w) {fn : Func} (hf : P.funcs[ρ.f 6]? = some fn) (hb : fn.body.isSome = true) (hnm : (fn.name == "runtime.NumGoroutine") = false)
    (hkV : ∀ x, (encV x).length = k) (h0 : 0 < k) (hone : ∀ x, ∀ v ∈ encV x, v.oneCell' = true) (hv : ∀ (W0 : World) (x : α) (l : List Value), VRs W0 (enc x) l ↔ l = encV x) {cf : α → α → Int} (hO : SWO (ltOf cf)) {g : FuncId} (eg : ∀ args w, (callFunc g args).run P w = .ok (.enter g args) w)
    (hcmp : ∀ x y, PureA P g [.agg (enc x), .agg (enc y)] emp (.int .i64 (cf x y))) {l : List α} {id cap tot : Nat} {junk : List AV} {H : AHeap} (hid : H id = some (.cells (cat enc l ++ junk) tot)) (hl : l.length < 4611686018427387904) :
    CallsA P (ρ.f 6) [.sl id 0 l.length cap, .fn g []] H (fun r H' => r = .tup [] ∧ ∃ l' : List α, l'.Perm l ∧ l'.Pairwise (fun a b => ltOf cf b a = false) ∧ H' = upd H id (.cells (cat enc l' ++ junk) tot)) := by
  refine ⟨⟨fn, hf, hb, hnm⟩, fun W0 w cargs hrel hargs => ?_⟩
  simp only [VRs, VR] at hargs
  obtain ⟨v1, l1, e1, ⟨rfl, hcap⟩, v2, l2, rfl, ⟨q, rfl, hq⟩, rfl⟩ := hargs
  subst hq
  have hc : cargs = #[.slice (some ⟨id, 0, none⟩) l.length cap, .func (.func g) #[] #[]] := by rw [← Array.toArray_toList (xs := cargs), e1]
  subst hc
  obtain ⟨cl, rest, t, ho, ht, hcl, hlt, hge⟩ := hrel.cells hid
  obtain ⟨a, b, rfl, ha, hjunk⟩ := VRs_split hcl
  have hA := (flat_vals hv W0 l a).1 ha
  subst hA
  have e1 := flat_len hkV l
  have hH : HoldsK encV k w id 0 l.toArray := fun j hj => by
    have hj' : j < l.length * k := by simpa [flatK] using hj
    constructor
    · have hg := flat_get hkV h0 l j hj'
      rw [get_flatK _ _ _ j (by simpa using hj')]
      simp only [World.cell?, ho, Nat.zero_add, Option.isSome_none, Bool.false_eq_true, if_false, List.getElem?_toArray]
      rw [List.append_assoc, List.getElem?_append_left (by rw [e1]; exact hj'), hg]; rfl
    · simp [World.frozen?, ho]
  refine (AnyQ.slices_SortFunc L k aE zE encV hkV hone cf hO g #[] id 0 cap l.toArray w eg (cmp_lays hv hcmp _ _ _ _) hH hlt (by simpa using hl)).mono fun e w' ⟨he, d', n, os, hp, hs, hw⟩ => ?_
  have hd : d'.size = l.length := by simpa using hp.1
  have hperm : d'.toList.Perm l := by
    have h2 := hp.2.2
    have x1 : d'.extract 0 l.toArray.size = d' := by
      rw [show l.toArray.size = d'.size by simp [hd]]; exact Array.extract_size
    have x2 : l.toArray.extract 0 l.toArray.size = l.toArray := Array.extract_size
    rw [x1, x2] at h2
    exact h2
  have hsort : d'.toList.Pairwise (fun a b => ltOf cf b a = false) := by
    rw [List.pairwise_iff_getElem]
    intro i j hi hj hij
    rw [Array.length_toList] at hi hj
    have := hs i j (Nat.zero_le _) hij (by simp; omega)
    rw [getElem!_pos d' j hj, getElem!_pos d' i hi] at this
    exact this
  have hnew : OR W0 (.cells (cat enc d'.toList ++ junk) tot) (.cells (d'.toList.flatMap encV ++ b ++ rest).toArray t (0, 0)) := by
    simp only [OR]
    have e2 : (d'.toList.flatMap encV).length = l.length * k := by rw [flat_len hkV, Array.length_toList, hd]
    refine ⟨d'.toList.flatMap encV ++ b, rest, t, rfl, ?_, VRs_append ((flat_vals hv W0 _ _).2 rfl) hjunk⟩
    simp only [List.length_append] at ht ⊢
    omega
  obtain ⟨r1, f1⟩ := obj_rel hrel hid hnew
  obtain ⟨r2, f2⟩ := drew_rel (w' := { w with heap := w.heap.setIfInBounds id (.cells (d'.toList.flatMap encV ++ b ++ rest).toArray t (0, 0)), drawn := w.drawn + n }) r1 rfl rfl rfl rfl (Nat.le_add_right _ _)
  obtain ⟨r3, f3⟩ := grow_rel r2 os
  have hworld : w' = grow { w with heap := w.heap.setIfInBounds id (.cells (d'.toList.flatMap encV ++ b ++ rest).toArray t (0, 0)), drawn := w.drawn + n } os := by
    rw [hw]
    unfold sortWorldK putRowK putRow mapBlock Sort.ahead
    congr 2
    apply Array.ext_getElem?
    intro i
    simp only [Array.getElem?_modify, Array.getElem?_setIfInBounds]
    by_cases hi : id = i
    · subst hi
      rw [if_pos rfl, if_pos rfl, if_pos hlt, ho]
      simp only [Option.map_some, onCells]
      rw [sort_cells hkV h0 hd]
    · rw [if_neg hi, if_neg hi]
  rw [hworld]
  exact ⟨W0, _, .tup [], _, he, by simp only [VR]; exact ⟨[], rfl, by simp only [VRs]⟩, r3, (f1.trans f2).trans f3, rfl, d'.toList, hperm, hsort, rfl⟩

theorem sort_none {ρ : Shelf.Ren} (L : SlLaysF0.n6 P ρ) {fn : Func} (hf : P.funcs[ρ.f 6]? = some fn) (hb : fn.body.isSome = true) (hnm : (fn.name == "runtime.NumGoroutine") = false) (g : FuncId) (H : AHeap) :
    CallsA P (ρ.f 6) [.nils, .fn g []] H (fun r H' => r = .tup [] ∧ H' = H) := by
  refine ⟨⟨fn, hf, hb, hnm⟩, fun W0 w cargs hrel hargs => ?_⟩
  simp only [VRs, VR] at hargs
  obtain ⟨v1, l1, e1, rfl, v2, l2, rfl, ⟨q, rfl, hq⟩, rfl⟩ := hargs
  have hc : cargs = #[.slice none 0 0, .func (.func g) #[] q.toArray] := by rw [← Array.toArray_toList (xs := cargs), e1]
  subst hc
  refine (AnyF.slices_SortFunc_none L none 0 _ w).mono fun e w' ⟨he, hw⟩ => ?_
  rw [hw]
  exact ⟨W0, _, .tup [], H, he, by simp only [VR]; exact ⟨[], rfl, by simp only [VRs]⟩, hrel, Fr.refl _ _ _, rfl, rfl⟩

/-! ### Whole numbers -/

theorem sorti_none {ρ : Shelf.Ren} (L : Lays.n189 P ρ) {fn : Func} (hf : P.funcs[ρ.f 189]? = some fn) (hb : fn.body.isSome = true) (hnm : (fn.name == "runtime.NumGoroutine") = false) (H : AHeap) :
    CallsA P (ρ.f 189) [.nils] H (fun r H' => r = .tup [] ∧ H' = H) := by
  refine ⟨⟨fn, hf, hb, hnm⟩, fun W0 w cargs hrel hargs => ?_⟩
  simp only [VRs, VR] at hargs
  obtain ⟨v1, l1, e1, rfl, rfl⟩ := hargs
  have hc : cargs = #[.slice none 0 0] := by rw [← Array.toArray_toList (xs := cargs), e1]
  subst hc
  refine (Any.slices_Sort_int_none L none 0 w).mono fun e w' ⟨he, hw⟩ => ?_
  rw [hw]
  exact ⟨W0, _, .tup [], H, he, by simp only [VR]; exact ⟨[], rfl, by simp only [VRs]⟩, hrel, Fr.refl _ _ _, rfl, rfl⟩

def iV (n : Int) : List Value := [.int .i64 n]
theorem iV_rel (W0 : World) (x : Int) (l : List Value) : VRs W0 (i1 x) l ↔ l = iV x := by
  simp only [i1, VRs, VR, iV]
  constructor
  · rintro ⟨v, l', rfl, rfl, rfl⟩; rfl
  · rintro rfl; exact ⟨_, _, rfl, rfl, rfl⟩

theorem putCells_one (d : Array Int) (c : Array Value) : putCells (Value.int .i64) 0 d c = putCells _root_.id 0 (flatK iV 1 d) c := by
  apply Array.ext_getElem?
  intro i
  simp only [putCells, Array.getElem?_mapIdx]
  cases c[i]? with
  | none => rfl
  | some x =>
    simp only [Option.map_some]
    by_cases hi : i < d.size
    · rw [if_pos ⟨Nat.zero_le _, by omega⟩, if_pos ⟨Nat.zero_le _, by simp [flatK]; omega⟩, Nat.sub_zero, get_flatK _ _ _ i (by omega), Nat.div_one, Nat.mod_one]
      rfl
    · rw [if_neg (by omega), if_neg (by simp [flatK]; omega)]

set_option maxHeartbeats 2000000 in
theorem sorti_any {ρ : Shelf.Ren} (L : Lays.n189 P ρ) {fn : Func} (hf : P.funcs[ρ.f 189]? = some fn) (hb : fn.body.isSome = true) (hnm : (fn.name == "runtime.NumGoroutine") = false) {l : List Int} {id cap tot : Nat} {junk : List AV} {H : AHeap} (hid : H id = some (.cells (cat i1 l ++ junk) tot)) (hl : l.length < 4611686018427387904) :
    CallsA P (ρ.f 189) [.sl id 0 l.length cap] H (fun r H' => r = .tup [] ∧ H' = upd H id (.cells (cat i1 (l.mergeSort fun x y => decide (x ≤ y)) ++ junk) tot)) := by
  have hkV : ∀ x, (iV x).length = 1 := fun _ => rfl
  refine ⟨⟨fn, hf, hb, hnm⟩, fun W0 w cargs hrel hargs => ?_⟩
  simp only [VRs, VR] at hargs
  obtain ⟨v1, l1, e1, ⟨rfl, hcap⟩, rfl⟩ := hargs
  have hc : cargs = #[.slice (some ⟨id, 0, none⟩) l.length cap] := by rw [← Array.toArray_toList (xs := cargs), e1]
  subst hc
  obtain ⟨cl, rest, t, ho, ht, hcl, hlt, hge⟩ := hrel.cells hid
  obtain ⟨a, b, rfl, ha, hjunk⟩ := VRs_split hcl
  have hA := (flat_vals iV_rel W0 l a).1 ha
  subst hA
  have e1 := flat_len hkV l
  have hH : Holds (Value.int .i64) w id 0 l.toArray := fun j hj => by
    have hj' : j < l.length := by simpa using hj
    constructor
    · have hg := flat_get hkV (by omega) l j (by omega)
      rw [Nat.div_one, Nat.mod_one] at hg
      simp only [World.cell?, ho, Nat.zero_add, Option.isSome_none, Bool.false_eq_true, if_false, List.getElem?_toArray]
      rw [List.append_assoc, List.getElem?_append_left (by rw [e1]; omega), hg]; rfl
    · simp [World.frozen?, ho]
  refine (Any.slices_Sort_int L id 0 cap l w hH hlt hl).mono fun e w' ⟨he, n, os, hw⟩ => ?_
  generalize hd' : (l.mergeSort fun x y => decide (x ≤ y)) = m at *
  have hd : m.toArray.size = l.length := by rw [← hd']; simp
  have e2 : (m.flatMap iV).length = l.length * 1 := by rw [flat_len hkV, ← hd]; simp
  have hnew : OR W0 (.cells (cat i1 m ++ junk) tot) (.cells (m.flatMap iV ++ b ++ rest).toArray t (0, 0)) := by
    simp only [OR]
    refine ⟨m.flatMap iV ++ b, rest, t, rfl, ?_, VRs_append ((flat_vals iV_rel W0 _ _).2 rfl) hjunk⟩
    simp only [List.length_append] at ht ⊢
    omega
  obtain ⟨r1, f1⟩ := obj_rel hrel hid hnew
  obtain ⟨r2, f2⟩ := drew_rel (w' := { w with heap := w.heap.setIfInBounds id (.cells (m.flatMap iV ++ b ++ rest).toArray t (0, 0)), drawn := w.drawn + n }) r1 rfl rfl rfl rfl (Nat.le_add_right _ _)
  obtain ⟨r3, f3⟩ := grow_rel r2 os
  have hworld : w' = grow { w with heap := w.heap.setIfInBounds id (.cells (m.flatMap iV ++ b ++ rest).toArray t (0, 0)), drawn := w.drawn + n } os := by
    rw [hw]
    unfold putRow mapBlock Sort.ahead
    congr 2
    apply Array.ext_getElem?
    intro i
    simp only [Array.getElem?_modify, Array.getElem?_setIfInBounds]
    by_cases hi : id = i
    · subst hi
      rw [if_pos rfl, if_pos rfl, if_pos hlt, ho]
      simp only [Option.map_some, onCells]
      rw [putCells_one, sort_cells hkV (by omega) hd]
    · rw [if_neg hi, if_neg hi]
  rw [hworld]
  exact ⟨W0, _, .tup [], _, he, by simp only [VR]; exact ⟨[], rfl, by simp only [VRs]⟩, r3, (f1.trans f2).trans f3, rfl, rfl⟩

end
end Go.Proofs.Ytaifdlegjhncaaa
