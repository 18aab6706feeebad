/-
  Structs held against each other; slices of slices; literals.
-/
import Derived.Test.YtaifdlegjhncaaaE3
namespace Go.Proofs.Ytaifdlegjhncaaa.E
open Go
set_option linter.unusedVariables false
set_option linter.unusedSimpArgs false

section
variable {P : Program} {W0 : World} {s : List AV} {a : Act}

theorem eqStruct_run {t : TypeId} {ks : List CK} {xs ys : List AV} {us vs : List Value} {b : Bool} (ht : plainStruct P t = some ks) (he : eqCells ks xs ys = some b)
    (hx : VRs W0 xs us) (hy : VRs W0 ys vs) (w : World) : (Op.equal t (.agg us.toArray) (.agg vs.toArray)).run P w = .ok b w := by
  unfold plainStruct at ht
  split at ht
  · rename_i fs hd
    split at ht
    · cases ht
    · rename_i hst
      have hst' : P.stoodInHeld t = false := by
        cases h : P.stoodInHeld t
        · rfl
        · exact absurd (.inl h) hst
      show (Op.equalIn (9999 + 1) t _ _).run P w = _
      have key := eqFields_run (P := P) (W0 := W0) 9998 fs.toList 0 ks xs ys us.toArray vs.toArray b ht he (by simpa using hx) (by simpa using hy) w
      unfold Op.equalIn
      simp only [Sem.run_bind, run_underlying hd, Result.andThen_ok, run_program, hst', Bool.false_eq_true, if_false]
      rw [← Array.forIn_toList]
      simp only [ne_eq, Sem.run_bind, bind_pure_comp] at key ⊢
      rw [key]
      cases b <;> simp
  · cases ht

theorem eqs_sound (hs : VRs W0 s a.tmps.toList) {x y : Operand} {x' y' : AArg} (hx : cArg x = some x') (hy : cArg y = some y') {o : Oper} {op : BinOp} {t t' : TypeId}
    (ho : o.op = .binOp op t x y t') {neg : Bool} (hop : op = if neg then .neq else .eql) {ks : List CK} (ht : plainStruct P t = some ks) {v : AV} (hv : pv s (.eqs neg ks x' y') = some v) : Yl P W0 a o v := by
  have h1 := cArg_sound hs hx
  have h2 := cArg_sound hs hy
  simp only [pv] at hv
  split at hv
  · rename_i xs ys e1 e2
    rw [e1] at h1; rw [e2] at h2
    simp only [VR] at h1 h2
    obtain ⟨us, hu, hus⟩ := h1
    obtain ⟨vs, hv', hvs⟩ := h2
    simp only [Option.map_eq_some_iff] at hv
    obtain ⟨b, hb, rfl⟩ := hv
    have he := eqStruct_run (P := P) ht hb hus hvs
    have hgt : P.eqGuardType P.depth t = false := by
      unfold plainStruct at ht
      split at ht
      · split at ht
        · cases ht
        · rename_i hst
          cases h : P.eqGuardType P.depth t
          · rfl
          · exact absurd (.inr h) hst
      · cases ht
    have hg : ∀ w, (eqGuard op t x y (.agg us.toArray) (.agg vs.toArray)).run P w = .ok () w := fun w => by
      have hop2 : op = .eql ∨ op = .neq := by cases neg <;> simp at hop <;> simp [hop]
      rcases hop2 with e | e <;> rw [e] <;> simp [eqGuard, hgt]
    refine ⟨.bool (neg ^^ b), by simp only [VR], fun w => ?_⟩
    simp only [execOp, ho, hu, hv', Sem.run_bind, hg, Result.andThen_ok]
    cases neg <;> simp at hop <;> subst hop <;> simp [binOp, he]
  · cases hv

theorem vrOpt (hs : VRs W0 s a.tmps.toList) {x : Option Operand} {y : Option AArg} (h : cOpt x = some y) :
    (x = none ∧ y = none) ∨ ∃ x' y', x = some x' ∧ y = some y' ∧ VR W0 (ev s y') (a.eval x') := by
  cases x with
  | none => simp [cOpt] at h; exact .inl ⟨rfl, h.symm⟩
  | some x => simp only [cOpt, Option.map_eq_some_iff] at h; obtain ⟨z, h1, rfl⟩ := h; exact .inr ⟨x, z, rfl, rfl, cArg_sound hs h1⟩

/-- A bound as the machine looks at it. -/
theorem bnd_some {x : AV} {u : Value} {y d n : Nat} (code : BoundsCode) (h : bnd (some x) y d = some n) (hx : VR W0 x u) (w : World) :
    (Instr.sliceBound u y code).run P w = .ok n w ∧ n ≤ y := by
  unfold bnd at h
  split at h
  · rename_i e; cases e
  · rename_i k m e
    cases e
    split at h <;> cases h
    rename_i hm
    simp only [VR] at hx; subst hx
    exact ⟨by simp [Instr.sliceBound, asIntOf, hm], by omega⟩
  · cases h

theorem addr_add0 (p : Addr) : p.add 0 = p := by unfold Addr.add; simp

theorem bounds_run (hs : VRs W0 s a.tmps.toList) {lo hi mx : Option Operand} {lo' hi' mx' : Option AArg} (hlo : cOpt lo = some lo') (hhi : cOpt hi = some hi') (hmx : cOpt mx = some mx')
    (hno : (mx'.isSome && hi'.isNone) = false) {len cap y l h m : Nat} (w : World) (hlc : len ≤ y) (hyc : y ≤ cap) (em : bnd (mx'.map (ev s)) y y = some m)
    (eh : bnd (hi'.map (ev s)) m len = some h) (el : bnd (lo'.map (ev s)) h 0 = some l) :
    (Instr.sliceBounds true len cap (lo.map a.eval) (hi.map a.eval) (mx.map a.eval)).run P w = .ok (l, h, if mx'.isSome then m else cap) w ∧ l ≤ h ∧ h ≤ m ∧ m ≤ y := by
  have up : ∀ {x : AV} {u : Value} {n : Nat} (code : BoundsCode) (d : Nat), bnd (some x) y d = some n → VR W0 x u → (Instr.sliceBound u cap code).run P w = .ok n w ∧ n ≤ y := by
    intro x u n code d hb hx
    unfold bnd at hb
    split at hb
    · rename_i e; cases e
    · rename_i k m e
      cases e
      split at hb <;> cases hb
      rename_i hm
      simp only [VR] at hx; subst hx
      have : m ≤ (cap : Int) := by omega
      exact ⟨by simp [Instr.sliceBound, asIntOf, hm.1, this], by omega⟩
    · cases hb
  rcases vrOpt hs hmx with ⟨rfl, rfl⟩ | ⟨ux, yx, rfl, rfl, hvx⟩ <;> rcases vrOpt hs hhi with ⟨rfl, rfl⟩ | ⟨uh, yh, rfl, rfl, hvh⟩ <;> rcases vrOpt hs hlo with ⟨rfl, rfl⟩ | ⟨ul, yl, rfl, rfl, hvl⟩ <;>
    simp only [Option.map_none, Option.map_some] at em eh el
  all_goals first | (simp at hno; done) | skip
  all_goals simp only [Instr.sliceBounds, Option.map_none, Option.map_some, Sem.run_bind, Sem.run_pure, Result.andThen_ok]
  · cases em; cases eh; cases el; simp; omega
  · cases em; cases eh
    obtain ⟨b1, b2⟩ := bnd_some (P := P) .sliceB el hvl w
    simp [b1]; omega
  · cases em
    obtain ⟨b1, b2⟩ := up .sliceAcap _ eh hvh
    cases el; simp [b1]; omega
  · cases em
    obtain ⟨b1, b2⟩ := up .sliceAcap _ eh hvh
    obtain ⟨c1, c2⟩ := bnd_some (P := P) .sliceB el hvl w
    simp [b1, c1]; omega
  · obtain ⟨d1, d2⟩ := up .slice3Acap _ em hvx
    obtain ⟨b1, b2⟩ := bnd_some (P := P) .slice3B eh hvh w
    cases el; simp [d1, b1]; omega
  · obtain ⟨d1, d2⟩ := up .slice3Acap _ em hvx
    obtain ⟨b1, b2⟩ := bnd_some (P := P) .slice3B eh hvh w
    obtain ⟨c1, c2⟩ := bnd_some (P := P) .slice3C el hvl w
    simp [d1, b1, c1]; omega

theorem slice_sound (hs : VRs W0 s a.tmps.toList) {x : Operand} {x' : AArg} (hx : cArg x = some x') {lo hi mx : Option Operand} {lo' hi' mx' : Option AArg} (hlo : cOpt lo = some lo') (hhi : cOpt hi = some hi') (hmx : cOpt mx = some mx')
    {o : Oper} {t e : TypeId} {n : Nat} (ho : o.op = .slice t x lo hi mx) (he : tElem P t = some e) (hn : tSize P e = some n) {v : AV} (hv : pv s (.slice n x' lo' hi' mx') = some v) : Yl P W0 a o v := by
  have h1 := cArg_sound hs hx
  have hd := tElem_sound he
  have add (b off m : Nat) : (⟨b, off, none⟩ : Addr).add m = ⟨b, off + m, none⟩ := by unfold Addr.add; split <;> simp_all
  simp only [pv] at hv
  have run : ∀ w, (execOp a.eval o).run P w = ((Instr.slice t (a.eval x) (lo.map a.eval) (hi.map a.eval) (mx.map a.eval)).run P w).andThen fun v w' => .ok (.value v) w' := fun w => by
    simp [execOp, ho, Instr.sliceAt, run_underlying hd]
  simp only [Yl, run]
  unfold sliceA at hv
  split at hv
  · cases hv
  rename_i hno
  have hno : (mx'.isSome && hi'.isNone) = false := by revert hno; cases mx' <;> cases hi' <;> simp
  split at hv
  · rename_i id off len cap e1
    rw [e1] at h1; simp only [VR] at h1
    split at hv
    · cases hv
    rename_i m em
    split at hv
    · cases hv
    rename_i h eh
    split at hv
    · cases hv
    rename_i l el
    cases hv
    have hb := fun w => bounds_run (P := P) hs hlo hhi hmx hno (len := len) (cap := cap) w h1.2 (Nat.le_refl _) em eh el
    have hm : (if mx'.isSome then m else cap) = m := by
      split
      · rfl
      · rename_i h; cases mx' with
        | none => simp [bnd] at em; exact em
        | some _ => simp at h
    rw [hm] at hb
    refine ⟨.slice (some ⟨id, if m = l then off else off + l * n, none⟩) (h - l) (m - l), ?_, fun w => ?_⟩
    · have := hb (default : World)
      simp only [VR]; exact ⟨by trivial, by omega⟩
    · simp only [Instr.slice, h1.1, Sem.run_bind, run_underlying hd, Result.andThen_ok, (hb w).1, run_sizeOf hn, Sem.run_pure]
      by_cases hq : m = l <;> simp [hq, add]
  · rename_i cs len ex e1
    rw [e1] at h1; simp only [VR] at h1
    rcases h1 with ⟨p, cap, ls, h1, hlc, hex, hc, hl⟩ | ⟨h0, hc0, h1⟩
    rotate_left
    · subst h0 hc0
      split at hv
      · cases hv
      rename_i m em
      split at hv
      · cases hv
      rename_i h eh
      split at hv
      · cases hv
      rename_i l el
      cases hv
      have hb := fun w => bounds_run (P := P) hs hlo hhi hmx hno (len := 0) (cap := 0) w (Nat.le_refl _) (Nat.le_refl _) em eh el
      obtain ⟨_, b1, b2, b3⟩ := hb (default : World)
      have hh : h = 0 := by omega
      have hl0 : l = 0 := by omega
      have hm0 : m = 0 := by omega
      subst hh hl0 hm0
      refine ⟨.slice none 0 0, by simp [VR], fun w => ?_⟩
      simp [Instr.slice, h1, run_underlying hd, (hb w).1, run_sizeOf hn]
    split at hv
    · cases hv
    rename_i m em
    split at hv
    · cases hv
    rename_i h eh
    split at hv
    · cases hv
    rename_i l el
    cases hv
    have hb := fun w => bounds_run (P := P) hs hlo hhi hmx hno (len := len) (cap := cap) w (Nat.le_refl _) hlc em eh el
    refine ⟨.slice (some (if (if mx'.isSome then m else cap) = l then p else p.add (l * n))) (h - l) ((if mx'.isSome then m else cap) - l), ?_, fun w => ?_⟩
    · obtain ⟨_, b1, b2, b3⟩ := hb (default : World)
      simp only [VR]
      refine .inl ⟨_, _, (ls.drop (l * n)).take ((h - l) * n), rfl, ?_, ?_, ?_, VRs_take (VRs_drop hl _) _⟩
      · split <;> omega
      · intro hx
        cases hmm : mx' with
        | none =>
          rw [hmm] at hx em
          simp [bnd] at em
          simp at hx
          have := hex hx.1
          simp; omega
        | some _ =>
          rw [hmm] at hx
          simp at hx
          simp [hx]
      · intro i hi
        simp only [List.length_take, List.length_drop] at hi
        have hne : ¬ (if mx'.isSome then m else cap) = l := by
          intro he
          have : h - l = 0 := by split at he <;> omega
          rw [this] at hi; simp at hi
        rw [if_neg hne, List.getElem?_take, if_pos (by omega), List.getElem?_drop, addr_add_add]
        exact hc _ (by omega)
    · simp only [Instr.slice, h1, Sem.run_bind, run_underlying hd, Result.andThen_ok, (hb w).1, run_sizeOf hn, Sem.run_pure]
      by_cases hq : (if mx'.isSome then m else cap) = l <;> simp [hq, add]
  · rename_i e1
    rw [e1] at h1; simp only [VR] at h1
    split at hv
    · rename_i m h l em eh el
      cases hv
      have hm : m = 0 := by
        unfold bnd at em; split at em
        · cases em; rfl
        · split at em <;> cases em; omega
        · cases em
      subst hm
      have hh : h = 0 := by
        unfold bnd at eh; split at eh
        · cases eh; rfl
        · split at eh <;> cases eh; omega
        · cases eh
      subst hh
      have hb := fun w => bounds_run (P := P) hs hlo hhi hmx hno (len := 0) (cap := 0) w (Nat.le_refl _) (Nat.le_refl _) em eh el
      refine ⟨.slice none 0 0, by simp only [VR], fun w => ?_⟩
      obtain ⟨r, b1, _, _⟩ := hb w
      have hl0 : l = 0 := by omega
      subst hl0
      simp [Instr.slice, h1, run_underlying hd, r, run_sizeOf hn]
    · cases hv
  · rename_i e1
    rw [e1] at h1; simp only [VR] at h1
    obtain ⟨p, cap, h1⟩ := h1
    split at hv
    · rename_i m h l em eh el
      cases hv
      have hm : m = 0 := by
        unfold bnd at em; split at em
        · cases em; rfl
        · split at em <;> cases em; omega
        · cases em
      subst hm
      have hh0 : h = 0 := by
        unfold bnd at eh; split at eh
        · cases eh; rfl
        · split at eh <;> cases eh; omega
        · cases eh
      subst hh0
      have hb := fun w => bounds_run (P := P) hs hlo hhi hmx hno (len := 0) (cap := cap) (y := 0) w (Nat.le_refl _) (Nat.zero_le _) em eh el
      obtain ⟨_, b1, b2, b3⟩ := hb (default : World)
      have hl0 : l = 0 := by omega
      subst hl0
      refine ⟨.slice (some p) 0 (if mx'.isSome then 0 else cap), ?_, fun w => ?_⟩
      · simp only [VR]
        refine .inl ⟨p, _, [], rfl, Nat.zero_le _, fun hx => ?_, by simp, VRs_nil⟩
        simp at hx; simp [hx]
      · simp only [Instr.slice, h1, Sem.run_bind, run_underlying hd, Result.andThen_ok, (hb w).1, run_sizeOf hn, Sem.run_pure]
        simp [addr_add0]
    · cases hv
  · cases hv

end
end Go.Proofs.Ytaifdlegjhncaaa.E
