/-
  Structs held against each other; slices of slices; literals.
-/
import Derived.Test.YteijaibggalapaaGreatDoorE3
namespace Go.Proofs.YteijaibggalapaaGreatDoor.E
open Go
set_option linter.unusedVariables false
set_option linter.unusedSimpArgs false

section
variable {P : Program} {W0 : World} {s : List AV} {a : Act}

theorem eqCells_split : ∀ {k ks : List CK} {xs ys : List AV} {b : Bool}, eqCells (k ++ ks) xs ys = some b →
    ∃ x1 x2 y1 y2 b1 b2, xs = x1 ++ x2 ∧ ys = y1 ++ y2 ∧ x1.length = k.length ∧ y1.length = k.length ∧ eqCells k x1 y1 = some b1 ∧ eqCells ks x2 y2 = some b2 ∧ b = (b1 && b2)
  | [], ks, xs, ys, b, h => ⟨[], xs, [], ys, true, b, rfl, rfl, rfl, rfl, rfl, h, rfl⟩
  | c :: k, ks, [], ys, b, h => by cases ys <;> simp [eqCells] at h
  | c :: k, ks, x :: xs, [], b, h => by simp [eqCells] at h
  | c :: k, ks, x :: xs, y :: ys, b, h => by
    rw [List.cons_append] at h
    simp only [eqCells] at h
    split at h
    · rename_i a1 a2 e1 e2
      cases h
      obtain ⟨x1, x2, y1, y2, b1, b2, rfl, rfl, h1, h2, h3, h4, rfl⟩ := eqCells_split e2
      exact ⟨x :: x1, x2, y :: y1, y2, a1 && b1, b2, rfl, rfl, by simp [h1], by simp [h2], by simp only [eqCells, e1, h3], h4, by rw [Bool.and_assoc]⟩
    · cases h

theorem VRs_len : ∀ {xs : List AV} {l : List Value}, VRs W0 xs l → l.length = xs.length
  | [], l, h => by simp only [VRs] at h; subst h; rfl
  | x :: xs, l, h => by
    simp only [VRs] at h
    obtain ⟨v, l', rfl, _, h⟩ := h
    simp [VRs_len h]

theorem VRs_app : ∀ {xs ys : List AV} {l : List Value}, VRs W0 (xs ++ ys) l → VRs W0 xs (l.take xs.length) ∧ VRs W0 ys (l.drop xs.length)
  | [], ys, l, h => ⟨by simp only [List.length_nil, List.take_zero, VRs], h⟩
  | x :: xs, ys, l, h => by
    rw [List.cons_append] at h
    simp only [VRs] at h
    obtain ⟨v, l', rfl, hv, h⟩ := h
    obtain ⟨h1, h2⟩ := VRs_app h
    exact ⟨by simp only [VRs, List.length_cons, List.take_succ_cons]; exact ⟨v, _, rfl, hv, h1⟩, h2⟩

/-- A value of a type, by its cells. -/
def FitsV (P : Program) (W0 : World) (t : TypeId) (xs : List AV) (v : Value) : Prop :=
  (tAgg P t = some true ∧ ∃ l : List Value, v = .agg l.toArray ∧ VRs W0 xs l) ∨ (tAgg P t = some false ∧ ∃ x, xs = [x] ∧ VR W0 x v)

theorem plain_agg {d : Nat} {t : TypeId} {ks : List CK} (h : plainCells P d t = some ks) : tAgg P t = some true ∨ (tAgg P t = some false ∧ ks.length = 1) := by
  cases d with
  | zero => simp [plainCells] at h
  | succ d =>
    simp only [plainCells] at h
    unfold tAgg
    split at h
    · rename_i hd; cases h; exact .inr ⟨by simp [hd], rfl⟩
    · rename_i hd; cases h; exact .inr ⟨by simp [hd], rfl⟩
    · rename_i hd; cases h; exact .inr ⟨by simp [hd], rfl⟩
    · rename_i hd; exact .inl (by simp [hd])
    · rename_i hd; exact .inl (by simp [hd])
    · cases h

theorem part_run {d : Nat} {t : TypeId} {k : List CK} (h : plainCells P d t = some k) (hn : tSize P t = some k.length) {xs : List AV} (hl : xs.length = k.length) {us : Array Value} {off : Nat}
    (hx : VRs W0 xs ((us.toList.drop off).take k.length)) : ∃ u, FitsV P W0 t xs u ∧ ∀ w, (part t us off).run P w = .ok u w := by
  rcases plain_agg h with hg | ⟨hg, h1⟩
  · refine ⟨.agg ((us.toList.drop off).take k.length).toArray, .inl ⟨hg, _, rfl, hx⟩, fun w => ?_⟩
    have e : us.extract off (off + k.length) = ((us.toList.drop off).take k.length).toArray := by
      apply Array.toList_inj.1
      simp [List.take_drop]
    simp [part, run_isAgg hg, run_sizeOf hn, e]
  · rw [h1] at hx hl
    obtain ⟨x, rfl⟩ := List.length_eq_one_iff.1 hl
    simp only [VRs] at hx
    obtain ⟨v, l', e, hv, rfl⟩ := hx
    have hu : us[off]? = some v := by
      have : ((us.toList.drop off).take 1)[0]? = some v := by rw [e]; rfl
      rw [List.getElem?_take_of_lt (by omega), List.getElem?_drop] at this
      simpa using this
    exact ⟨v, .inr ⟨hg, x, rfl, hv⟩, fun w => by simp [part, run_isAgg hg, hu]⟩

section
variable {m d : Nat} (ih : ∀ t ks xs ys u v b, plainCells P d t = some ks → eqCells ks xs ys = some b → FitsV P W0 t xs u → FitsV P W0 t ys v → ∀ w, (Op.equalIn m t u v).run P w = .ok b w)
include ih

theorem eqFields_run : ∀ (fs : List Field) (i : Nat) (ks : List CK) (xs ys : List AV) (us vs : Array Value) (b : Bool), fieldCells P (plainCells P d) i fs = some ks → eqCells ks xs ys = some b →
    VRs W0 xs (us.toList.drop i) → VRs W0 ys (vs.toList.drop i) → ∀ w,
    ((forIn fs ((none, ()) : Option Bool × Unit) fun f r => do
        if f.name ≠ "_" then
          if !(← Op.equalIn m f.type (← part f.type us f.offset) (← part f.type vs f.offset)) then pure (ForInStep.done (some false, ())) else pure (ForInStep.yield (none, ()))
        else pure (ForInStep.yield (none, ())) : Sem (Option Bool × Unit)).run P w) = .ok (if b then none else some false, ()) w
  | [], i, ks, xs, ys, us, vs, b, hk, he, hx, hy, w => by
    simp only [fieldCells] at hk; cases hk
    cases xs <;> cases ys <;> simp [eqCells] at he
    subst he
    simp
  | f :: fs, i, ks, xs, ys, us, vs, b, hk, he, hx, hy, w => by
    simp only [fieldCells] at hk
    split at hk
    · rename_i hf
      split at hk
      · rename_i k h1
        split at hk
        · rename_i hsz
          simp only [Option.map_eq_some_iff] at hk
          obtain ⟨ks', h2, rfl⟩ := hk
          obtain ⟨x1, x2, y1, y2, b1, b2, rfl, rfl, l1, l2, e1, e2, rfl⟩ := eqCells_split he
          obtain ⟨hx1, hx2⟩ := VRs_app hx
          obtain ⟨hy1, hy2⟩ := VRs_app hy
          rw [l1] at hx1 hx2
          rw [l2] at hy1 hy2
          rw [List.drop_drop] at hx2 hy2
          have ihr := eqFields_run fs (i + k.length) ks' x2 y2 us vs b2 h2 e2 hx2 hy2 w
          obtain ⟨u, hu, hpu⟩ := part_run (P := P) h1 hsz l1 hx1
          obtain ⟨v, hv, hpv⟩ := part_run (P := P) h1 hsz l2 hy1
          have heq := ih f.type k x1 y1 u v b1 h1 e1 hu hv
          rw [← hf.1] at hpu hpv
          rw [List.forIn_cons]
          simp only [hf.2, ne_eq, not_false_eq_true, if_true, Sem.run_bind, hpu, hpv, heq, Result.andThen_ok]
          cases b1
          · simp
          · simpa using ihr
        · cases hk
      · cases hk
    · cases hk

theorem eqElems_run {e : TypeId} {k : List CK} (hk : plainCells P d e = some k) (hn : tSize P e = some k.length) : ∀ (n i : Nat) (xs ys : List AV) (us vs : Array Value) (b : Bool), eqCells (List.replicate n k).flatten xs ys = some b →
    VRs W0 xs (us.toList.drop (i * k.length)) → VRs W0 ys (vs.toList.drop (i * k.length)) → ∀ w,
    ((forIn (List.range' i n) ((none, ()) : Option Bool × Unit) fun i r => do
        if !(← Op.equalIn m e (← part e us (i * k.length)) (← part e vs (i * k.length))) then pure (ForInStep.done (some false, ())) else pure (ForInStep.yield (none, ())) : Sem (Option Bool × Unit)).run P w) = .ok (if b then none else some false, ()) w
  | 0, i, xs, ys, us, vs, b, he, hx, hy, w => by
    simp only [List.replicate, List.flatten_nil] at he
    cases xs <;> cases ys <;> simp [eqCells] at he
    subst he
    simp
  | n + 1, i, xs, ys, us, vs, b, he, hx, hy, w => by
    rw [List.replicate_succ, List.flatten_cons] at he
    obtain ⟨x1, x2, y1, y2, b1, b2, rfl, rfl, l1, l2, e1, e2, rfl⟩ := eqCells_split he
    obtain ⟨hx1, hx2⟩ := VRs_app hx
    obtain ⟨hy1, hy2⟩ := VRs_app hy
    rw [l1] at hx1 hx2
    rw [l2] at hy1 hy2
    rw [List.drop_drop, ← Nat.succ_mul] at hx2 hy2
    have ihr := eqElems_run hk hn n (i + 1) x2 y2 us vs b2 e2 hx2 hy2 w
    obtain ⟨u, hu, hpu⟩ := part_run (P := P) hk hn l1 hx1
    obtain ⟨v, hv, hpv⟩ := part_run (P := P) hk hn l2 hy1
    have heq := ih e k x1 y1 u v b1 hk e1 hu hv
    rw [List.range'_succ, List.forIn_cons]
    simp only [Sem.run_bind, hpu, hpv, heq, Result.andThen_ok]
    cases b1
    · simp
    · simpa using ihr
end

theorem eqPlain_run : ∀ (d n : Nat) (t : TypeId) (ks : List CK) (xs ys : List AV) (u v : Value) (b : Bool), plainCells P d t = some ks → eqCells ks xs ys = some b → FitsV P W0 t xs u → FitsV P W0 t ys v → ∀ w,
    (Op.equalIn (n + d) t u v).run P w = .ok b w
  | 0, n, t, ks, xs, ys, u, v, b, hk, _, _, _, w => by simp [plainCells] at hk
  | d + 1, n, t, ks, xs, ys, u, v, b, hk, he, hx, hy, w => by
    have ih := eqPlain_run d n
    have one : ∀ {c : CK}, ckOf P t = some c → ks = [c] → (Op.equalIn (n + (d + 1)) t u v).run P w = .ok b w := fun hc e => by
      subst e
      have hg := ckOf_notAgg hc
      rcases hx with ⟨h, _⟩ | ⟨_, x, rfl, hx⟩
      · rw [h] at hg; cases hg
      rcases hy with ⟨h, _⟩ | ⟨_, y, rfl, hy⟩
      · rw [h] at hg; cases hg
      simp only [eqCells] at he
      split at he
      · rename_i b1 b2 e1 e2
        cases he
        cases e2
        rw [Bool.and_true]
        exact eqCell_sound (n + d) hc e1 hx hy w
      · cases he
    have hk0 := hk
    simp only [plainCells] at hk
    split at hk
    · rename_i hd; cases hk; exact one (by simp [ckOf, hd]) rfl
    · rename_i hd; cases hk; exact one (by simp [ckOf, hd]) rfl
    · rename_i hd; cases hk; exact one (by simp [ckOf, hd]) rfl
    · rename_i len e hd
      split at hk
      · rename_i k h1
        split at hk
        · rename_i hsz
          cases hk
          have hg : tAgg P t = some true := by simp [tAgg, hd]
          rcases hx with ⟨_, us, rfl, hx⟩ | ⟨h, _⟩
          rotate_left
          · rw [h] at hg; cases hg
          rcases hy with ⟨_, vs, rfl, hy⟩ | ⟨h, _⟩
          rotate_left
          · rw [h] at hg; cases hg
          have key := eqElems_run (P := P) (W0 := W0) ih h1 hsz len 0 xs ys us.toArray vs.toArray b he (by simpa using hx) (by simpa using hy) w
          show (Op.equalIn (n + d + 1) t _ _).run P w = _
          unfold Op.equalIn
          simp only [Sem.run_bind, run_underlying hd, Result.andThen_ok, run_sizeOf hsz]
          rw [Std.Legacy.Range.forIn_eq_forIn_range']
          simp only [Std.Legacy.Range.size, Nat.sub_zero, Nat.add_one_sub_one, Nat.div_one, Sem.run_bind, bind_pure_comp] at key ⊢
          rw [key]
          cases b <;> simp
        · cases hk
      · cases hk
    · rename_i fs hd
      split at hk
      · cases hk
      · rename_i hst
        have hst' : P.stoodInHeld t = false := by
          cases h : P.stoodInHeld t
          · rfl
          · exact absurd h hst
        have hg : tAgg P t = some true := by simp [tAgg, hd]
        rcases hx with ⟨_, us, rfl, hx⟩ | ⟨h, _⟩
        rotate_left
        · rw [h] at hg; cases hg
        rcases hy with ⟨_, vs, rfl, hy⟩ | ⟨h, _⟩
        rotate_left
        · rw [h] at hg; cases hg
        have key := eqFields_run (P := P) (W0 := W0) ih fs.toList 0 ks xs ys us.toArray vs.toArray b hk he (by simpa using hx) (by simpa using hy) w
        show (Op.equalIn (n + d + 1) t _ _).run P w = _
        unfold Op.equalIn
        simp only [Sem.run_bind, run_underlying hd, Result.andThen_ok, run_program, hst', Bool.false_eq_true, if_false]
        rw [← Array.forIn_toList]
        simp only [ne_eq, Sem.run_bind, bind_pure_comp] at key ⊢
        rw [key]
        cases b <;> simp
    · cases hk

theorem eqStruct_run {t : TypeId} {ks : List CK} {xs ys : List AV} {us vs : List Value} {b : Bool} (ht : plainStruct P t = some ks) (he : eqCells ks xs ys = some b)
    (hx : VRs W0 xs us) (hy : VRs W0 ys vs) (w : World) : (Op.equal t (.agg us.toArray) (.agg vs.toArray)).run P w = .ok b w := by
  unfold plainStruct at ht
  split at ht
  · rename_i hg
    exact eqPlain_run (P := P) (W0 := W0) 4 9996 t ks xs ys _ _ b ht he (.inl ⟨hg.1, us, rfl, hx⟩) (.inl ⟨hg.1, vs, rfl, hy⟩) w
  · cases ht

theorem eqs_sound (hs : VRs W0 s a.tmps.toList) {x y : Operand} {x' y' : AArg} (hx : cArg x = some x') (hy : cArg y = some y') {o : Oper} {op : BinOp} {t t' : TypeId}
    (ho : o.op = .binOp op t x y t') {neg : Bool} (hop : op = if neg then .neq else .eql) {ks : List CK} (ht : plainStruct P t = some ks) {v : AV} (hv : pv s (.eqs neg ks x' y') = some v) : Yl P W0 a o v := by
  have h1 := cArg_sound hs hx
  have h2 := cArg_sound hs hy
  simp only [pv] at hv
  split at hv
  · rename_i xs ys e1 e2
    rw [e1] at h1; rw [e2] at h2
    simp only [VR] at h1 h2
    obtain ⟨us, hu, hus⟩ := h1
    obtain ⟨vs, hv', hvs⟩ := h2
    simp only [Option.map_eq_some_iff] at hv
    obtain ⟨b, hb, rfl⟩ := hv
    have he := eqStruct_run (P := P) ht hb hus hvs
    have hgt : P.eqGuardType P.depth t = false := by
      unfold plainStruct at ht
      split at ht
      · rename_i hg; exact hg.2
      · cases ht
    have hg : ∀ w, (eqGuard op t x y (.agg us.toArray) (.agg vs.toArray)).run P w = .ok () w := fun w => by
      have hop2 : op = .eql ∨ op = .neq := by cases neg <;> simp at hop <;> simp [hop]
      rcases hop2 with e | e <;> rw [e] <;> simp [eqGuard, hgt]
    refine ⟨.bool (neg ^^ b), by simp only [VR], fun w => ?_⟩
    simp only [execOp, ho, hu, hv', Sem.run_bind, hg, Result.andThen_ok]
    cases neg <;> simp at hop <;> subst hop <;> simp [binOp, he]
  · cases hv

theorem vrOpt (hs : VRs W0 s a.tmps.toList) {x : Option Operand} {y : Option AArg} (h : cOpt x = some y) :
    (x = none ∧ y = none) ∨ ∃ x' y', x = some x' ∧ y = some y' ∧ VR W0 (ev s y') (a.eval x') := by
  cases x with
  | none => simp [cOpt] at h; exact .inl ⟨rfl, h.symm⟩
  | some x => simp only [cOpt, Option.map_eq_some_iff] at h; obtain ⟨z, h1, rfl⟩ := h; exact .inr ⟨x, z, rfl, rfl, cArg_sound hs h1⟩

/-- A bound as the machine looks at it. -/
theorem bnd_some {x : AV} {u : Value} {y d n : Nat} (code : BoundsCode) (h : bnd (some x) y d = some n) (hx : VR W0 x u) (w : World) :
    (Instr.sliceBound u y code).run P w = .ok n w ∧ n ≤ y := by
  unfold bnd at h
  split at h
  · rename_i e; cases e
  · rename_i k m e
    cases e
    split at h <;> cases h
    rename_i hm
    simp only [VR] at hx; subst hx
    exact ⟨by simp [Instr.sliceBound, asIntOf, hm], by omega⟩
  · cases h

theorem addr_add0 (p : Addr) : p.add 0 = p := by unfold Addr.add; simp

theorem bounds_run (hs : VRs W0 s a.tmps.toList) {lo hi mx : Option Operand} {lo' hi' mx' : Option AArg} (hlo : cOpt lo = some lo') (hhi : cOpt hi = some hi') (hmx : cOpt mx = some mx')
    (hno : (mx'.isSome && hi'.isNone) = false) {len cap y l h m : Nat} (w : World) (hlc : len ≤ y) (hyc : y ≤ cap) (em : bnd (mx'.map (ev s)) y y = some m)
    (eh : bnd (hi'.map (ev s)) m len = some h) (el : bnd (lo'.map (ev s)) h 0 = some l) :
    (Instr.sliceBounds true len cap (lo.map a.eval) (hi.map a.eval) (mx.map a.eval)).run P w = .ok (l, h, if mx'.isSome then m else cap) w ∧ l ≤ h ∧ h ≤ m ∧ m ≤ y := by
  have up : ∀ {x : AV} {u : Value} {n : Nat} (code : BoundsCode) (d : Nat), bnd (some x) y d = some n → VR W0 x u → (Instr.sliceBound u cap code).run P w = .ok n w ∧ n ≤ y := by
    intro x u n code d hb hx
    unfold bnd at hb
    split at hb
    · rename_i e; cases e
    · rename_i k m e
      cases e
      split at hb <;> cases hb
      rename_i hm
      simp only [VR] at hx; subst hx
      have : m ≤ (cap : Int) := by omega
      exact ⟨by simp [Instr.sliceBound, asIntOf, hm.1, this], by omega⟩
    · cases hb
  rcases vrOpt hs hmx with ⟨rfl, rfl⟩ | ⟨ux, yx, rfl, rfl, hvx⟩ <;> rcases vrOpt hs hhi with ⟨rfl, rfl⟩ | ⟨uh, yh, rfl, rfl, hvh⟩ <;> rcases vrOpt hs hlo with ⟨rfl, rfl⟩ | ⟨ul, yl, rfl, rfl, hvl⟩ <;>
    simp only [Option.map_none, Option.map_some] at em eh el
  all_goals first | (simp at hno; done) | skip
  all_goals simp only [Instr.sliceBounds, Option.map_none, Option.map_some, Sem.run_bind, Sem.run_pure, Result.andThen_ok]
  · cases em; cases eh; cases el; simp; omega
  · cases em; cases eh
    obtain ⟨b1, b2⟩ := bnd_some (P := P) .sliceB el hvl w
    simp [b1]; omega
  · cases em
    obtain ⟨b1, b2⟩ := up .sliceAcap _ eh hvh
    cases el; simp [b1]; omega
  · cases em
    obtain ⟨b1, b2⟩ := up .sliceAcap _ eh hvh
    obtain ⟨c1, c2⟩ := bnd_some (P := P) .sliceB el hvl w
    simp [b1, c1]; omega
  · obtain ⟨d1, d2⟩ := up .slice3Acap _ em hvx
    obtain ⟨b1, b2⟩ := bnd_some (P := P) .slice3B eh hvh w
    cases el; simp [d1, b1]; omega
  · obtain ⟨d1, d2⟩ := up .slice3Acap _ em hvx
    obtain ⟨b1, b2⟩ := bnd_some (P := P) .slice3B eh hvh w
    obtain ⟨c1, c2⟩ := bnd_some (P := P) .slice3C el hvl w
    simp [d1, b1, c1]; omega

theorem slice_sound (hs : VRs W0 s a.tmps.toList) {x : Operand} {x' : AArg} (hx : cArg x = some x') {lo hi mx : Option Operand} {lo' hi' mx' : Option AArg} (hlo : cOpt lo = some lo') (hhi : cOpt hi = some hi') (hmx : cOpt mx = some mx')
    {o : Oper} {t e : TypeId} {n : Nat} (ho : o.op = .slice t x lo hi mx) (he : tElem P t = some e) (hn : tSize P e = some n) {v : AV} (hv : pv s (.slice n x' lo' hi' mx') = some v) : Yl P W0 a o v := by
  have h1 := cArg_sound hs hx
  have hd := tElem_sound he
  have add (b off m : Nat) : (⟨b, off, none⟩ : Addr).add m = ⟨b, off + m, none⟩ := by unfold Addr.add; split <;> simp_all
  simp only [pv] at hv
  have run : ∀ w, (execOp a.eval o).run P w = ((Instr.slice t (a.eval x) (lo.map a.eval) (hi.map a.eval) (mx.map a.eval)).run P w).andThen fun v w' => .ok (.value v) w' := fun w => by
    simp [execOp, ho, Instr.sliceAt, run_underlying hd]
  simp only [Yl, run]
  unfold sliceA at hv
  split at hv
  · cases hv
  rename_i hno
  have hno : (mx'.isSome && hi'.isNone) = false := by revert hno; cases mx' <;> cases hi' <;> simp
  split at hv
  · rename_i id off len cap e1
    rw [e1] at h1; simp only [VR] at h1
    split at hv
    · cases hv
    rename_i m em
    split at hv
    · cases hv
    rename_i h eh
    split at hv
    · cases hv
    rename_i l el
    cases hv
    have hb := fun w => bounds_run (P := P) hs hlo hhi hmx hno (len := len) (cap := cap) w h1.2 (Nat.le_refl _) em eh el
    have hm : (if mx'.isSome then m else cap) = m := by
      split
      · rfl
      · rename_i h; cases mx' with
        | none => simp [bnd] at em; exact em
        | some _ => simp at h
    rw [hm] at hb
    refine ⟨.slice (some ⟨id, if m = l then off else off + l * n, none⟩) (h - l) (m - l), ?_, fun w => ?_⟩
    · have := hb (default : World)
      simp only [VR]; exact ⟨by trivial, by omega⟩
    · simp only [Instr.slice, h1.1, Sem.run_bind, run_underlying hd, Result.andThen_ok, (hb w).1, run_sizeOf hn, Sem.run_pure]
      by_cases hq : m = l <;> simp [hq, add]
  · rename_i cs len ex e1
    rw [e1] at h1; simp only [VR] at h1
    rcases h1 with ⟨p, cap, ls, h1, hlc, hex, hc, hl⟩ | ⟨h0, hc0, h1⟩
    rotate_left
    · subst h0 hc0
      split at hv
      · cases hv
      rename_i m em
      split at hv
      · cases hv
      rename_i h eh
      split at hv
      · cases hv
      rename_i l el
      cases hv
      have hb := fun w => bounds_run (P := P) hs hlo hhi hmx hno (len := 0) (cap := 0) w (Nat.le_refl _) (Nat.le_refl _) em eh el
      obtain ⟨_, b1, b2, b3⟩ := hb (default : World)
      have hh : h = 0 := by omega
      have hl0 : l = 0 := by omega
      have hm0 : m = 0 := by omega
      subst hh hl0 hm0
      refine ⟨.slice none 0 0, by simp [VR], fun w => ?_⟩
      simp [Instr.slice, h1, run_underlying hd, (hb w).1, run_sizeOf hn]
    split at hv
    · cases hv
    rename_i m em
    split at hv
    · cases hv
    rename_i h eh
    split at hv
    · cases hv
    rename_i l el
    cases hv
    have hb := fun w => bounds_run (P := P) hs hlo hhi hmx hno (len := len) (cap := cap) w (Nat.le_refl _) hlc em eh el
    refine ⟨.slice (some (if (if mx'.isSome then m else cap) = l then p else p.add (l * n))) (h - l) ((if mx'.isSome then m else cap) - l), ?_, fun w => ?_⟩
    · obtain ⟨_, b1, b2, b3⟩ := hb (default : World)
      simp only [VR]
      refine .inl ⟨_, _, (ls.drop (l * n)).take ((h - l) * n), rfl, ?_, ?_, ?_, VRs_take (VRs_drop hl _) _⟩
      · split <;> omega
      · intro hx
        cases hmm : mx' with
        | none =>
          rw [hmm] at hx em
          simp [bnd] at em
          simp at hx
          have := hex hx.1
          simp; omega
        | some _ =>
          rw [hmm] at hx
          simp at hx
          simp [hx]
      · intro i hi
        simp only [List.length_take, List.length_drop] at hi
        have hne : ¬ (if mx'.isSome then m else cap) = l := by
          intro he
          have : h - l = 0 := by split at he <;> omega
          rw [this] at hi; simp at hi
        rw [if_neg hne, List.getElem?_take, if_pos (by omega), List.getElem?_drop, addr_add_add]
        exact hc _ (by omega)
    · simp only [Instr.slice, h1, Sem.run_bind, run_underlying hd, Result.andThen_ok, (hb w).1, run_sizeOf hn, Sem.run_pure]
      by_cases hq : (if mx'.isSome then m else cap) = l <;> simp [hq, add]
  · rename_i e1
    rw [e1] at h1; simp only [VR] at h1
    split at hv
    · rename_i m h l em eh el
      cases hv
      have hm : m = 0 := by
        unfold bnd at em; split at em
        · cases em; rfl
        · split at em <;> cases em; omega
        · cases em
      subst hm
      have hh : h = 0 := by
        unfold bnd at eh; split at eh
        · cases eh; rfl
        · split at eh <;> cases eh; omega
        · cases eh
      subst hh
      have hb := fun w => bounds_run (P := P) hs hlo hhi hmx hno (len := 0) (cap := 0) w (Nat.le_refl _) (Nat.le_refl _) em eh el
      refine ⟨.slice none 0 0, by simp only [VR], fun w => ?_⟩
      obtain ⟨r, b1, _, _⟩ := hb w
      have hl0 : l = 0 := by omega
      subst hl0
      simp [Instr.slice, h1, run_underlying hd, r, run_sizeOf hn]
    · cases hv
  · rename_i e1
    rw [e1] at h1; simp only [VR] at h1
    obtain ⟨p, cap, h1⟩ := h1
    split at hv
    · rename_i m h l em eh el
      cases hv
      have hm : m = 0 := by
        unfold bnd at em; split at em
        · cases em; rfl
        · split at em <;> cases em; omega
        · cases em
      subst hm
      have hh0 : h = 0 := by
        unfold bnd at eh; split at eh
        · cases eh; rfl
        · split at eh <;> cases eh; omega
        · cases eh
      subst hh0
      have hb := fun w => bounds_run (P := P) hs hlo hhi hmx hno (len := 0) (cap := cap) (y := 0) w (Nat.le_refl _) (Nat.zero_le _) em eh el
      obtain ⟨_, b1, b2, b3⟩ := hb (default : World)
      have hl0 : l = 0 := by omega
      subst hl0
      refine ⟨.slice (some p) 0 (if mx'.isSome then 0 else cap), ?_, fun w => ?_⟩
      · simp only [VR]
        refine .inl ⟨p, _, [], rfl, Nat.zero_le _, fun hx => ?_, by simp, VRs_nil⟩
        simp at hx; simp [hx]
      · simp only [Instr.slice, h1, Sem.run_bind, run_underlying hd, Result.andThen_ok, (hb w).1, run_sizeOf hn, Sem.run_pure]
        simp [addr_add0]
    · cases hv
  · cases hv

end
end Go.Proofs.YteijaibggalapaaGreatDoor.E
