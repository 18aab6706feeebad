/-
  Maps; cells of strings and of arrays.
-/
import Derived.Test.YteijaibggalapaaGreatDoorE7
namespace Go.Proofs.YteijaibggalapaaGreatDoor.E
open Go
set_option linter.unusedVariables false
set_option linter.unusedSimpArgs false

section
variable {P : Program} {W0 : World} {s : List AV} {a : Act}

theorem idxS_sound (hs : VRs W0 s a.tmps.toList) {x i : Operand} {x' i' : AArg} (hx : cArg x = some x') (hi : cArg i = some i') {o : Oper} {t : TypeId} (ho : o.op = .index t x i) (hd : P.underlying t = some .string)
    {v : AV} (hv : pv s (.idxS x' i') = some v) : Yl P W0 a o v := by
  have h1 := cArg_sound hs hx
  have h2 := cArg_sound hs hi
  simp only [pv] at hv
  split at hv
  · rename_i b k n e1 e2
    rw [e1] at h1; rw [e2] at h2; simp only [VR] at h1 h2
    split at hv
    · rename_i hn
      simp only [Option.map_eq_some_iff] at hv
      obtain ⟨c, hc, rfl⟩ := hv
      exact ⟨.int .u8 c.toNat, by simp only [VR], fun w => by simp [execOp, ho, h1, h2, Instr.index, asIntOf, run_underlying hd, hn, hc]⟩
    · cases hv
  · cases hv

theorem boundsF_run (hs : VRs W0 s a.tmps.toList) {lo hi mx : Option Operand} {lo' hi' mx' : Option AArg} (hlo : cOpt lo = some lo') (hhi : cOpt hi = some hi') (hmx : cOpt mx = some mx')
    (hno : (mx'.isSome && hi'.isNone) = false) {n l h m : Nat} (w : World) (em : bnd (mx'.map (ev s)) n n = some m)
    (eh : bnd (hi'.map (ev s)) m n = some h) (el : bnd (lo'.map (ev s)) h 0 = some l) :
    (Instr.sliceBounds false n n (lo.map a.eval) (hi.map a.eval) (mx.map a.eval)).run P w = .ok (l, h, m) w ∧ l ≤ h ∧ h ≤ m ∧ m ≤ n := by
  rcases vrOpt hs hmx with ⟨rfl, rfl⟩ | ⟨ux, yx, rfl, rfl, hvx⟩ <;> rcases vrOpt hs hhi with ⟨rfl, rfl⟩ | ⟨uh, yh, rfl, rfl, hvh⟩ <;> rcases vrOpt hs hlo with ⟨rfl, rfl⟩ | ⟨ul, yl, rfl, rfl, hvl⟩ <;>
    simp only [Option.map_none, Option.map_some] at em eh el
  all_goals first | (simp at hno; done) | skip
  all_goals simp only [Instr.sliceBounds, Option.map_none, Option.map_some, Sem.run_bind, Sem.run_pure, Result.andThen_ok]
  · cases em; cases eh; cases el; simp
  · cases em; cases eh
    obtain ⟨b1, b2⟩ := bnd_some (P := P) .sliceB el hvl w
    simp [b1]; omega
  · cases em
    obtain ⟨b1, b2⟩ := bnd_some (P := P) .sliceAlen eh hvh w
    cases el; simp [b1]; omega
  · cases em
    obtain ⟨b1, b2⟩ := bnd_some (P := P) .sliceAlen eh hvh w
    obtain ⟨c1, c2⟩ := bnd_some (P := P) .sliceB el hvl w
    simp [b1, c1]; omega
  · obtain ⟨d1, d2⟩ := bnd_some (P := P) .slice3Alen em hvx w
    obtain ⟨b1, b2⟩ := bnd_some (P := P) .slice3B eh hvh w
    cases el; simp [d1, b1]; omega
  · obtain ⟨d1, d2⟩ := bnd_some (P := P) .slice3Alen em hvx w
    obtain ⟨b1, b2⟩ := bnd_some (P := P) .slice3B eh hvh w
    obtain ⟨c1, c2⟩ := bnd_some (P := P) .slice3C el hvl w
    simp [d1, b1, c1]; omega

theorem sliceS_sound (hs : VRs W0 s a.tmps.toList) {x : Operand} {x' : AArg} (hx : cArg x = some x') {lo hi : Option Operand} {lo' hi' : Option AArg} (hlo : cOpt lo = some lo') (hhi : cOpt hi = some hi')
    {o : Oper} {t : TypeId} (ho : o.op = .slice t x lo hi none) (hd : P.underlying t = some .string) {v : AV} (hv : pv s (.sliceS x' lo' hi') = some v) : Yl P W0 a o v := by
  have h1 := cArg_sound hs hx
  simp only [pv] at hv
  split at hv
  · rename_i b e1
    rw [e1] at h1; simp only [VR] at h1
    unfold strA at hv
    split at hv
    · cases hv
    rename_i h eh
    split at hv
    · cases hv
    rename_i l el
    cases hv
    have hb := fun w => boundsF_run (P := P) hs hlo hhi (mx := none) (mx' := none) rfl rfl (n := b.size) w rfl eh el
    exact ⟨.string (b.extract l h), by simp only [VR], fun w => by
      have := (hb w).1
      simp only [Option.map_none] at this
      simp [execOp, ho, Instr.sliceAt, Instr.slice, run_underlying hd, h1, this]⟩
  · cases hv

theorem sliceP_sound (hs : VRs W0 s a.tmps.toList) {x : Operand} {x' : AArg} (hx : cArg x = some x') {lo hi mx : Option Operand} {lo' hi' mx' : Option AArg} (hlo : cOpt lo = some lo') (hhi : cOpt hi = some hi') (hmx : cOpt mx = some mx')
    {o : Oper} {t e : TypeId} {k n : Nat} (ho : o.op = .slice t x lo hi mx) (he : tArr P t = some (k, e)) (hn : tSize P e = some n) {v : AV} (hv : pv s (.sliceP k n x' lo' hi' mx') = some v) : Yl P W0 a o v := by
  have h1 := cArg_sound hs hx
  have hd := tArr_sound he
  have add (b off m : Nat) : (⟨b, off, none⟩ : Addr).add m = ⟨b, off + m, none⟩ := by unfold Addr.add; split <;> simp_all
  simp only [pv] at hv
  unfold arrA at hv
  split at hv
  · cases hv
  rename_i hno
  have hno : (mx'.isSome && hi'.isNone) = false := by revert hno; cases mx' <;> cases hi' <;> simp
  split at hv
  · cases hv
  rename_i m em
  split at hv
  · cases hv
  rename_i h eh
  split at hv
  · cases hv
  rename_i l el
  have hb := fun w => boundsF_run (P := P) hs hlo hhi hmx hno (n := k) w em eh el
  obtain ⟨_, b1, b2, b3⟩ := hb (default : World)
  split at hv
  · rename_i id off e1
    rw [e1] at h1; simp only [VR] at h1
    cases hv
    refine ⟨.slice (some ⟨id, if m = l then off else off + l * n, none⟩) (h - l) (m - l), ?_, fun w => ?_⟩
    · simp only [VR]; exact ⟨by trivial, by omega⟩
    · have := (hb w).1
      simp only [execOp, ho, Instr.sliceAt, Instr.sureAddr, run_underlying hd, h1, Sem.run_bind, Result.andThen_ok, Sem.run_pure, this, run_sizeOf hn]
      by_cases hq : m = l <;> simp [hq, add]
  · rename_i cs e1
    rw [e1] at h1; simp only [VR] at h1
    obtain ⟨p, ls, h1, hc, hl⟩ := h1
    cases hv
    refine ⟨.slice (some (if m = l then p else p.add (l * n))) (h - l) (m - l), ?_, fun w => ?_⟩
    · simp only [VR]
      refine .inl ⟨_, _, (ls.drop (l * n)).take ((h - l) * n), rfl, by omega, fun hx => ?_, fun i hi => ?_, VRs_take (VRs_drop hl _) _⟩
      · have := eq_of_beq hx; omega
      · by_cases hq : m = l
        · have : h - l = 0 := by omega
          rw [this] at hi; simp at hi
        · simp only [List.length_take, List.length_drop] at hi
          rw [if_neg hq, List.getElem?_take_of_lt (by omega), List.getElem?_drop, addr_add_add]
          exact hc _ (by omega)
    · have := (hb w).1
      simp only [execOp, ho, Instr.sliceAt, Instr.sureAddr, run_underlying hd, h1, Sem.run_bind, Result.andThen_ok, Sem.run_pure, this, run_sizeOf hn]
  · cases hv

theorem sap_sound (hs : VRs W0 s a.tmps.toList) {x : Operand} {x' : AArg} (hx : cArg x = some x') {o : Oper} {t e : TypeId} {n : Nat} (ho : o.op = .sliceToArrayPointer t x) (he : tArr P t = some (n, e))
    {v : AV} (hv : pv s (.sap n x') = some v) : Yl P W0 a o v := by
  have h1 := cArg_sound hs hx
  have hd := tArr_sound he
  simp only [pv] at hv
  split at hv
  · rename_i id off len cap e1
    rw [e1] at h1; simp only [VR] at h1
    split at hv <;> cases hv
    rename_i hn
    have : ¬ len < n := by omega
    exact ⟨.pointer (some ⟨id, off, none⟩), by simp only [VR], fun w => by simp [execOp, ho, h1.1, Instr.arrayAt, run_underlying hd, this]⟩
  · rename_i cs len ex e1
    rw [e1] at h1; simp only [VR] at h1
    split at hv <;> cases hv
    rename_i hn
    have : ¬ len < n := by omega
    rcases h1 with ⟨p, cap, l, h1, _, _, hc, hl⟩ | ⟨h0, _, _⟩
    · exact ⟨.pointer (some p), by simp only [VR]; exact ⟨p, l, rfl, hc, hl⟩, fun w => by simp [execOp, ho, h1, Instr.arrayAt, run_underlying hd, this]⟩
    · omega
  · cases hv

theorem idxV_sound (hs : VRs W0 s a.tmps.toList) {x i : Operand} {x' i' : AArg} (hx : cArg x = some x') (hi : cArg i = some i') {o : Oper} {t e : TypeId} {m n : Nat} {g : Bool} (ho : o.op = .index t x i) (hd : P.underlying t = some (.array m e))
    (hg : tAgg P e = some g) (hn : tSize P e = some n) {v : AV} (hv : pv s (.idxV g m n x' i') = some v) : Yl P W0 a o v := by
  have h1 := cArg_sound hs hx
  have h2 := cArg_sound hs hi
  simp only [pv] at hv
  split at hv
  rotate_left
  · cases hv
  rename_i cs k q e1 e2
  rw [e1] at h1; rw [e2] at h2; simp only [VR] at h1 h2
  obtain ⟨l, h1, hl⟩ := h1
  split at hv
  rotate_left
  · cases hv
  rename_i hq
  cases g
  · simp only [Bool.false_eq_true, if_false] at hv
    obtain ⟨u, hu, hr⟩ := VRs_get hl _ v hv
    exact ⟨u, hr, fun w => by simp [execOp, ho, h1, h2, Instr.index, asIntOf, run_underlying hd, hq, part, run_isAgg hg, run_sizeOf hn, hu]⟩
  · simp only [if_true] at hv
    split at hv <;> cases hv
    rename_i hlen
    refine ⟨.agg (l.toArray.extract (q.toNat * n) (q.toNat * n + n)), ?_, fun w => by simp [execOp, ho, h1, h2, Instr.index, asIntOf, run_underlying hd, hq, part, run_isAgg hg, run_sizeOf hn]⟩
    simp only [VR]
    refine ⟨(l.drop (q.toNat * n)).take n, ?_, VRs_take (VRs_drop hl _) _⟩
    apply congrArg
    apply Array.ext'
    simp

/-! ### Entries -/

theorem EntsR_len : ∀ {es : Ents} {l : List MapEntry}, EntsR W0 es l → l.length = es.length
  | [], l, h => by simp only [EntsR] at h; subst h; rfl
  | (k, v, n) :: es, l, h => by
    simp only [EntsR] at h
    obtain ⟨e, l', rfl, _, _, _, h4⟩ := h
    simp [EntsR_len h4]

theorem EntsR_append : ∀ {es es' : Ents} {l l' : List MapEntry}, EntsR W0 es l → EntsR W0 es' l' → EntsR W0 (es ++ es') (l ++ l')
  | [], es', l, l', h, h' => by simp only [EntsR] at h; subst h; exact h'
  | (k, v, n) :: es, es', l, l', h, h' => by
    simp only [EntsR] at h
    obtain ⟨e, l2, rfl, h1, h2, h3, h4⟩ := h
    simp only [List.cons_append, EntsR]
    exact ⟨e, l2 ++ l', rfl, h1, h2, h3, EntsR_append h4 h'⟩

theorem EntsR_erase : ∀ {es : Ents} {l : List MapEntry} (i : Nat), EntsR W0 es l → EntsR W0 (es.eraseIdx i) (l.eraseIdx i)
  | [], l, i, h => by simp only [EntsR] at h; subst h; simp [EntsR]
  | (k, v, n) :: es, l, i, h => by
    simp only [EntsR] at h
    obtain ⟨e, l2, rfl, h1, h2, h3, h4⟩ := h
    cases i with
    | zero => exact h4
    | succ i => simp only [List.eraseIdx_cons_succ, EntsR]; exact ⟨e, _, rfl, h1, h2, h3, EntsR_erase i h4⟩

theorem EntsR_modify {k v : AV} {uk uv : Value} (hk : VR W0 k uk) (hv : VR W0 v uv) : ∀ {es : Ents} {l : List MapEntry} (i : Nat), EntsR W0 es l →
    EntsR W0 (es.modify i fun e => (k, v, e.2.2)) (l.modify i fun e => { e with key := uk, val := uv })
  | [], l, i, h => by simp only [EntsR] at h; subst h; simp [EntsR]
  | (k', v', n) :: es, l, i, h => by
    simp only [EntsR] at h
    obtain ⟨e, l2, rfl, h1, h2, h3, h4⟩ := h
    cases i with
    | zero => simp only [List.modify_zero_cons, EntsR]; exact ⟨_, l2, rfl, hk, hv, h3, h4⟩
    | succ i => simp only [List.modify_succ_cons, EntsR]; exact ⟨e, _, rfl, h1, h2, h3, EntsR_modify hk hv i h4⟩

/-! ### Keys -/

theorem eqArr_run (d : Nat) {e : TypeId} {k : CK} (hk : ckOf P e = some k) : ∀ (m i : Nat) (xs ys : List AV) (us vs : Array Value) (b : Bool), eqCells (List.replicate m k) xs ys = some b →
    VRs W0 xs (us.toList.drop i) → VRs W0 ys (vs.toList.drop i) → ∀ w,
    ((forIn (List.range' i m) ((none, ()) : Option Bool × Unit) fun j r => do
        if !(← Op.equalIn (d + 1) e (← part e us (j * 1)) (← part e vs (j * 1))) then pure (ForInStep.done (some false, ())) else pure (ForInStep.yield (none, ())) : Sem (Option Bool × Unit)).run P w) = .ok (if b then none else some false, ()) w
  | 0, i, xs, ys, us, vs, b, he, hx, hy, w => by
    cases xs <;> cases ys <;> simp [eqCells] at he
    subst he
    simp
  | m + 1, i, xs, ys, us, vs, b, he, hx, hy, w => by
    simp only [List.replicate_succ] at he
    cases xs with
    | nil => cases ys <;> simp [eqCells] at he
    | cons x xs =>
      cases ys with
      | nil => simp [eqCells] at he
      | cons y ys =>
        simp only [eqCells] at he
        split at he
        · rename_i b1 b2 e1 e2
          cases he
          simp only [VRs] at hx hy
          obtain ⟨u, us', hu, hxu, hxs⟩ := hx
          obtain ⟨v, vs', hv, hyv, hys⟩ := hy
          have hu0 : us[i]? = some u := by
            have : (us.toList.drop i)[0]? = some u := by rw [hu]; rfl
            simpa using this
          have hv0 : vs[i]? = some v := by
            have : (vs.toList.drop i)[0]? = some v := by rw [hv]; rfl
            simpa using this
          have hus : us.toList.drop (i + 1) = us' := by rw [← List.drop_drop, hu]; rfl
          have hvs : vs.toList.drop (i + 1) = vs' := by rw [← List.drop_drop, hv]; rfl
          have ih := eqArr_run d hk m (i + 1) xs ys us vs b2 e2 (by rw [hus]; exact hxs) (by rw [hvs]; exact hys) w
          have hpu : ∀ w, (part e us (i * 1)).run P w = .ok u w := fun w => by simp [part, run_isAgg (ckOf_notAgg hk), hu0]
          have hpv : ∀ w, (part e vs (i * 1)).run P w = .ok v w := fun w => by simp [part, run_isAgg (ckOf_notAgg hk), hv0]
          have hq := eqCell_sound (P := P) d hk e1 hxu hyv w
          simp only [List.range'_succ, List.forIn_cons, Sem.run_bind, hpu, hpv, Result.andThen_ok, hq]
          cases b1
          · simp
          · simpa using ih
        · cases he

theorem key_equal {t : TypeId} {kk : KK} {x y : AV} {u v : Value} {b : Bool} (ht : kkOf P t = some kk) (hb : keyEq kk x y = some b) (hx : VR W0 x u) (hy : VR W0 y v) (w : World) : (Op.equal t u v).run P w = .ok b w := by
  show (Op.equalIn (9999 + 1) t u v).run P w = _
  unfold kkOf at ht
  split at ht
  · rename_i n e hd
    split at ht
    · rename_i k hk hn
      split at ht <;> cases ht
      unfold keyEq at hb
      split at hb
      · rename_i e1; cases e1
      · rename_i n' k' xs ys e1
        cases e1
        simp only [VR] at hx hy
        obtain ⟨us, rfl, hus⟩ := hx
        obtain ⟨vs, rfl, hvs⟩ := hy
        have key := eqArr_run (P := P) (W0 := W0) 9998 hk n 0 xs ys us.toArray vs.toArray b hb (by simpa using hus) (by simpa using hvs) w
        unfold Op.equalIn
        simp only [Sem.run_bind, run_underlying hd, Result.andThen_ok, run_sizeOf hn, Std.Legacy.Range.forIn_eq_forIn_range', Std.Legacy.Range.size, Nat.sub_zero, Nat.add_one_sub_one, Nat.div_one]
        (try simp only [Sem.run_bind, bind_pure_comp] at key)
        (try simp only [Sem.run_bind, bind_pure_comp])
        rw [key]
        cases b <;> simp
      · cases hb
    · cases ht
  · simp only [Option.map_eq_some_iff] at ht
    obtain ⟨k, hk, rfl⟩ := ht
    exact eqCell_sound 9999 hk hb hx hy w

theorem ba_eq {a b : ByteArray} (h : (a == b) = true) : a = b := by
  cases a; cases b
  rename_i x y
  have : (x == y) = true := h
  rw [eq_of_beq this]
theorem ba_refl (a : ByteArray) : (a == a) = true := by
  cases a; rename_i x
  show (x == x) = true
  simp

theorem eqCell_true {k : CK} {x y : AV} {u v : Value} (hb : eqCell k x y = some true) (hx : VR W0 x u) (hy : VR W0 y v) : u = v ∧ ∀ n, Instr.sameBits n u u = true := by
  unfold eqCell at hb
  split at hb
  · simp only [VR] at hx hy
    split at hb
    · rename_i e; subst e
      simp at hb; subst hb
      exact ⟨by rw [hx, hy], fun n => by subst hx; cases n <;> simp [Instr.sameBits]⟩
    · cases hb
  · simp only [VR] at hx hy
    simp at hb; subst hb
    exact ⟨by rw [hx, hy], fun n => by subst hx; cases n <;> simp [Instr.sameBits]⟩
  · simp only [VR] at hx hy
    rw [Option.some.injEq] at hb
    have hb := ba_eq hb; subst hb
    exact ⟨by rw [hx, hy], fun n => by subst hx; cases n <;> simp [Instr.sameBits, ba_refl]⟩
  · cases hb

theorem eqCells_true {k : CK} : ∀ {n : Nat} {xs ys : List AV} {us vs : List Value}, eqCells (List.replicate n k) xs ys = some true → VRs W0 xs us → VRs W0 ys vs → us = vs ∧ ∀ m, (us.zip us).all (fun p => Instr.sameBits m p.1 p.2) = true
  | 0, xs, ys, us, vs, hb, hx, hy => by
    cases xs <;> cases ys <;> simp [eqCells] at hb
    simp only [VRs] at hx hy; subst hx hy
    exact ⟨rfl, fun m => by simp⟩
  | n + 1, xs, ys, us, vs, hb, hx, hy => by
    simp only [List.replicate_succ] at hb
    cases xs with
    | nil => cases ys <;> simp [eqCells] at hb
    | cons x xs =>
      cases ys with
      | nil => simp [eqCells] at hb
      | cons y ys =>
        simp only [eqCells] at hb
        split at hb
        · rename_i b1 b2 e1 e2
          simp at hb
          obtain ⟨rfl, rfl⟩ := hb
          simp only [VRs] at hx hy
          obtain ⟨u, us', rfl, hxu, hxs⟩ := hx
          obtain ⟨v, vs', rfl, hyv, hys⟩ := hy
          obtain ⟨q1, q2⟩ := eqCell_true e1 hxu hyv
          obtain ⟨q3, q4⟩ := eqCells_true e2 hxs hys
          subst q1 q3
          exact ⟨rfl, fun m => by simp only [List.zip_cons_cons, List.all_cons, q2, q4, Bool.and_self]⟩
        · cases hb

theorem key_same {kk : KK} {x y : AV} {u v : Value} (hb : keyEq kk x y = some true) (hx : VR W0 x u) (hy : VR W0 y v) : Instr.sameBits 10000 v u = true := by
  unfold keyEq at hb
  split at hb
  · obtain ⟨rfl, h⟩ := eqCell_true hb hx hy; exact h _
  · simp only [VR] at hx hy
    obtain ⟨us, rfl, hus⟩ := hx
    obtain ⟨vs, rfl, hvs⟩ := hy
    obtain ⟨rfl, h⟩ := eqCells_true hb hus hvs
    show Instr.sameBits (9999 + 1) _ _ = true
    simp only [Instr.sameBits, beq_self_eq_true, Bool.true_and]
    exact h 9999
  · cases hb

theorem findAsking_run {t : TypeId} {kk : KK} {k : AV} {u : Value} (ht : kkOf P t = some kk) (hk : VR W0 k u) : ∀ {es : Ents} {l : List MapEntry} {i : Nat} {r : Option (Nat × AV)}, EntsR W0 es l → mfind kk k es i = some r → ∀ w,
    ∃ r', (Instr.findAsking t u l i).run P w = .ok r' w ∧ (r = none → r' = none) ∧ ∀ j v, r = some (j, v) → ∃ uv, r' = some (j, uv) ∧ VR W0 v uv
  | [], l, i, r, he, hm, w => by
    simp only [EntsR] at he; subst he
    simp only [mfind, Option.some.injEq] at hm; subst hm
    exact ⟨none, by simp [Instr.findAsking], by simp, by simp⟩
  | e :: es, l, i, r, he, hm, w => by
    obtain ⟨k', v', n⟩ := e
    simp only [EntsR] at he
    obtain ⟨e, l', rfl, h1, h2, h3, h4⟩ := he
    simp only [mfind] at hm
    split at hm
    · rename_i hb
      cases hm
      have := key_equal (P := P) ht hb hk h1
      exact ⟨some (i, e.val), by simp [Instr.findAsking, this], by simp, fun j v hj => by cases hj; exact ⟨_, rfl, h2⟩⟩
    · rename_i hb
      have := key_equal (P := P) ht hb hk h1
      obtain ⟨r', g1, g2⟩ := findAsking_run ht hk h4 hm w
      exact ⟨r', by simp [Instr.findAsking, this, g1], g2⟩
    · cases hm

theorem sameNow_eq {d : TypeDesc} {k : CK} {x y : AV} {u v : Value} {b : Bool} (hd : (d = .bool ∧ k = .b) ∨ (∃ q, d = .int q ∧ k = .i) ∨ (d = .string ∧ k = .s)) (hb : eqCell k x y = some b) (hx : VR W0 x u) (hy : VR W0 y v) : Instr.sameNow d u v = some b := by
  rcases hd with ⟨rfl, rfl⟩ | ⟨q, rfl, rfl⟩ | ⟨rfl, rfl⟩ <;> (unfold eqCell at hb; split at hb <;> first | (rename_i e; cases e; done) | skip)
  all_goals first | (cases hb; done) | skip
  all_goals simp only [VR] at hx hy
  all_goals subst hx hy
  · cases hb; simp [Instr.sameNow]
  · split at hb
    · rename_i e; cases hb; subst e; simp [Instr.sameNow]; rfl
    · cases hb
  · cases hb; simp [Instr.sameNow]

theorem findNow_run {d : TypeDesc} {ck : CK} {k : AV} {u : Value} (hd : (d = .bool ∧ ck = .b) ∨ (∃ q, d = .int q ∧ ck = .i) ∨ (d = .string ∧ ck = .s)) (hk : VR W0 k u) : ∀ {es : Ents} {l : List MapEntry} {i : Nat} {r : Option (Nat × AV)}, EntsR W0 es l → mfind (.c ck) k es i = some r →
    ∃ r', Instr.findNow d u l i = some r' ∧ (r = none → r' = none) ∧ ∀ j v, r = some (j, v) → ∃ uv, r' = some (j, uv) ∧ VR W0 v uv
  | [], l, i, r, he, hm => by
    simp only [EntsR] at he; subst he
    simp only [mfind, Option.some.injEq] at hm; subst hm
    exact ⟨none, by simp [Instr.findNow], by simp, by simp⟩
  | e :: es, l, i, r, he, hm => by
    obtain ⟨k', v', n⟩ := e
    simp only [EntsR] at he
    obtain ⟨e, l', rfl, h1, h2, h3, h4⟩ := he
    simp only [mfind, keyEq] at hm
    split at hm
    · rename_i hb
      cases hm
      have := sameNow_eq hd hb hk h1
      exact ⟨some (i, e.val), by simp [Instr.findNow, this], by simp, fun j v hj => by cases hj; exact ⟨_, rfl, h2⟩⟩
    · rename_i hb
      have := sameNow_eq hd hb hk h1
      obtain ⟨r', g1, g2⟩ := findNow_run hd hk h4 hm
      exact ⟨r', by simp [Instr.findNow, this, g1], g2⟩
    · cases hm

theorem findKey_run {t : TypeId} {kk : KK} {k : AV} {u : Value} (ht : kkOf P t = some kk) (hk : VR W0 k u) {es : Ents} {l : List MapEntry} {r : Option (Nat × AV)} (he : EntsR W0 es l) (hm : mfind kk k es 0 = some r) (w : World) :
    ∃ r', (Instr.findKey t u l).run P w = .ok r' w ∧ (r = none → r' = none) ∧ ∀ j v, r = some (j, v) → ∃ uv, r' = some (j, uv) ∧ VR W0 v uv := by
  have ht0 := ht
  unfold kkOf at ht
  split at ht
  · rename_i n e hd
    cases l with
    | nil =>
      cases es with
      | nil =>
        simp only [mfind, Option.some.injEq] at hm; subst hm
        exact ⟨none, by simp [Instr.findKey, run_underlying hd, Instr.findNow], by simp, by simp⟩
      | cons e es => have := EntsR_len he; simp at this
    | cons e l =>
      obtain ⟨r', g1, g2⟩ := findAsking_run (P := P) ht0 hk he hm w
      refine ⟨r', ?_, g2⟩
      have : ∀ x y : Value, Instr.sameNow (.array n ‹TypeId›) x y = none := fun x y => by unfold Instr.sameNow; rfl
      simp only [Instr.findKey, Sem.run_bind, run_underlying hd, Result.andThen_ok, Instr.findNow, this]
      exact g1
  · simp only [Option.map_eq_some_iff] at ht
    obtain ⟨ck, hck, rfl⟩ := ht
    unfold ckOf at hck
    split at hck <;> cases hck <;> rename_i hd
    · obtain ⟨r', g1, g2⟩ := findNow_run (d := .bool) (ck := .b) (.inl ⟨rfl, rfl⟩) hk he hm
      exact ⟨r', by simp only [Instr.findKey, Sem.run_bind, run_underlying hd, Result.andThen_ok, g1, Sem.run_pure], g2⟩
    · rename_i q
      obtain ⟨r', g1, g2⟩ := findNow_run (d := .int q) (ck := .i) (.inr (.inl ⟨q, rfl, rfl⟩)) hk he hm
      exact ⟨r', by simp only [Instr.findKey, Sem.run_bind, run_underlying hd, Result.andThen_ok, g1, Sem.run_pure], g2⟩
    · obtain ⟨r', g1, g2⟩ := findNow_run (d := .string) (ck := .s) (.inr (.inr ⟨rfl, rfl⟩)) hk he hm
      exact ⟨r', by simp only [Instr.findKey, Sem.run_bind, run_underlying hd, Result.andThen_ok, g1, Sem.run_pure], g2⟩

theorem chkArr_run (b : Bool) (d : Nat) {e : TypeId} {k : CK} (hk : ckOf P e = some k) (hn : tSize P e = some 1) : ∀ (m i : Nat) (us : Array Value), i + m ≤ us.size → ∀ w,
    ((forIn (List.range' i m) PUnit.unit fun j r => do
        Instr.checkKey b (d + 1) e (← part e us (j * (← sizeOf e)))
        pure (ForInStep.yield PUnit.unit) : Sem PUnit).run P w) = .ok PUnit.unit w
  | 0, i, us, h, w => by simp
  | m + 1, i, us, h, w => by
    have ih := chkArr_run b d hk hn m (i + 1) us (by omega) w
    have hu0 : us[i]? = some us[i] := Array.getElem?_eq_getElem (by omega)
    have hpu : ∀ w, (part e us (i * 1)).run P w = .ok us[i] w := fun w => by simp [part, run_isAgg (ckOf_notAgg hk), hu0]
    have hc : ∀ u w, (Instr.checkKey b (d + 1) e u).run P w = .ok () w := fun u w => by
      unfold Instr.checkKey
      unfold ckOf at hk
      split at hk <;> first | (cases hk; done) | (rename_i hd; simp [run_underlying hd])
    simp only [List.range'_succ, List.forIn_cons, Sem.run_bind, run_sizeOf hn, hpu, Result.andThen_ok, hc, Sem.run_pure]
    exact ih

theorem checkKey_run (b : Bool) {t : TypeId} {kk : KK} {k : AV} {u : Value} (ht : kkOf P t = some kk) (ho : keyOk kk k = true) (hk : VR W0 k u) (w : World) : (Instr.checkKey b 10000 t u).run P w = .ok () w := by
  show (Instr.checkKey b (9999 + 1) t u).run P w = _
  unfold kkOf at ht
  split at ht
  · rename_i n e hd
    split at ht
    · rename_i c hc hn
      split at ht <;> cases ht
      unfold keyOk at ho
      split at ho
      · rename_i e1; cases e1
      · rename_i e1; cases e1
      · rename_i e1; cases e1
      · rename_i n' k' xs e1
        cases e1
        simp only [VR] at hk
        obtain ⟨us, rfl, hus⟩ := hk
        have hl := VRs_length hus
        simp only [Bool.and_eq_true, beq_iff_eq] at ho
        have key := chkArr_run (P := P) b 9998 hc hn n 0 us.toArray (by simp; omega) w
        unfold Instr.checkKey
        simp only [Sem.run_bind, run_underlying hd, Result.andThen_ok, Std.Legacy.Range.forIn_eq_forIn_range', Std.Legacy.Range.size, Nat.sub_zero, Nat.add_one_sub_one, Nat.div_one]
        (try simp only [Sem.run_bind, bind_pure_comp] at key)
        (try simp only [Sem.run_bind, bind_pure_comp])
        rw [key]
        simp
      · cases ho
    · cases ht
  · simp only [Option.map_eq_some_iff] at ht
    obtain ⟨ck, hck, rfl⟩ := ht
    unfold Instr.checkKey
    unfold ckOf at hck
    split at hck <;> first | (cases hck; done) | (rename_i hd; simp [run_underlying hd])

/-! ### The operations -/

theorem tMap_sound {t k e : TypeId} {kk : KK} (h : tMap P t = some (kk, k, e)) : P.underlying t = some (.map k e) ∧ kkOf P k = some kk := by
  unfold tMap at h
  split at h
  · rename_i k' e' hd
    simp only [Option.map_eq_some_iff] at h
    obtain ⟨q, hq, h⟩ := h
    cases h
    exact ⟨hd, hq⟩
  · cases h

theorem tZeroV_sound {t : TypeId} {z : AV} (h : tZeroV P t = some z) : ∃ v, (∀ w, (zeroValue t).run P w = .ok v w) ∧ VR W0 z v := by
  unfold tZeroV at h
  split at h
  · rename_i i hi
    split at h
    · rename_i v hz
      exact ⟨v, fun w => by simp [zeroValue, run_typeInfo hi, hz], cst_sound h⟩
    · cases h
  · cases h

theorem Rel.map {h : AHeap} {w : World} (r : Rel W0 h w) {id c : Nat} {es : Ents} (hid : h id = some (.map es c)) : ∃ l : List MapEntry, w.heap[id]? = some (.map l.toArray c) ∧ EntsR W0 es l ∧ BornOk es c := by
  obtain ⟨_, obj, h2, h3⟩ := r.live id _ hid
  simp only [OR] at h3
  obtain ⟨l, rfl, hl, hb⟩ := h3
  exact ⟨l, h2, hl, hb⟩

theorem obj_rel {h : AHeap} {w : World} (r : Rel W0 h w) {id : Nat} {o o' : AObj} {obj : Obj} (hid : h id = some o) (ho : OR W0 o' obj) :
    Rel W0 (upd h id o') { w with heap := w.heap.setIfInBounds id obj } ∧ Fr W0 h w W0 (upd h id o') { w with heap := w.heap.setIfInBounds id obj } := by
  obtain ⟨h1, obj0, h2, h3⟩ := r.live id o hid
  have hlt := r.lt hid
  have hne : ∀ b, b ≠ id → (w.heap.setIfInBounds id obj)[b]? = w.heap[b]? := fun b hb => by rw [Array.getElem?_setIfInBounds_ne (Ne.symm hb)]
  refine ⟨⟨fun p v e => ?_, fun x q hx => ?_, r.glob, r.fix.kept ?k⟩, ⟨rfl, rfl, rfl, Nat.le_refl _, by simp, ?k, fun b hb hn => ?_, fun p v e => e, fun p v e => .inl e⟩⟩
  · have hp : p.block ≠ id := fun hp => by rw [h1 p hp] at e; cases e
    rw [← r.base p v e]
    simp only [World.cell?, hne _ hp]
  · by_cases hx2 : x = id
    · subst hx2
      simp [upd] at hx; subst hx
      exact ⟨h1, obj, by simp [hlt], ho⟩
    · simp only [upd, if_neg hx2] at hx
      obtain ⟨g1, g2, g3, g4⟩ := r.live x q hx
      exact ⟨g1, g2, by rw [← g3]; exact hne _ hx2, g4⟩
  · intro b hb hn
    have : b ≠ id := by rintro rfl; rw [hid] at hn; cases hn
    exact ⟨hne b this, by simp only [upd, if_neg this]; exact hn⟩
  · by_cases hx2 : b = id
    · subst hx2; rw [hid]; simp
    · simp only [upd, if_neg hx2] at hn; exact hn

theorem mkMap_ok {o : Oper} {h : AHeap} {w : World} {K : AV → AHeap → Prop} {t : TypeId} (r : Rel W0 h w) (ho : o.op = .makeMap t none) (k : ∀ id, h id = none → K (.map id) (upd h id (.map [] 0))) : Ok P W0 a o h w K := by
  obtain ⟨r', f'⟩ := alloc_rel r (o := .map [] 0) (obj := .map #[] 0) (by simp only [OR]; exact ⟨[], rfl, by simp only [EntsR], BornOk.nil _⟩)
  refine ⟨_, .map (some w.heap.size), _, _, .inl ?_, by simp only [VR], r', f', k _ (fresh_ok r)⟩
  simp [execOp, ho, Instr.makeMap]

theorem ments_sound {h : AHeap} {w : World} (r : Rel W0 h w) {m : AV} {u : Value} {q : Option Nat × Ents × Nat} (hm : ments h m = some q) (hv : VR W0 m u) :
    (u = .map none ∧ q = (none, [], 0)) ∨ ∃ id es c l, m = .map id ∧ u = .map (some id) ∧ q = (some id, es, c) ∧ h id = some (.map es c) ∧ w.heap[id]? = some (.map (List.toArray l) c) ∧ EntsR W0 es l ∧ BornOk es c := by
  unfold ments at hm
  split at hm
  · simp only [VR] at hv; cases hm; exact .inl ⟨hv, rfl⟩
  · rename_i id
    split at hm
    · rename_i es c hid
      cases hm
      simp only [VR] at hv
      obtain ⟨l, h1, h2⟩ := r.map hid
      exact .inr ⟨id, es, c, l, rfl, hv, rfl, hid, h1, h2⟩
    · cases hm
  · cases hm

theorem run_getMap {w : World} {id c : Nat} {l : Array MapEntry} (hb : w.heap[id]? = some (.map l c)) : (getObj id).run P w = .ok (.map l c) w := by simp [getObj, Sem.run, hb]
theorem run_setMap {w : World} {id c : Nat} {l : Array MapEntry} (o : Obj) (hb : w.heap[id]? = some (.map l c)) : (setObj id o).run P w = .ok () { w with heap := w.heap.setIfInBounds id o } := by simp [setObj, Sem.run, hb]

theorem mget_ok {o : Oper} {h : AHeap} {w : World} {K : AV → AHeap → Prop} {t kt e : TypeId} {kk : KK} {z : AV} {ok : Bool} {x y : Operand} {x' y' : AArg} (hs : VRs W0 s a.tmps.toList) (r : Rel W0 h w) (ho : o.op = .lookup t x y ok) (ht : tMap P t = some (kk, kt, e))
    (hz : tZeroV P e = some z) (hx : cArg x = some x') (hy : cArg y = some y') (k : mapA h (.get kk z ok) [ev s x', ev s y'] K) : Ok P W0 a o h w K := by
  have h1 := cArg_sound hs hx
  have h2 := cArg_sound hs hy
  obtain ⟨hd, hkk⟩ := tMap_sound ht
  obtain ⟨zv, hzv, hzr⟩ := tZeroV_sound (W0 := W0) hz
  obtain ⟨rr, hm, kk'⟩ := k
  generalize ev s x' = X at *
  generalize ev s y' = Y at *
  generalize hU : a.eval x = U at *
  generalize hV : a.eval y = V at *
  simp only [mapF] at hm
  split at hm
  rotate_left
  · cases hm
  rename_i q es c hme
  split at hm
  rotate_left
  · cases hm
  rename_i hok
  have hck := fun b => checkKey_run (P := P) b hkk hok h2
  have hmr : ∀ (b : Bool) (v : AV) (u : Value), VR W0 v u → VR W0 (mres ok v b) (if ok then .tuple #[u, .bool b] else u) := fun b v u hvu => by
    cases ok
    · exact hvu
    · simp only [mres, if_true, VR]
      exact ⟨[u, .bool b], rfl, VRs_cons hvu (VRs_cons (by simp only [VR]) VRs_nil)⟩
  rcases ments_sound r hme h1 with ⟨rfl, hq⟩ | ⟨id, es', c', l, rfl, rfl, hq, hid, hw, hl, hbo⟩
  · cases hq
    simp only [mfind] at hm
    cases hm
    refine ⟨_, _, h, w, .inl ?_, hmr false z zv hzr, r, Fr.refl _ _ _, kk'⟩
    obtain ⟨r', g1, g2, _⟩ := findKey_run (P := P) (es := []) (l := []) (r := none) hkk h2 (by simp only [EntsR]) (by simp only [mfind]) w
    rw [g2 rfl] at g1
    simp only [execOp, ho, hU, hV, Instr.lookup, Sem.run_bind, run_underlying hd, Result.andThen_ok, Sem.run_pure, hck, g1, hzv]
  · cases hq
    have hfk : ∀ rq, mfind kk Y es 0 = some rq → ∃ r', (Instr.findKey kt V l).run P w = .ok r' w ∧ (rq = none → r' = none) ∧ ∀ j v, rq = some (j, v) → ∃ uv, r' = some (j, uv) ∧ VR W0 v uv := fun rq e => findKey_run hkk h2 hl e w
    split at hm
    · rename_i j v hf
      cases hm
      obtain ⟨r', g1, _, g3⟩ := hfk _ hf
      obtain ⟨uv, rfl, huv⟩ := g3 _ _ rfl
      refine ⟨_, _, h, w, .inl ?_, hmr true v uv huv, r, Fr.refl _ _ _, kk'⟩
      simp only [execOp, ho, hU, hV, Instr.lookup, Sem.run_bind, run_underlying hd, Result.andThen_ok, Sem.run_pure, hck, run_getMap hw, g1]
    · rename_i hf
      cases hm
      obtain ⟨r', g1, g2, _⟩ := hfk _ hf
      rw [g2 rfl] at g1
      refine ⟨_, _, h, w, .inl ?_, hmr false z zv hzr, r, Fr.refl _ _ _, kk'⟩
      simp only [execOp, ho, hU, hV, Instr.lookup, Sem.run_bind, run_underlying hd, Result.andThen_ok, Sem.run_pure, hck, run_getMap hw, g1, hzv]
    · cases hm

theorem mfind_at {kk : KK} {k : AV} : ∀ {es : Ents} {i j : Nat} {v : AV}, mfind kk k es i = some (some (j, v)) → i ≤ j ∧ ∃ e, es[j - i]? = some e ∧ keyEq kk k e.1 = some true
  | [], i, j, v, h => by simp [mfind] at h
  | e :: es, i, j, v, h => by
    simp only [mfind] at h
    split at h
    · rename_i hb
      simp at h
      obtain ⟨rfl, _⟩ := h
      exact ⟨Nat.le_refl _, e, by simp, hb⟩
    · obtain ⟨h1, e', h2, h3⟩ := mfind_at h
      refine ⟨by omega, e', ?_, h3⟩
      rw [show j - i = (j - (i + 1)) + 1 by omega, List.getElem?_cons_succ]; exact h2
    · cases h

theorem EntsR_get : ∀ {es : Ents} {l : List MapEntry}, EntsR W0 es l → ∀ {i : Nat} {e : AV × AV × Nat}, es[i]? = some e → ∃ e', l[i]? = some e' ∧ VR W0 e.1 e'.key
  | [], l, h, i, e, hi => by simp at hi
  | (k, v, n) :: es, l, h, i, e, hi => by
    simp only [EntsR] at h
    obtain ⟨e', l2, rfl, h1, h2, h3, h4⟩ := h
    cases i with
    | zero => simp at hi; subst hi; exact ⟨e', by simp, h1⟩
    | succ i => simp at hi; obtain ⟨e2, g1, g2⟩ := EntsR_get h4 hi; exact ⟨e2, by simpa using g1, g2⟩

theorem mput_ok {o : Oper} {h : AHeap} {w : World} {K : AV → AHeap → Prop} {t kt e : TypeId} {kk : KK} {x y v : Operand} {x' y' v' : AArg} (hs : VRs W0 s a.tmps.toList) (r : Rel W0 h w) (ho : o.op = .mapUpdate t x y v ∨ o.op = .insert t x y v) (ht : tMap P t = some (kk, kt, e))
    (hx : cArg x = some x') (hy : cArg y = some y') (hv : cArg v = some v') (k : mapA h (.put kk) [ev s x', ev s y', ev s v'] K) : Ok P W0 a o h w K := by
  have h1 := cArg_sound hs hx
  have h2 := cArg_sound hs hy
  have h3 := cArg_sound hs hv
  obtain ⟨hd, hkk⟩ := tMap_sound ht
  obtain ⟨rr, hm, kk'⟩ := k
  generalize ev s x' = X at *
  generalize ev s y' = Y at *
  generalize ev s v' = Z at *
  generalize hU : a.eval x = U at *
  generalize hV : a.eval y = V at *
  generalize hT : a.eval v = T at *
  have run : ∀ w', (Instr.mapUpdate t U V T).run P w = .ok () w' → (execOp a.eval o).run P w = .ok .skip w' := fun w' e => by
    rcases ho with ho | ho <;> simp [execOp, ho, hU, hV, hT, e]
  simp only [mapF] at hm
  split at hm
  rotate_left
  · cases hm
  rename_i id es c hme
  split at hm
  rotate_left
  · cases hm
  rename_i hok
  have hck := fun b => checkKey_run (P := P) b hkk hok h2
  rcases ments_sound r hme h1 with ⟨rfl, hq⟩ | ⟨id', es', c', l, rfl, rfl, hq, hid, hw, hl, hbo⟩
  · cases hq
  · cases hq
    split at hm
    · rename_i j v0 hf
      cases hm
      obtain ⟨r', g1, _, g3⟩ := findKey_run (P := P) hkk h2 hl hf w
      obtain ⟨uv, rfl, _⟩ := g3 _ _ rfl
      obtain ⟨_, e0, q1, q2⟩ := mfind_at hf
      obtain ⟨e1, q3, q4⟩ := EntsR_get hl q1
      have hsb := key_same q2 h2 q4
      have q5 : l.toArray[j]? = some e1 := by simpa using q3
      obtain ⟨r2, f2⟩ := obj_rel r (o' := .map (es.modify j fun e => (Y, Z, e.2.2)) c) (obj := .map (l.toArray.modify j fun e => { e with key := V, val := T }) c) hid (by
        simp only [OR]
        exact ⟨l.modify j fun e => { e with key := V, val := T }, by simp, EntsR_modify h2 h3 j hl, hbo.modify j _ _⟩)
      refine ⟨.undef, undef, _, _, .inr ⟨rfl, run _ ?_⟩, by simp only [VR], r2, f2, kk'⟩
      simp only [Instr.mapUpdate, Sem.run_bind, run_underlying hd, Result.andThen_ok, run_getMap hw, hck, g1, Instr.keyThatStays, q5, Option.map_some, Option.getD_some, hsb, if_true, Sem.run_pure, run_setMap _ hw]
    · rename_i hf
      cases hm
      obtain ⟨r', g1, g2, _⟩ := findKey_run (P := P) hkk h2 hl hf w
      rw [g2 rfl] at g1
      obtain ⟨r2, f2⟩ := obj_rel r (o' := .map (es ++ [(Y, Z, c)]) (c + 1)) (obj := .map (l.toArray.push { key := V, val := T, born := c }) (c + 1)) hid (by
        simp only [OR]
        exact ⟨l ++ [{ key := V, val := T, born := c }], by simp, EntsR_append hl (by simp only [EntsR]; exact ⟨_, [], rfl, h2, h3, rfl, rfl⟩), hbo.push _ _⟩)
      refine ⟨.undef, undef, _, _, .inr ⟨rfl, run _ ?_⟩, by simp only [VR], r2, f2, kk'⟩
      simp only [Instr.mapUpdate, Sem.run_bind, run_underlying hd, Result.andThen_ok, run_getMap hw, hck, g1, run_setMap _ hw]
    · cases hm

theorem mdel_ok {o : Oper} {h : AHeap} {w : World} {K : AV → AHeap → Prop} {t kt e : TypeId} {kk : KK} {x y : Operand} {x' y' : AArg} {args : Array Operand} {tys : Array TypeId} (hs : VRs W0 s a.tmps.toList) (r : Rel W0 h w)
    (ho : o.op = .call { callee := .builtin .delete, args, argTypes := tys }) (ha : args.toList = [x, y]) (h0 : tys[0]? = some t) (ht : tMap P t = some (kk, kt, e))
    (hx : cArg x = some x') (hy : cArg y = some y') (k : mapA h (.del kk) [ev s x', ev s y'] K) : Ok P W0 a o h w K := by
  obtain rfl : args = #[x, y] := by rw [← Array.toArray_toList (xs := args), ha]
  have h1 := cArg_sound hs hx
  have h2 := cArg_sound hs hy
  obtain ⟨hd, hkk⟩ := tMap_sound ht
  obtain ⟨rr, hm, kk'⟩ := k
  generalize ev s x' = X at *
  generalize ev s y' = Y at *
  generalize hU : a.eval x = U at *
  generalize hV : a.eval y = V at *
  have run : (execOp a.eval o).run P w = ((Builtin.delete_ tys o.type #[U, V]).run P w).andThen fun v w' => .ok (.value v) w' := by
    simp [execOp, ho, resolve, invoke, builtin, hU, hV]
  have htup : VR W0 (.tup []) (.tuple #[]) := by simp only [VR]; exact ⟨[], rfl, VRs_nil⟩
  simp only [mapF] at hm
  split at hm
  rotate_left
  · cases hm
  rename_i q es c hme
  split at hm
  rotate_left
  · cases hm
  rename_i hok
  have hck := fun b => checkKey_run (P := P) b hkk hok h2
  rcases ments_sound r hme h1 with ⟨rfl, hq⟩ | ⟨id', es', c', l, rfl, rfl, hq, hid, hw, hl, hbo⟩
  · cases hq
    simp only [mfind] at hm
    cases hm
    refine ⟨_, _, h, w, .inl ?_, htup, r, Fr.refl _ _ _, kk'⟩
    rw [run]
    simp only [Builtin.delete_, h0, Sem.run_bind, run_underlying hd, Result.andThen_ok, List.getElem?_toArray, List.getElem?_cons_zero, List.getElem?_cons_succ, hck, Sem.run_pure]
  · cases hq
    split at hm
    · rename_i j v0 hf
      cases hm
      obtain ⟨r', g1, _, g3⟩ := findKey_run (P := P) hkk h2 hl hf w
      obtain ⟨uv, rfl, _⟩ := g3 _ _ rfl
      obtain ⟨r2, f2⟩ := obj_rel r (o' := .map (es.eraseIdx j) c) (obj := .map (l.toArray.eraseIdxIfInBounds j) c) hid (by
        simp only [OR]
        exact ⟨l.eraseIdx j, by simp, EntsR_erase j hl, hbo.erase j⟩)
      refine ⟨_, _, _, _, .inl ?_, htup, r2, f2, kk'⟩
      rw [run]
      simp only [Builtin.delete_, h0, Sem.run_bind, run_underlying hd, Result.andThen_ok, List.getElem?_toArray, List.getElem?_cons_zero, List.getElem?_cons_succ, hck, run_getMap hw, g1, run_setMap _ hw, Sem.run_pure]
    · rename_i hf
      cases hm
      obtain ⟨r', g1, g2, _⟩ := findKey_run (P := P) hkk h2 hl hf w
      rw [g2 rfl] at g1
      obtain ⟨r2, f2⟩ := obj_rel r (o' := .map es c) (obj := .map l.toArray c) hid (by simp only [OR]; exact ⟨l, rfl, hl, hbo⟩)
      refine ⟨_, _, _, _, .inl ?_, htup, r2, f2, kk'⟩
      rw [run]
      simp only [Builtin.delete_, h0, Sem.run_bind, run_underlying hd, Result.andThen_ok, List.getElem?_toArray, List.getElem?_cons_zero, List.getElem?_cons_succ, hck, run_getMap hw, g1, run_setMap _ hw, Sem.run_pure]
    · cases hm

theorem mlen_ok {o : Oper} {h : AHeap} {w : World} {K : AV → AHeap → Prop} {t kt e : TypeId} {x : Operand} {x' : AArg} {args : Array Operand} {tys : Array TypeId} (hs : VRs W0 s a.tmps.toList) (r : Rel W0 h w)
    (ho : o.op = .call { callee := .builtin .len, args, argTypes := tys }) (ha : args.toList = [x]) (h0 : tys[0]? = some t) (hd : P.underlying t = some (.map kt e))
    (hx : cArg x = some x') (k : mapA h .len [ev s x'] K) : Ok P W0 a o h w K := by
  obtain rfl : args = #[x] := by rw [← Array.toArray_toList (xs := args), ha]
  have h1 := cArg_sound hs hx
  obtain ⟨rr, hm, kk'⟩ := k
  generalize ev s x' = X at *
  generalize hU : a.eval x = U at *
  simp only [mapF, Option.map_eq_some_iff] at hm
  obtain ⟨q, hme, rfl⟩ := hm
  rcases ments_sound r hme h1 with ⟨rfl, hq⟩ | ⟨id', es', c', l, rfl, rfl, hq, hid, hw, hl, hbo⟩
  · subst hq
    exact ⟨_, .int .i64 0, h, w, .inl (by simp [execOp, ho, resolve, invoke, builtin, hU, Builtin.len_, h0, run_underlying hd, goInt]), by simp only [VR]; rfl, r, Fr.refl _ _ _, kk'⟩
  · subst hq
    have := EntsR_len hl
    exact ⟨_, .int .i64 l.length, h, w, .inl (by simp [execOp, ho, resolve, invoke, builtin, hU, Builtin.len_, h0, run_underlying hd, goInt, run_getMap hw]), by simp only [VR]; rw [this], r, Fr.refl _ _ _, kk'⟩

theorem mclr_ok {o : Oper} {h : AHeap} {w : World} {K : AV → AHeap → Prop} {t kt e : TypeId} {x : Operand} {x' : AArg} {args : Array Operand} {tys : Array TypeId} (hs : VRs W0 s a.tmps.toList) (r : Rel W0 h w)
    (ho : o.op = .call { callee := .builtin .clear, args, argTypes := tys }) (ha : args.toList = [x]) (h0 : tys[0]? = some t) (hd : P.underlying t = some (.map kt e))
    (hx : cArg x = some x') (k : mapA h .clr [ev s x'] K) : Ok P W0 a o h w K := by
  obtain rfl : args = #[x] := by rw [← Array.toArray_toList (xs := args), ha]
  have h1 := cArg_sound hs hx
  obtain ⟨rr, hm, kk'⟩ := k
  generalize ev s x' = X at *
  generalize hU : a.eval x = U at *
  simp only [mapF, Option.map_eq_some_iff] at hm
  obtain ⟨q, hme, rfl⟩ := hm
  have htup : VR W0 (.tup []) (.tuple #[]) := by simp only [VR]; exact ⟨[], rfl, VRs_nil⟩
  have run : (execOp a.eval o).run P w = ((Builtin.clear_ tys o.type #[U]).run P w).andThen fun v w' => .ok (.value v) w' := by
    simp [execOp, ho, resolve, invoke, builtin, hU]
  rcases ments_sound r hme h1 with ⟨rfl, hq⟩ | ⟨id', es', c', l, rfl, rfl, hq, hid, hw, hl, hbo⟩
  · subst hq
    refine ⟨_, _, h, w, .inl ?_, htup, r, Fr.refl _ _ _, kk'⟩
    rw [run]; simp [Builtin.clear_, h0, run_underlying hd]
  · subst hq
    obtain ⟨r2, f2⟩ := obj_rel r (o' := .map [] c') (obj := .map #[] c') hid (by simp only [OR]; exact ⟨[], rfl, by simp only [EntsR], BornOk.nil _⟩)
    refine ⟨_, _, _, _, .inl ?_, htup, r2, f2, kk'⟩
    rw [run]; simp [Builtin.clear_, h0, run_underlying hd, run_getMap hw, run_setMap _ hw]

end
end Go.Proofs.YteijaibggalapaaGreatDoor.E
