/-
  Every operation: 'aw' is sound.
-/
import Derived.Test.YteijaibggalapaaGreatDoorEM
namespace Go.Proofs.YteijaibggalapaaGreatDoor.E
open Go
set_option linter.unusedVariables false
set_option linter.unusedSimpArgs false

section
variable {P : Program} {W0 : World} {s : List AV} {a : Act}

theorem upd_self {h : AHeap} {id : Nat} {o : AObj} (hid : h id = some o) : upd h id o = h := by
  funext y; unfold upd; split
  · rename_i e; rw [e, hid]
  · rfl

theorem copy_ok {o : Oper} {h : AHeap} {w : World} {K : AV → AHeap → Prop} {t e : TypeId} {n : Nat} {x y : Operand} {x' y' : AArg} {args : Array Operand} {tys : Array TypeId} (hs : VRs W0 s a.tmps.toList) (r : Rel W0 h w)
    (ho : o.op = .call { callee := .builtin .copy, args, argTypes := tys }) (ha : args.toList = [x, y]) (ht : tys[0]? = some t) (he : tElem P t = some e) (hn : tSize P e = some n)
    (hx : cArg x = some x') (hy : cArg y = some y') (k : copyA h n (ev s x') (ev s y') K) : Ok P W0 a o h w K := by
  obtain rfl : args = #[x, y] := by rw [← Array.toArray_toList (xs := args), ha]
  have h1 := cArg_sound hs hx
  have h2 := cArg_sound hs hy
  generalize ev s x' = X at *
  generalize ev s y' = Y at *
  generalize hU : a.eval x = U at *
  generalize hV : a.eval y = V at *
  obtain ⟨new, hn1, k⟩ := k
  have hd := tElem_sound he
  have ln := acells_len hn1
  have run : (execOp a.eval o).run P w = ((Builtin.copy_ tys o.type #[U, V]).run P w).andThen fun v w' => .ok (.value v) w' := by
    simp [execOp, ho, resolve, invoke, builtin, hU, hV]
  split at k
  · simp only [VR] at h1; subst h1
    obtain ⟨us, hu, hf, hl⟩ := firstCells_run (P := P) (n := Nat.min (slen Y) 0) r rfl hn1 h2 (Nat.min_le_left _ _)
    refine ⟨_, .int .i64 0, h, w, .inl ?_, by simp only [VR], r, Fr.refl _ _ _, k⟩
    rw [run]
    simp only [Builtin.copy_, ht, Sem.run_bind, run_underlying hd, Result.andThen_ok, run_sizeOf hn, Sem.run_pure, List.getElem?_toArray, List.getElem?_cons_zero, List.getElem?_cons_succ, hl, hf]
    simp [goInt]
  · rename_i id off m cap
    obtain ⟨cs, tot, hid, hoff, hsc, kk⟩ := k
    simp only [VR] at h1; obtain ⟨rfl, hmc⟩ := h1
    obtain ⟨us, hu, hf, hl⟩ := firstCells_run (P := P) (n := Nat.min (slen Y) m) r rfl hn1 h2 (Nat.min_le_left _ _)
    obtain ⟨_, _, _, _, htt, hcl, _, _⟩ := r.cells hid
    have := VRs_length hcl
    have hle : Nat.min (slen Y) m * n ≤ m * n := Nat.mul_le_mul_right _ (Nat.min_le_right _ _)
    have hlu : (new.take (Nat.min (slen Y) m * n)).length ≤ m * n := by rw [List.length_take]; exact Nat.le_trans (Nat.min_le_left _ _) hle
    obtain ⟨w', e1, r', f'⟩ := write_rel (P := P) (off := off) r hid hu hsc (by omega) (by omega)
    refine ⟨_, .int .i64 (Nat.min (slen Y) m : Nat), _, w', .inl ?_, by simp only [VR], r', f', kk⟩
    rw [run]
    simp only [Builtin.copy_, ht, Sem.run_bind, run_underlying hd, Result.andThen_ok, run_sizeOf hn, Sem.run_pure, List.getElem?_toArray, List.getElem?_cons_zero, List.getElem?_cons_succ, hl, hf, e1, goInt]
  · exact k.elim

theorem zrep_vr {z : List AV} {zc : Array Value} (h : VRs W0 z zc.toList) (n : Nat) : VRs W0 (zrep z n) (Builtin.zeroCells zc n).toList := by
  have hzs : zc.size = z.length := by have := VRs_length h; simpa using this
  unfold zrep Builtin.zeroCells
  rw [hzs]
  simp only [Array.toList_map, Array.toList_range]
  have : ∀ (l : List Nat), (∀ j ∈ l, j % z.length < z.length) → VRs W0 (l.map fun i => z.getD (i % z.length) .undef) (l.map fun j => zc[j % z.length]!) := by
    intro l
    induction l with
    | nil => intro _; exact VRs_nil
    | cons j l ih =>
      intro hj
      have hlt := hj j (by simp)
      obtain ⟨u, hu, hr⟩ := VRs_get h (j % z.length) z[j % z.length] (List.getElem?_eq_getElem hlt)
      refine VRs_cons ?_ (ih fun k hk => hj k (by simp [hk]))
      have hu' : zc[j % z.length]? = some u := by simpa using hu
      show VR W0 (z.getD (j % z.length) .undef) (zc[j % z.length]!)
      rw [List.getD_eq_getElem?_getD, List.getElem?_eq_getElem hlt, Option.getD_some, getElem!_def, hu']
      exact hr
  refine this _ fun j hj => Nat.mod_lt _ ?_
  rw [List.mem_range] at hj
  rcases Nat.eq_zero_or_pos z.length with h0 | h0
  · rw [h0] at hj; omega
  · exact h0

theorem appendN_ok {o : Oper} {h : AHeap} {w : World} {K : AV → AHeap → Prop} {t t2 e : TypeId} {k2 : IntKind} {i : TypeInfo} {zl : List AV} {x y : Operand} {x' y' : AArg} {args : Array Operand} {tys : Array TypeId} (hs : VRs W0 s a.tmps.toList) (r : Rel W0 h w)
    (ho : o.op = .call { callee := .builtin .append, args, argTypes := tys }) (ha : args.toList = [x, y]) (ht : tys[0]? = some t) (ht2 : tys[1]? = some t2) (he : tElem P t = some e) (he2 : P.underlying t2 = some (.int k2))
    (hx : cArg x = some x') (hy : cArg y = some y') (hi : P.info? e = some i) (hz : tZero P e = some zl) (hi0 : i.size ≠ 0) (hb : i.bytes ≠ 0) (hzs : zl.length = i.size) (k : appendNA h i.size i.bytes zl (ev s x') (ev s y') K) : Ok P W0 a o h w K := by
  obtain rfl : args = #[x, y] := by rw [← Array.toArray_toList (xs := args), ha]
  have h1 := cArg_sound hs hx
  have h2 := cArg_sound hs hy
  generalize ev s x' = X at *
  generalize ev s y' = Y at *
  generalize hU : a.eval x = U at *
  generalize hV : a.eval y = V at *
  have hd := tElem_sound he
  have hsz : tSize P e = some i.size := by simp [tSize, hi]
  have run : (execOp a.eval o).run P w = ((Builtin.append_ tys o.type #[U, V]).run P w).andThen fun v w' => .ok (.value v) w' := by
    simp [execOp, ho, resolve, invoke, builtin, hU, hV]
  unfold appendNA at k
  split at k
  rotate_left
  · exact k.elim
  rename_i m
  obtain ⟨old, ho1, hm0, hbd, k⟩ := k
  obtain ⟨m, rfl⟩ : ∃ n : Nat, m = (n : Int) := ⟨m.toNat, by omega⟩
  simp only [Int.toNat_natCast] at *
  have lo := acells_len ho1
  have h1' := h1
  simp only [VR] at h2
  subst h2
  obtain ⟨zv, hzv, hzz⟩ := tZero_sound (W0 := W0) hz
  have hzl := VRs_length hzz
  have hmb : slen X + m ≤ 70368744177664 := Nat.le_trans (Nat.le_mul_of_pos_right _ (Nat.pos_of_ne_zero hb)) hbd
  have hwr : IntKind.i64.wrap (m : Int) = (m : Int) := IntWalk.i64_in _ ⟨by omega, by omega⟩
  have hmm : ¬ ((m : Int) * (i.bytes : Int) > 2 ^ 48) := by
    have : (slen X + m) * i.bytes = slen X * i.bytes + m * i.bytes := Nat.add_mul _ _ _
    have h3 : ((m * i.bytes : Nat) : Int) = (m : Int) * (i.bytes : Int) := by simp
    omega
  have hzr := zrep_vr hzz m
  have hnn : ¬ ((m : Int) < 0) := by omega
  have growN : ∀ (base : Option Addr) (len cap : Nat), U = .slice base len cap → len = slen X → len ≤ cap → cap < len + m → (grows h i.size (len + m) (old ++ zrep zl m) K ∨ ∃ id, grows (del h id) i.size (len + m) (old ++ zrep zl m) K) → Ok P W0 a o h w K := by
    intro base len cap hUe hne hlc hlt kg
    subst hUe
    rw [← hne] at hbd hmb lo
    have hfit : Builtin.nextslicecap (len + m) cap * i.bytes ≤ 281474976710656 := growslice_fits hlt (by omega)
    obtain ⟨usO, huO, hfO, _⟩ := firstCells_run (P := P) (w' := w.drew) r rfl ho1 h1' (Nat.le_refl _)
    rw [← hne] at huO hfO
    rw [List.take_of_length_le (by omega)] at huO
    have lusO := VRs_length huO
    have hcap : len + m ≤ grownCap w (len + m) cap e := Nat.le_add_right _ _
    have hm1 : m ≠ 0 := by omega
    have hres : (Builtin.append_ tys o.type #[.slice base len cap, .int .i64 (m : Int)]).run P w = .ok (.slice (some ⟨w.heap.size, 0, none⟩) (len + m) (grownCap w (len + m) cap e))
        { w.drew with heap := w.drew.heap.push (Obj.cells (usO.toArray ++ Builtin.zeroCells zv.cells m ++ Builtin.zeroCells zv.cells (grownCap w (len + m) cap e - (len + m))) e) } := by
      have hnle : ¬ (len + m ≤ cap) := by omega
      have hfit' : ¬ (Builtin.nextslicecap (len + m) cap * i.bytes > 2 ^ 48) := by simp; omega
      have h63 : ¬ (((len + m : Nat) : Int) > IntKind.i64.max ∧ (True ∨ i.bytes = 0)) := by
        have : IntKind.i64.max = 9223372036854775807 := rfl
        rw [this]; omega
      have hms : ¬ (m * i.size = 0) := fun hh => by rcases Nat.mul_eq_zero.1 hh with hh | hh; exact hm1 hh; exact hi0 hh
      simp only [Builtin.append_, ht, ht2, Sem.run_bind, run_underlying hd, run_underlying he2, Result.andThen_ok, run_sizeOf hsz, Sem.run_pure, List.getElem?_toArray, List.getElem?_cons_zero, List.getElem?_cons_succ, if_true, asInt, asIntOf, hwr, if_neg hnn, run_typeInfo hi, if_neg hmm, Int.toNat_natCast, if_neg hnle]
      simp only [if_neg h63, Sem.run_bind, run_typeInfo hi, Result.andThen_ok, if_neg hfit', run_choose, Question.forced, Bool.false_eq_true, if_false, run_askRoom, World.drew_eq, Bool.not_true, hfO, if_neg hms, hzv, newRow, run_newObj, Sem.run_pure]
      rfl
    have hOR : OR W0 (.cells (old ++ zrep zl m) (grownCap w (len + m) cap e * i.size)) (Obj.cells (usO.toArray ++ Builtin.zeroCells zv.cells m ++ Builtin.zeroCells zv.cells (grownCap w (len + m) cap e - (len + m))) e) := by
      simp only [OR]
      refine ⟨usO ++ (Builtin.zeroCells zv.cells m).toList, (Builtin.zeroCells zv.cells (grownCap w (len + m) cap e - (len + m))).toList, e, ?_, ?_, VRs_append huO hzr⟩
      · congr 1
        apply Array.ext'
        simp
      · have hzc : zv.cells.size = i.size := by rw [← hzs]; simpa using hzl
        have lo2 : old.length = len * i.size := lo
        simp only [List.length_append, lusO, lo2, Array.length_toList, Builtin.zeroCells, Array.size_map, Array.size_range, hzc]
        rw [← Nat.add_mul, ← Nat.add_mul]; congr 1; omega
    obtain ⟨r1, f1⟩ := drew_rel (w' := w.drew) r rfl rfl rfl rfl (Nat.le_succ _)
    obtain ⟨r', f'⟩ := alloc_rel r1 hOR
    rcases kg with kg | ⟨id, kg⟩
    · exact ⟨_, _, _, _, .inl (by rw [run, hres]; rfl), by simp only [VR]; exact ⟨by trivial, hcap⟩, r', f1.trans f', kg w.heap.size _ (fresh_ok r) hcap⟩
    · have s1 := upd_subm (del_sub h id) w.heap.size (.cells (old ++ zrep zl m) (grownCap w (len + m) cap e * i.size))
      refine ⟨_, _, _, _, .inl (by rw [run, hres]; rfl), by simp only [VR]; exact ⟨by trivial, hcap⟩, r'.sub s1, (f1.trans f').sub s1, kg w.heap.size _ ?_ hcap⟩
      cases e : del h id w.heap.size with
      | none => rfl
      | some o => have := del_sub h id _ _ e; rw [fresh_ok r] at this; cases this
  split at k
  · simp only [VR] at h1
    subst h1
    by_cases h0 : m = 0
    · subst h0
      refine ⟨.nils, .slice none 0 0, h, w, .inl ?_, by simp only [VR], r, Fr.refl _ _ _, k.1 rfl⟩
      rw [run]
      simp only [Builtin.append_, ht, ht2, Sem.run_bind, run_underlying hd, run_underlying he2, Result.andThen_ok, run_sizeOf hsz, Sem.run_pure, List.getElem?_toArray, List.getElem?_cons_zero, List.getElem?_cons_succ, if_true, asInt, asIntOf, hwr, if_neg hnn, run_typeInfo hi, if_neg hmm, Int.toNat_natCast, Nat.add_zero, Nat.le_refl, Bool.not_true, Bool.false_eq_true, if_false, Nat.zero_mul]
    · have e0 : old = [] := by simp [acells] at ho1; exact ho1
      subst e0
      exact growN none 0 0 rfl rfl (Nat.le_refl _) (by omega) (.inl (by simpa using k.2 h0))
  · rename_i id off len cap
    obtain ⟨cs, tot, hid, hT, kin, kout⟩ := k
    simp only [VR] at h1
    obtain ⟨rfl, hlc⟩ := h1
    by_cases hle : len + m ≤ cap
    · obtain ⟨hsc, kk⟩ := kin hle
      have hoff : off + len * i.size ≤ cs.length := by
        simp only [acells, hid] at ho1
        split at ho1
        · assumption
        · cases ho1
      have hzl2 : (zrep zl m).length = m * i.size := by simp [zrep, hzs]
      have hmul : (len + m) * i.size ≤ cap * i.size := Nat.mul_le_mul_right _ hle
      rw [Nat.add_mul] at hmul
      obtain ⟨w', e1, r', f'⟩ := write_rel (P := P) (off := off + len * i.size) r hid hzr hsc hoff (by omega)
      refine ⟨_, .slice (some ⟨id, off, none⟩) (len + m) cap, _, w', .inl ?_, by simp only [VR]; exact ⟨by trivial, hle⟩, r', f', kk⟩
      rw [run]
      by_cases h0 : m = 0
      · subst h0
        have ez : (Builtin.zeroCells zv.cells 0).toList = [] := by simp [Builtin.zeroCells]
        rw [ez] at e1
        simp only [Builtin.append_, ht, ht2, Sem.run_bind, run_underlying hd, run_underlying he2, Result.andThen_ok, run_sizeOf hsz, Sem.run_pure, List.getElem?_toArray, List.getElem?_cons_zero, List.getElem?_cons_succ, if_true, asInt, asIntOf, hwr, if_neg hnn, run_typeInfo hi, if_neg hmm, Int.toNat_natCast, if_pos hle, Bool.not_true, Bool.false_eq_true, if_false, Nat.zero_mul, addr_add]
        simp only [e1, Result.andThen_ok]
      · have hms : ¬ (m * i.size = 0) := fun hh => by rcases Nat.mul_eq_zero.1 hh with hh | hh; exact h0 hh; exact hi0 hh
        simp only [Builtin.append_, ht, ht2, Sem.run_bind, run_underlying hd, run_underlying he2, Result.andThen_ok, run_sizeOf hsz, Sem.run_pure, List.getElem?_toArray, List.getElem?_cons_zero, List.getElem?_cons_succ, if_true, asInt, asIntOf, hwr, if_neg hnn, run_typeInfo hi, if_neg hmm, Int.toNat_natCast, if_pos hle, Bool.not_true, Bool.false_eq_true, if_false, if_neg hms, hzv, addr_add, e1]
    · exact growN _ _ _ rfl rfl hlc (by omega) ((kout (by omega)).imp _root_.id fun g => ⟨_, g⟩)
  · exact k.elim

theorem clear_ok {o : Oper} {h : AHeap} {w : World} {K : AV → AHeap → Prop} {t e : TypeId} {z : List AV} {x : Operand} {x' : AArg} {args : Array Operand} {tys : Array TypeId} (hs : VRs W0 s a.tmps.toList) (r : Rel W0 h w)
    (ho : o.op = .call { callee := .builtin .clear, args, argTypes := tys }) (ha : args.toList = [x]) (ht : tys[0]? = some t) (he : tElem P t = some e) (hz : tZero P e = some z)
    (hx : cArg x = some x') (k : clearA h z (ev s x') K) : Ok P W0 a o h w K := by
  obtain rfl : args = #[x] := by rw [← Array.toArray_toList (xs := args), ha]
  have h1 := cArg_sound hs hx
  generalize ev s x' = X at *
  generalize hU : a.eval x = U at *
  have hd := tElem_sound he
  have run : (execOp a.eval o).run P w = ((Builtin.clear_ tys o.type #[U]).run P w).andThen fun v w' => .ok (.value v) w' := by
    simp [execOp, ho, resolve, invoke, builtin, hU]
  unfold clearA at k
  split at k
  · simp only [VR] at h1; subst h1
    refine ⟨_, .tuple #[], h, w, .inl ?_, by simp only [VR]; exact ⟨[], rfl, VRs_nil⟩, r, Fr.refl _ _ _, k⟩
    rw [run]
    simp [Builtin.clear_, ht, run_underlying hd]
  · rename_i id off n cap
    obtain ⟨cs, tot, hid, hoff, hsc, kk⟩ := k
    simp only [VR] at h1; obtain ⟨rfl, hnc⟩ := h1
    obtain ⟨zv, hzv, hzz⟩ := tZero_sound (W0 := W0) hz
    obtain ⟨_, _, _, _, htt, hcl, _, _⟩ := r.cells hid
    have := VRs_length hcl
    have hzl : (zrep z n).length = n * z.length := by simp [zrep]
    obtain ⟨w', e1, r', f'⟩ := write_rel (P := P) (off := off) r hid (zrep_vr hzz n) hsc (by omega) (by omega)
    by_cases h0 : n = 0
    · subst h0
      have e0 : splice cs off (zrep z 0) = cs := by simp [splice, zrep]
      rw [e0, upd_self hid] at kk
      refine ⟨_, .tuple #[], h, w, .inl ?_, by simp only [VR]; exact ⟨[], rfl, VRs_nil⟩, r, Fr.refl _ _ _, kk⟩
      rw [run]
      simp [Builtin.clear_, ht, run_underlying hd]
    · refine ⟨_, .tuple #[], _, w', .inl ?_, by simp only [VR]; exact ⟨[], rfl, VRs_nil⟩, r', f', kk⟩
      rw [run]
      obtain ⟨m, rfl⟩ : ∃ m, n = m + 1 := ⟨n - 1, by omega⟩
      simp only [Builtin.clear_, ht, Sem.run_bind, run_underlying hd, Result.andThen_ok, List.getElem?_toArray, List.getElem?_cons_zero, hzv, e1, Sem.run_pure]
  · exact k.elim

theorem call_wp {o : Oper} {h : AHeap} {w : World} {K : AV → AHeap → Prop} {f : Operand} {args : Array Operand} {tys : Array TypeId} {f' : AArg} {ys : List AArg} (hs : VRs W0 s a.tmps.toList) (r : Rel W0 h w)
    (ho : o.op = .call { callee := .value f, args, argTypes := tys }) (hf : cArg f = some f') (ha : cArgs args.toList = some ys)
    (k : match ev s f' with | .fn g cap => callF P g (ys.map (ev s) ++ cap) h K | .bd g first => callF P g (first ++ ys.map (ev s)) h K | _ => False) {next : Act → World → Prop} {Q : Exit → Act → World → Prop}
    (hn : ∀ W1 v u h' w', VR W1 v u → Rel W1 h' w' → Fr W0 h w W1 h' w' → K v h' → next (a.put o.dst u) w') : o.wp P a w next Q := by
  have h1 := cArg_sound hs hf
  have h2 := cArgs_sound hs ha
  have main : ∀ (g : FuncId) (cargs : Array Value) (av : List AV), (execOp a.eval o).run P w = (callFunc g cargs).run P w → VRs W0 av cargs.toList → callF P g av h K → o.wp P a w next Q := by
    intro g cargs av hrun hav k
    obtain ⟨hz, args', z1, z2, k⟩ := k
    obtain ⟨r1, f1⟩ := r.still z1
    have hav2 := FzL_sound r z2 _ hav
    unfold Oper.wp
    rw [hrun]
    rcases k with ⟨⟨fn, hfn, hb, hname⟩, hc⟩ | ⟨fn, e, hfn, hname, hb, hn1, hn2, hc⟩
    · have he : (callFunc g cargs).run P w = .ok (.enter g cargs) w := by
        have hbn2 : fn.body.isNone = false := by cases hh : fn.body <;> simp_all
        simp only [callFunc, hfn, Sem.run_bind, run_program, Sem.run_pure, Result.andThen_ok, hname, Bool.false_eq_true, if_false]
        simp [hbn2]
      rw [he]
      refine (hc _ w _ r1 hav2).mono ?_
      rintro e w' ⟨W1, v, rr, h', rfl, h3, h4, h5, h6⟩
      exact hn _ _ _ _ _ h3 h4 (f1.trans h5) h6
    · obtain ⟨W1, v, rr, h', w', k1, k2, k3, k4, k5⟩ := hc _ w _ r1 hav2
      rw [run_callFunc_extern hfn hname hb hn1 hn2, k1]
      exact hn _ _ _ _ _ k2 k3 (f1.trans k4) k5
  split at k
  · rename_i g cap e
    rw [e] at h1; simp only [VR] at h1
    obtain ⟨l, h1, hl⟩ := h1
    refine main g (args.map a.eval ++ l.toArray) _ ?_ (by simp only [Array.toList_append, Array.toList_map]; exact VRs_append h2 hl) k
    simp [execOp, ho, resolve, Deferred.ofValue, h1, invoke]
  · rename_i g cap e
    rw [e] at h1; simp only [VR] at h1
    obtain ⟨l, h1, hl⟩ := h1
    refine main g (l.toArray ++ args.map a.eval) _ ?_ (by simp only [Array.toList_append, Array.toList_map]; exact VRs_append hl h2) k
    simp [execOp, ho, resolve, Deferred.ofValue, h1, invoke]
  · exact k.elim

end

theorem upd_new0 {h : AHeap} {x : Nat} {o : AObj} (hx : h x = none) : Sub h (upd h x o) := fun y p e => by
  have : y ≠ x := by rintro rfl; rw [hx] at e; cases e
  simp [upd, this, e]

theorem isStr_spec {P : Program} {t : TypeId} (h : isStr P t = true) : P.underlying t = some .string := by
  unfold isStr at h; split at h
  · rename_i e; exact e
  · cases h

theorem bcells_vr (W : World) (b : ByteArray) : VRs W (bcells b) (b.data.toList.map fun c => Value.int .u8 c.toNat) := by
  unfold bcells
  induction b.data.toList with
  | nil => exact VRs_nil
  | cons c l ih => exact VRs_cons (by simp only [VR]) ih

theorem s2b_wp {P : Program} {W0 : World} {s : List AV} {a : Act} {o : Oper} {h : AHeap} {w : World} {K : AV → AHeap → Prop} {t d : TypeId} {x : Operand} {x' : AArg} (hs : VRs W0 s a.tmps.toList) (r : Rel W0 h w) (ho : o.op = .convert t d x) (hx : cArg x = some x')
    (hd : isBytes P d = true) (ht : P.underlying t = some .string) (k : ∃ v, pv s (.s2b x') = some v ∧ K v h) {next : Act → World → Prop} {Q : Exit → Act → World → Prop}
    (hn : ∀ W1 v u h' w', VR W1 v u → Rel W1 h' w' → Fr W0 h w W1 h' w' → K v h' → next (a.put o.dst u) w') : o.wp P a w next Q := by
  obtain ⟨e, h1, h2⟩ := isBytes_spec hd
  obtain ⟨v, hv, kk⟩ := k
  have hr := cArg_sound hs hx
  simp only [pv] at hv
  split at hv <;> cases hv
  rename_i b e0
  rw [e0] at hr; simp only [VR] at hr
  have hc := run_bytes_of_string (P := P) w t d e b ht h1 h2
  have hge := grownCap_ge w b.size 0 e
  generalize grownCap w b.size 0 e = cap at hc hge
  obtain ⟨r1, f1⟩ := drew_rel (w' := w.drew) r rfl rfl rfl rfl (Nat.le_succ _)
  have hA : w.drew.alloc (.cells (bytesRow b cap) e ((bytesRow b cap).size, (bytesRow b cap).size + 1)) = { w.drew with heap := w.drew.heap.push (.cells (bytesRow b cap) e ((bytesRow b cap).size, (bytesRow b cap).size + 1)) } := rfl
  rw [hA] at hc
  generalize hob : Obj.cells (bytesRow b cap) e ((bytesRow b cap).size, (bytesRow b cap).size + 1) = ob at hc
  obtain ⟨r2, f2⟩ := alloc_rel r1 (o := .raw ob) (obj := ob) (by simp only [OR])
  have hfr := fresh_ok r1
  obtain ⟨r3, f3⟩ := r2.still (h' := h) (FzH.sub (upd_new0 hfr))
  have hsz : w.drew.heap.size = w.heap.size := rfl
  refine wp_of_value (u := .slice (some ⟨w.heap.size, 0, none⟩) b.size cap) (by simp [execOp, ho, hr, hc]) (hn _ (.ro (bcells b) b.size false) _ _ _ ?_ r3 ((f1.trans f2).trans f3) kk)
  simp only [VR]
  refine .inl ⟨_, _, _, rfl, hge, by simp, fun i hi => ?_, bcells_vr _ b⟩
  have hi' : i < b.data.size := by simpa using hi
  rw [addr_add, Nat.zero_add, still_at r2 (x := w.heap.size) (o := .raw ob) (if_pos rfl) hfr]
  have hp : (w.drew.heap.push ob)[w.heap.size]? = some ob := by show (w.heap.push ob)[w.heap.size]? = some ob; exact Array.getElem?_push_size
  have e1 : ∀ W : World, W.heap[w.heap.size]? = some ob → W.cell? ⟨w.heap.size, i, none⟩ = (bytesRow b cap)[i]? := fun W e => by
    subst hob; simp only [World.cell?, e, Option.isSome_none, Bool.false_eq_true, if_false]
  rw [e1 _ hp]
  unfold bytesRow
  rw [Array.getElem?_append_left (by simpa using hi')]
  simp

theorem eqKind_spec {P : Program} {t : TypeId} {k : EqKind} (h : eqKind P t = some k) :
    match k with
    | .bin => True
    | .eqb => P.underlying t = some .bool
    | .eqn nk => ∃ d, P.underlying t = some d ∧ nk.fits d
    | .eqs ks => plainStruct P t = some ks := by
  unfold eqKind at h
  split at h
  · rename_i hd; cases h; exact hd
  · cases h; trivial
  · cases h; trivial
  · rename_i hd; cases h; exact ⟨_, hd, trivial⟩
  · rename_i hd; cases h; exact ⟨_, hd, trivial⟩
  · rename_i hd; cases h; exact ⟨_, hd, trivial⟩
  · rename_i hd; cases h; exact ⟨_, hd, trivial⟩
  · simp only [Option.map_eq_some_iff] at h; obtain ⟨ks, hk, rfl⟩ := h; exact hk
  · simp only [Option.map_eq_some_iff] at h; obtain ⟨ks, hk, rfl⟩ := h; exact hk
  · cases h


section
variable {P : Program} {W0 : World} {s : List AV} {a : Act}

theorem Ok.wp {o : Oper} {h : AHeap} {w : World} {K : AV → AHeap → Prop} (k : Ok P W0 a o h w K) {next : Act → World → Prop} {Q : Exit → Act → World → Prop}
    (hn : ∀ W1 v u h' w', VR W1 v u → Rel W1 h' w' → Fr W0 h w W1 h' w' → K v h' → next (a.put o.dst u) w') : o.wp P a w next Q := by
  obtain ⟨v, u, h', w', he, hu, hr, hf, hk⟩ := k
  rcases he with he | ⟨rfl, he⟩
  · exact wp_of_value he (hn W0 v u h' w' hu hr hf hk)
  · exact wp_of_skip he (hn W0 v undef h' w' hu hr hf hk)

/-- **Every resolved operation: the machine does what 'aw' says.** -/
theorem aw_sound {o : Oper} {ao : AOp} (hc : cOp0 P o.op = some ao) (hs : VRs W0 s a.tmps.toList) {h : AHeap} {w : World} (r : Rel W0 h w) {K : AV → AHeap → Prop} (hk : aw P ao K s h)
    {next : Act → World → Prop} {Q : Exit → Act → World → Prop} (hn : ∀ W1 v u h' w', VR W1 v u → Rel W1 h' w' → Fr W0 h w W1 h' w' → K v h' → next (a.put o.dst u) w') : o.wp P a w next Q := by
  cases hop : o.op with
  | move x =>
    rw [hop] at hc; simp only [cOp0, Option.map_eq_some_iff] at hc; obtain ⟨y, hy, rfl⟩ := hc
    obtain ⟨v, hv, kk⟩ := hk; cases hv
    exact (Ok.of_yl r (mv_sound hs hy (.inl hop)) kk).wp hn
  | assign x =>
    rw [hop] at hc; simp only [cOp0, Option.map_eq_some_iff] at hc; obtain ⟨y, hy, rfl⟩ := hc
    obtain ⟨v, hv, kk⟩ := hk; cases hv
    exact (Ok.of_yl r (mv_sound hs hy (.inr hop)) kk).wp hn
  | pick c x y =>
    rw [hop] at hc; simp only [cOp0] at hc
    split at hc <;> cases hc
    rename_i c' x' y' h1 h2 h3
    obtain ⟨v, hv, kk⟩ := hk
    simp only [pv] at hv
    split at hv <;> cases hv
    rename_i t ht
    exact (Ok.of_yl r (pick_sound hs h1 h2 h3 hop ht) kk).wp hn
  | alloc t =>
    rw [hop] at hc; simp only [cOp0, Option.map_eq_some_iff] at hc; obtain ⟨z, hz, rfl⟩ := hc
    exact (alloc_ok r hop hz hk).wp hn
  | box t x =>
    rw [hop] at hc; simp only [cOp0, Option.map_eq_some_iff] at hc; obtain ⟨y, hy, rfl⟩ := hc
    obtain ⟨l, hl, kk⟩ := hk
    exact (box_ok hs r hop hy hl kk).wp hn
  | build t ps =>
    rw [hop] at hc; simp only [cOp0] at hc
    split at hc
    · rename_i fs z qs h1 h2 h3
      split at hc <;> cases hc
      rename_i h4
      obtain ⟨v, hv, kk⟩ := hk
      exact (Ok.of_yl r (build_sound hs hop h1 h2 h3 h4 hv) kk).wp hn
    · split at hc
      · rename_i m e z h1 h2
        split at hc
        · rename_i n h3
          simp only [Option.map_eq_some_iff] at hc
          obtain ⟨qs, h4, rfl⟩ := hc
          obtain ⟨v, hv, kk⟩ := hk
          exact (Ok.of_yl r (buildArr_sound hs hop h1 h2 h3 h4 hv) kk).wp hn
        · cases hc
      · cases hc
  | buildSlice t n ps =>
    rw [hop] at hc; simp only [cOp0] at hc
    split at hc
    · rename_i e he
      split at hc
      · rename_i k ys h1 h2
        split at hc <;> cases hc
        rename_i hcond
        simp only [Bool.and_eq_true, decide_eq_true_eq, Bool.or_eq_true] at hcond
        obtain ⟨l, hl, kk⟩ := hk
        refine (buildSlice_ok hs r hop he h1 h2 hcond.1.1 hcond.1.2 ?_ hl kk).wp hn
        rcases hcond.2 with h0 | h0
        · exact .inl h0
        · cases hz : tZero P e with
          | none => rw [hz] at h0; simp at h0
          | some z => rw [hz] at h0; exact .inr ⟨z, rfl, by simpa using h0⟩
      · cases hc
    · cases hc
  | load t x =>
    rw [hop] at hc; simp only [cOp0] at hc
    split at hc
    · rename_i g k h1 h2
      cases hc
      exact (loadG_ok r hop h1 h2 hk).wp hn
    · split at hc <;> cases hc
      rename_i g n y h1 h2 h3
      obtain ⟨v, hv, kk⟩ := hk
      exact (load_ok hs r hop h3 h1 h2 hv kk).wp hn
  | store t x v =>
    rw [hop] at hc; simp only [cOp0] at hc
    split at hc <;> cases hc
    rename_i n y u h1 h2 h3
    obtain ⟨l, h', e1, e2, e3, e4, kk⟩ := hk
    exact (store_ok hs r hop h2 h3 h1 e1 e2 e3 e4 kk).wp hn
  | nilCheck x =>
    rw [hop] at hc; simp only [cOp0, Option.map_eq_some_iff] at hc; obtain ⟨y, hy, rfl⟩ := hc
    obtain ⟨v, hv, kk⟩ := hk
    exact (Ok.of_yl r (nilCheck_sound hs hy hop hv) kk).wp hn
  | binOp op t x y t' =>
    rw [hop] at hc; simp only [cOp0] at hc
    split at hc
    · rename_i x' y' hx hy
      have eqs : ∀ {neg : Bool} {k : EqKind}, op = (if neg then .neq else .eql) → eqKind P t = some k →
          (match k with
            | .bin => some (AOp.bin (if neg then .neq else .eql) x' y')
            | .eqb => some (AOp.eqb neg x' y')
            | .eqn k => some (AOp.eqn k neg x' y')
            | .eqs ks => some (AOp.eqs neg ks x' y')) = some ao → o.wp P a w next Q := by
        intro neg k hne hkk hc
        have sp := eqKind_spec hkk
        cases k with
        | bin =>
          cases hc
          obtain ⟨v, hv, kk⟩ := hk
          simp only [pv] at hv
          rw [← hne] at hv
          exact (Ok.of_yl r (binInt_sound hs hx hy hop hv) kk).wp hn
        | eqb =>
          cases hc
          obtain ⟨v, hv, kk⟩ := hk
          exact (Ok.of_yl r (eqb_sound hs hx hy hop hne sp hv) kk).wp hn
        | eqn nk =>
          cases hc
          obtain ⟨v, hv, kk⟩ := hk
          obtain ⟨d, hd, hf⟩ := sp
          exact (Ok.of_yl r (eqn_sound hs hx hy hop hne hd hf hv) kk).wp hn
        | eqs ks =>
          cases hc
          obtain ⟨v, hv, kk⟩ := hk
          exact (Ok.of_yl r (eqs_sound hs hx hy hop hne sp hv) kk).wp hn
      have eqi : ∀ {neg : Bool}, op = (if neg then .neq else .eql) → (if isIfc P t && isNilI y then some (AOp.eqi neg x') else none) = some ao → o.wp P a w next Q := by
        intro neg hne hc
        split at hc <;> cases hc
        rename_i hcond
        obtain ⟨v, hv, kk⟩ := hk
        exact (Ok.of_yl r (eqi_sound hs hx hy hop hne hcond hv) kk).wp hn
      split at hc
      · cases hkk : eqKind P t with
        | none => rw [hkk] at hc; exact eqi (neg := false) rfl hc
        | some k => rw [hkk] at hc; exact eqs (neg := false) rfl hkk (by cases k <;> exact hc)
      · cases hkk : eqKind P t with
        | none => rw [hkk] at hc; exact eqi (neg := true) rfl hc
        | some k => rw [hkk] at hc; exact eqs (neg := true) rfl hkk (by cases k <;> exact hc)
      · cases hc
        obtain ⟨v, hv, kk⟩ := hk
        exact (Ok.of_yl r (binInt_sound hs hx hy hop hv) kk).wp hn
    · cases hc
  | unOp op t x =>
    rw [hop] at hc; simp only [cOp0, Option.map_eq_some_iff] at hc; obtain ⟨y, hy, rfl⟩ := hc
    obtain ⟨v, hv, kk⟩ := hk
    exact (Ok.of_yl r (un_sound hs hy hop hv) kk).wp hn
  | makeInterface t x =>
    rw [hop] at hc; simp only [cOp0] at hc
    split at hc
    · rename_i h1
      simp only [Option.map_eq_some_iff] at hc; obtain ⟨y, hy, rfl⟩ := hc
      obtain ⟨v, hv, kk⟩ := hk
      exact (Ok.of_yl r (mki_sound hs hy hop h1 hv) kk).wp hn
    · cases hc
  | convert t d x =>
    rw [hop] at hc; simp only [cOp0] at hc
    split at hc
    · rename_i k y h1 h2
      split at hc <;> cases hc
      rename_i h3
      obtain ⟨v, hv, kk⟩ := hk
      exact (Ok.of_yl r (conv_sound hs h2 hop h1 h3 hv) kk).wp hn
    · rename_i y h1 h2
      split at hc <;> cases hc
      rename_i h3
      obtain ⟨cs, xs, g1, g2, kk⟩ := hk
      exact (b2s_ok hs r hop h2 h1 h3 g1 g2 kk).wp hn
    · rename_i e y h1 h2
      split at hc <;> cases hc
      rename_i h3
      simp only [Bool.and_eq_true] at h3
      exact s2b_wp hs r hop h2 h3.1 (isStr_spec h3.2) hk hn
    · cases hc
  | makeFunc fn first caps =>
    rw [hop] at hc
    cases fn <;> simp only [cOp0] at hc <;> first | (cases hc; done) | skip
    split at hc
    · rename_i h1
      simp only [Option.map_eq_some_iff] at hc; obtain ⟨ys, hy, rfl⟩ := hc
      obtain ⟨v, hv, kk⟩ := hk; cases hv
      exact (Ok.of_yl r (makeFunc_sound hs h1 hy hop) kk).wp hn
    · split at hc
      · rename_i h1
        simp only [Option.map_eq_some_iff] at hc; obtain ⟨ys, hy, rfl⟩ := hc
        obtain ⟨v, hv, kk⟩ := hk; cases hv
        exact (Ok.of_yl r (bindF_sound hs h1 hy hop) kk).wp hn
      · cases hc
  | makeSlice t l c =>
    rw [hop] at hc; simp only [cOp0] at hc
    split at hc
    · rename_i e he
      split at hc
      · rename_i i z l' c' h1 h2 h3 h4
        split at hc <;> cases hc
        rename_i h5
        obtain ⟨n, m, e1, e2, hnm, hb, hm, kk⟩ := hk
        exact (makeSlice_ok hs r hop h3 h4 he h1 h2 h5 e1 e2 hnm hb hm kk).wp hn
      · cases hc
    · cases hc
  | slice t x lo hi mx =>
    rw [hop] at hc; simp only [cOp0] at hc
    split at hc
    · rename_i e he
      split at hc <;> cases hc
      rename_i n x' lo' hi' mx' h1 h2 h3 h4 h5
      obtain ⟨v, hv, kk⟩ := hk
      exact (Ok.of_yl r (slice_sound hs h2 h3 h4 h5 hop he h1 hv) kk).wp hn
    · split at hc
      · rename_i m e he
        split at hc <;> cases hc
        rename_i n x' lo' hi' mx' h1 h2 h3 h4 h5
        obtain ⟨v, hv, kk⟩ := hk
        exact (Ok.of_yl r (sliceP_sound hs h2 h3 h4 h5 hop he h1 hv) kk).wp hn
      · split at hc <;> cases hc
        rename_i x' lo' hi' h1 h2 h3 h4
        obtain ⟨v, hv, kk⟩ := hk
        exact (Ok.of_yl r (sliceS_sound hs h2 h3 h4 hop h1 hv) kk).wp hn
  | field t x f =>
    rw [hop] at hc; simp only [cOp0] at hc
    split at hc
    · rename_i fd y h1 h2
      split at hc <;> cases hc
      rename_i g n h3 h4
      obtain ⟨v, hv, kk⟩ := hk
      exact (Ok.of_yl r (field_sound hs h2 hop h1 h3 h4 hv) kk).wp hn
    · cases hc
  | fieldAddr t x f =>
    rw [hop] at hc; simp only [cOp0] at hc
    split at hc
    · rename_i fd y h1 h2
      split at hc <;> cases hc
      rename_i n h3
      obtain ⟨v, hv, kk⟩ := hk
      exact (Ok.of_yl r (fieldAddr_sound hs h2 hop h1 h3 hv) kk).wp hn
    · cases hc
  | indexAddr t x i =>
    rw [hop] at hc; simp only [cOp0] at hc
    split at hc
    · rename_i e he
      split at hc <;> cases hc
      rename_i n x' i' h1 h2 h3
      obtain ⟨v, hv, kk⟩ := hk
      exact (Ok.of_yl r (indexAddr_sound hs h2 h3 hop he h1 hv) kk).wp hn
    · split at hc
      · rename_i m e he
        split at hc <;> cases hc
        rename_i n x' i' h1 h2 h3
        obtain ⟨v, hv, kk⟩ := hk
        exact (Ok.of_yl r (indexArr_sound hs h2 h3 hop he h1 hv) kk).wp hn
      · cases hc
  | sliceToArrayPointer t x =>
    rw [hop] at hc; simp only [cOp0] at hc
    split at hc <;> cases hc
    rename_i n e y h1 h2
    obtain ⟨v, hv, kk⟩ := hk
    exact (Ok.of_yl r (sap_sound hs h2 hop h1 hv) kk).wp hn
  | index t x i =>
    rw [hop] at hc; simp only [cOp0] at hc
    split at hc
    · rename_i x' i' h1 h2 h3
      cases hc
      obtain ⟨v, hv, kk⟩ := hk
      exact (Ok.of_yl r (idxS_sound hs h2 h3 hop h1 hv) kk).wp hn
    · rename_i m e x' i' h1 h2 h3
      split at hc <;> cases hc
      rename_i g n h4 h5
      obtain ⟨v, hv, kk⟩ := hk
      exact (Ok.of_yl r (idxV_sound hs h2 h3 hop h1 h4 h5 hv) kk).wp hn
    · cases hc
  | makeMap t rs =>
    rw [hop] at hc
    cases rs with
    | none => simp only [cOp0] at hc; cases hc; exact (mkMap_ok r hop hk).wp hn
    | some q => simp only [cOp0] at hc; cases hc
  | lookup t x k ok =>
    rw [hop] at hc; simp only [cOp0] at hc
    split at hc
    · rename_i kk kt e x' k' h1 h2 h3
      simp only [Option.map_eq_some_iff] at hc
      obtain ⟨z, hz, rfl⟩ := hc
      exact (mget_ok hs r hop h1 hz h2 h3 hk).wp hn
    · cases hc
  | mapUpdate t x k v =>
    rw [hop] at hc; simp only [cOp0] at hc
    split at hc <;> cases hc
    rename_i kk kt e x' k' v' h1 h2 h3 h4
    exact (mput_ok hs r (.inl hop) h1 h2 h3 h4 hk).wp hn
  | insert t x k v =>
    rw [hop] at hc; simp only [cOp0] at hc
    split at hc <;> cases hc
    rename_i kk kt e x' k' v' h1 h2 h3 h4
    exact (mput_ok hs r (.inr hop) h1 h2 h3 h4 hk).wp hn
  | extract x i =>
    rw [hop] at hc; simp only [cOp0, Option.map_eq_some_iff] at hc; obtain ⟨y, hy, rfl⟩ := hc
    obtain ⟨v, hv, kk⟩ := hk
    exact (Ok.of_yl r (extract_sound hs hy hop hv) kk).wp hn
  | call c =>
    rw [hop] at hc
    obtain ⟨callee, args, tys⟩ := c
    cases callee with
    | value f =>
      simp only [cOp0] at hc
      split at hc <;> cases hc
      rename_i f' xs h1 h2
      exact call_wp hs r hop h1 h2 hk hn
    | invoke rv m => simp only [cOp0] at hc; cases hc
    | builtin b =>
      simp only [cOp0] at hc
      unfold cBuiltin at hc
      split at hc
      · rename_i x hargs
        split at hc
        · rename_i e y h1 h2
          cases hc
          obtain ⟨v, hv, kk⟩ := hk
          simp only [Option.bind_eq_some_iff] at h1
          obtain ⟨t, ht, hd⟩ := h1
          exact (Ok.of_yl r (lenOps_sound (g := false) hs h2 hop hargs ht hd (by simp) hv) kk).wp hn
        · rename_i y h1 h2
          cases hc
          obtain ⟨v, hv, kk⟩ := hk
          simp only [Option.bind_eq_some_iff] at h1
          obtain ⟨t, ht, hd⟩ := h1
          exact (Ok.of_yl r (lenOps_sound (g := true) hs h2 hop hargs ht hd (by simp) hv) kk).wp hn
        · rename_i kt e y h1 h2
          cases hc
          simp only [Option.bind_eq_some_iff] at h1
          obtain ⟨t, ht, hd⟩ := h1
          exact (mlen_ok hs r hop hargs ht hd h2 hk).wp hn
        · cases hc
      · rename_i x hargs
        split at hc
        · rename_i e y h1 h2
          cases hc
          obtain ⟨v, hv, kk⟩ := hk
          simp only [Option.bind_eq_some_iff] at h1
          obtain ⟨t, ht, hd⟩ := h1
          exact (Ok.of_yl r (cap_sound hs h2 hop hargs ht hd hv) kk).wp hn
        · cases hc
      · split at hc
        · rename_i ys _ hys
          cases hc
          obtain ⟨v, hv, kk⟩ := hk
          exact (Ok.of_yl r (min_sound hs hop hys hv) kk).wp hn
        · cases hc
      · split at hc
        · rename_i ys _ hys
          cases hc
          obtain ⟨v, hv, kk⟩ := hk
          exact (Ok.of_yl r (max_sound hs hop hys hv) kk).wp hn
        · cases hc
      · rename_i x y hargs
        split at hc
        · rename_i e e2 x' y' h1 h2 h3 h4
          simp only [Option.bind_eq_some_iff] at h1 h2
          obtain ⟨t, ht, he⟩ := h1
          obtain ⟨t2, ht2, he2⟩ := h2
          split at hc
          · rename_i i hi
            split at hc <;> cases hc
            rename_i hcond
            simp only [Bool.and_eq_true, bne_iff_ne, ne_eq] at hcond
            cases hz : i.zero with
            | none => rw [hz] at hcond; simp at hcond
            | some z =>
              rw [hz] at hcond
              exact (append_ok hs r hop hargs ht ht2 he he2 h3 h4 hi hz (by simpa using hcond.1) hcond.2 hk).wp hn
          · cases hc
        · rename_i e x' y' h1 h2 h3 h4
          simp only [Option.bind_eq_some_iff] at h1
          obtain ⟨t, ht, he⟩ := h1
          split at hc
          · rename_i k2 i z g1 hi hz
            simp only [Option.bind_eq_some_iff] at g1
            obtain ⟨t2, ht2, he2⟩ := g1
            split at hc <;> cases hc
            rename_i hcond
            simp only [Bool.and_eq_true, bne_iff_ne, ne_eq, beq_iff_eq] at hcond
            exact (appendN_ok hs r hop hargs ht ht2 he he2 h3 h4 hi hz hcond.1.1 hcond.1.2 hcond.2 hk).wp hn
          · cases hc
        · cases hc
      · rename_i x y hargs
        split at hc
        · rename_i e e2 x' y' h1 h2 h3 h4
          simp only [Option.bind_eq_some_iff] at h1 h2
          obtain ⟨t, ht, he⟩ := h1
          split at hc <;> cases hc
          rename_i n hnn
          exact (copy_ok hs r hop hargs ht he hnn h3 h4 hk).wp hn
        · cases hc
      · rename_i x hargs
        split at hc
        · rename_i e x' h1 h2
          simp only [Option.bind_eq_some_iff] at h1
          obtain ⟨t, ht, he⟩ := h1
          split at hc <;> cases hc
          rename_i z hz
          exact (clear_ok hs r hop hargs ht he hz h2 hk).wp hn
        · split at hc
          · rename_i kt e y h1 h2
            cases hc
            simp only [Option.bind_eq_some_iff] at h1
            obtain ⟨t, ht, hd⟩ := h1
            exact (mclr_ok hs r hop hargs ht hd h2 hk).wp hn
          · cases hc
      · rename_i x k hargs
        split at hc <;> cases hc
        rename_i kk kt e x' k' h1 h2 h3
        simp only [Option.bind_eq_some_iff] at h1
        obtain ⟨t, ht, hd⟩ := h1
        exact (mdel_ok hs r hop hargs ht hd h2 h3 hk).wp hn
      · cases hc
  | _ => rw [hop] at hc; simp only [cOp0] at hc; cases hc

theorem upd_new {h : AHeap} {x : Nat} {o : AObj} (hx : h x = none) : Sub h (upd h x o) := fun y p e => by
  have : y ≠ x := by rintro rfl; rw [hx] at e; cases e
  simp [upd, this, e]

theorem VRs_put {W1 : World} {s : List AV} {a : Act} (hs : VRs W1 s a.tmps.toList) (dst : Option Nat) {v : AV} {u : Value} (hv : VR W1 v u) : VRs W1 (match dst with | some d => s.set d v | none => s) (a.put dst u).tmps.toList := by
  cases dst with
  | none => exact hs
  | some d =>
    simp only [Act.put, Array.toList_setIfInBounds]
    exact VRs_set hs d hv

theorem VRs_seen {W0 : World} : ∀ {s : List AV} {l : List Value} {p : Nat} {x y : AV}, VRs W0 s l → s.getD p .undef = x → (∀ u, VR W0 x u → VR W0 y u) → VRs W0 (s.set p y) l
  | [], l, p, x, y, hs, _, _ => by simpa using hs
  | z :: s, l, 0, x, y, hs, hp, hxy => by
    simp only [VRs] at hs
    obtain ⟨v, l', rfl, h1, h2⟩ := hs
    simp at hp; subst hp
    exact VRs_cons (hxy _ h1) h2
  | z :: s, l, p + 1, x, y, hs, hp, hxy => by
    simp only [VRs] at hs
    obtain ⟨v, l', rfl, h1, h2⟩ := hs
    exact VRs_cons h1 (VRs_seen (p := p) h2 (by simpa using hp) hxy)

theorem splice_all {cs l : List AV} (h : l.length = cs.length) : splice cs 0 l = l := by
  unfold splice; rw [List.take_zero, List.nil_append, Nat.zero_add, List.drop_of_length_le (by omega), List.append_nil]

theorem del_new {h : AHeap} {x : Nat} (hx : h x = none) (o : AObj) : del (upd h x o) x = h := by
  funext y; simp only [del, upd]
  split
  · rename_i e; rw [e, hx]
  · rfl

theorem del_upd (h : AHeap) (x : Nat) (o : AObj) : del (upd h x o) x = del h x := by
  funext y; simp only [del, upd]
  split <;> rfl

/-- Literals that stand still, and boxes and variables that do. -/
theorem aw_soundF {F : List Nat} {o : Oper} {ao : AOp} (hc : cOp P o.op = some ao) (hs : VRs W0 s a.tmps.toList) {h : AHeap} {w : World} (r : Rel W0 h w) {K : AV → AHeap → Prop} (hk : aw P (fzOp F o.dst ao).2 K s h)
    {next : Act → World → Prop} {Q : Exit → Act → World → Prop} (hn : ∀ W1 v u h' w', VRs W1 (match (fzOp F o.dst ao).1 with | some d => s.set d v | none => s) (a.put o.dst u).tmps.toList → Rel W1 h' w' → Fr W0 h w W1 h' w' → K v h' → next (a.put o.dst u) w') : o.wp P a w next Q := by
  rcases cOp_or hc with hc0 | rfl
  rotate_left
  · obtain ⟨v, hv, _⟩ := hk; cases hv
  clear hc
  have same : fzOp F o.dst ao = (o.dst, ao) → o.wp P a w next Q := fun e => by
    rw [e] at hk hn
    exact aw_sound hc0 hs r hk fun W1 v u h' w' hu hr hf kk => hn W1 v u h' w' (VRs_put (VRs_le hf.le _ _ hs) o.dst hu) hr hf kk
  unfold fzOp at hk hn
  split at hk
  · rename_i n ps
    split at hk
    · rename_i hF; exact same (by simp only [fzOp, if_pos hF])
    · rename_i hF
      simp only [if_neg hF] at hn
      obtain ⟨v, hv, kk⟩ := hk
      simp only [pv, Option.map_eq_some_iff] at hv
      obtain ⟨l, hl, rfl⟩ := hv
      refine aw_sound (K := fun v h' => ∃ id, v = .sl id 0 ps.length ps.length ∧ h id = none ∧ h' = upd h id (.cells l l.length)) hc0 hs r ⟨l, hl, fun id hid => ⟨id, rfl, hid, rfl⟩⟩ ?_
      rintro W1 v u h' w' hu hr hf ⟨id, rfl, hid, rfl⟩
      obtain ⟨r2, f2⟩ := hr.still (h' := h) (FzH.sub (upd_new hid))
      refine hn _ _ u _ _ (VRs_put (VRs_le (hf.trans f2).le _ _ hs) o.dst (Fz_sound hr (.sl (cs := l) (tot := l.length) l.length (by simp [upd]) hid (by simp) ?_ (fun _ => rfl)) u hu)) r2 (hf.trans f2) kk
      simp only [List.drop_zero, List.take_length]
      exact FzL.refl _ _ _
  · rename_i x
    split at hk
    · rename_i hF
      simp only [if_pos hF] at hn
      obtain ⟨v, hv, kk⟩ := hk
      simp only [pv, Option.map_eq_some_iff] at hv
      obtain ⟨l, hl, rfl⟩ := hv
      refine aw_sound (K := fun v h' => ∃ id, v = .ptr id 0 ∧ h id = none ∧ h' = upd h id (.cells l l.length)) hc0 hs r ⟨l, hl, fun id hid => ⟨id, rfl, hid, rfl⟩⟩ ?_
      rintro W1 v u h' w' hu hr hf ⟨id, rfl, hid, rfl⟩
      obtain ⟨r2, f2⟩ := hr.still (h' := h) (FzH.sub (upd_new hid))
      refine hn _ _ u _ _ (VRs_put (VRs_le (hf.trans f2).le _ _ hs) o.dst (Fz_sound hr (.ptr (cs := l) (tot := l.length) l.length (by simp [upd]) hid (by simp) ?_) u hu)) r2 (hf.trans f2) kk
      simp only [List.drop_zero, List.take_length]
      exact FzL.refl _ _ _
    · rename_i hF; exact same (by simp only [fzOp, if_neg hF, Bool.false_eq_true, if_false])
  · rename_i n p v
    split at hk
    · rename_i hF
      simp only [if_pos hF] at hn
      obtain ⟨id, cs, tot, l, e1, e2, e3, e4, e5, e6, kk⟩ := hk
      have hd : o.dst = none := by
        simp only [Bool.and_eq_true, Option.isNone_iff_eq_none] at hF; exact hF.2
      have e0 : splice cs 0 l = l := splice_all (by omega)
      refine aw_sound (K := fun v h' => h' = upd h id (.cells l tot)) hc0 hs r ⟨l, upd h id (.cells l tot), e3, e4, e5, ?_, rfl⟩ ?_
      · rw [e1]; simp only [awrite, e2]; rw [if_pos (by omega), e0]
      rintro W1 v' u h' w' hu hr hf rfl
      have hsub : Sub (del h id) (upd h id (.cells l tot)) := fun y q e => by
        unfold del at e; split at e
        · cases e
        · rename_i hy; unfold upd; rw [if_neg hy]; exact e
      obtain ⟨r2, f2⟩ := hr.still (h' := del h id) (FzH.sub hsub)
      have e7 : del h id id = none := by simp [del]
      refine hn _ _ u _ _ ?_ r2 (hf.trans f2) kk
      rw [hd]
      have hs1 := VRs_le hf.le _ _ hs
      refine VRs_seen (VRs_le f2.le _ _ hs1) (x := .ptr id 0) (by simpa [ev] using e1) fun u hu => ?_
      refine Fz_sound hr (.ptr (cs := l) (tot := tot) l.length (by simp [upd]) e7 (by simp) ?_) u hu
      simp only [List.drop_zero, List.take_length]
      exact FzL.refl _ _ _
    · rename_i hF; exact same (by unfold fzOp; show (if _ then _ else _) = _; rw [if_neg hF])
  · rename_i h1 h2 h3
    refine same ?_
    unfold fzOp
    split
    · exact absurd rfl (h1 _ _)
    · exact absurd rfl (h2 _)
    · exact absurd rfl (h3 _ _ _)
    · rfl

end
end Go.Proofs.YteijaibggalapaaGreatDoor.E
