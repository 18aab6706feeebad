/-
  The operations on memory do what the resolved ones say.
-/
import Derived.Test.YteijaibggalapaaGreatDoorE6
namespace Go.Proofs.YteijaibggalapaaGreatDoor.E
open Go
set_option linter.unusedVariables false
set_option linter.unusedSimpArgs false

section
variable {P : Program} {W0 : World} {s : List AV} {a : Act}

theorem acells_len {h : AHeap} {esz : Nat} {x : AV} {l : List AV} (hx : acells h esz x = some l) : l.length = slen x * esz := by
  unfold acells at hx
  split at hx
  · cases hx; simp [slen]
  · cases hx; simp [slen]
  · split at hx <;> cases hx; rename_i e; simpa [slen] using e
  · split at hx
    · split at hx <;> cases hx; rename_i e; simp [slen]; omega
    · cases hx
  · cases hx

/-- What a slice holds, as the machine reads it. -/
theorem firstCells_run {h : AHeap} {w w' : World} (r : Rel W0 h w) (hw : w'.heap = w.heap) {esz n : Nat} {x : AV} {l : List AV} {u : Value} (hx : acells h esz x = some l) (hv : VR W0 x u) (hn : n ≤ slen x) :
    ∃ us, VRs W0 (l.take (n * esz)) us ∧ (Builtin.firstCells esz n u).run P w' = .ok us.toArray w' ∧ (Builtin.lenOf u).run P w' = .ok (slen x) w' := by
  have hcell : ∀ a, w'.cell? a = w.cell? a := fun a => by simp only [World.cell?, hw]
  unfold acells at hx
  split at hx
  · cases hx
    simp only [VR] at hv; subst hv
    exact ⟨[], by simpa using VRs_nil, by simp [Builtin.firstCells], by simp [Builtin.lenOf, slen]⟩
  · cases hx
    simp only [VR] at hv
    obtain ⟨q, cap, rfl⟩ := hv
    have hn0 : n = 0 := by simpa [slen] using hn
    subst hn0
    refine ⟨[], by simpa using VRs_nil, ?_, by simp [Builtin.lenOf, slen]⟩
    exact run_firstCells_some (P := P) w' esz 0 q 0 cap [] (by simp) (by simp)
  · rename_i cs len ex
    split at hx <;> cases hx
    rename_i e
    simp only [VR] at hv
    rcases hv with ⟨q, cap, m, hu, hlc, hex, hc, hl⟩ | ⟨h0, hc0, hu⟩
    rotate_left
    · subst h0 hc0 hu
      have hn0 : n = 0 := by simpa [slen] using hn
      subst hn0
      exact ⟨[], by simpa using VRs_nil, by simp [Builtin.firstCells], by simp [Builtin.lenOf, slen]⟩
    subst hu
    have hm := VRs_length hl
    have hne : n * esz ≤ len * esz := Nat.mul_le_mul_right _ hn
    refine ⟨m.take (n * esz), VRs_take hl _, ?_, by simp [Builtin.lenOf, slen]⟩
    refine run_firstCells_some (P := P) w' esz n q len cap (m.take (n * esz)) (by simp; omega) fun j v hj => ?_
    rw [List.getElem?_take] at hj
    split at hj
    · have hjl := (List.getElem?_eq_some_iff.1 hj).1
      rw [hcell]
      have e := hc j hjl
      rw [hj] at e
      exact r.cell e
    · cases hj
  · rename_i id off len cap
    split at hx
    · rename_i cs tot hid
      split at hx <;> cases hx
      rename_i e
      simp only [VR] at hv
      obtain ⟨rfl, hlc⟩ := hv
      obtain ⟨cl, rest, t, ho, _, hl, _, _⟩ := r.cells hid
      have hm := VRs_length hl
      have hne : n * esz ≤ len * esz := Nat.mul_le_mul_right _ hn
      refine ⟨(cl.drop off).take (n * esz), ?_, ?_, by simp [Builtin.lenOf, slen]⟩
      · have := VRs_take (VRs_drop hl off) (n * esz)
        rw [List.take_take, Nat.min_eq_left hne]; exact this
      · refine run_firstCells_some (P := P) w' esz n ⟨id, off, none⟩ len cap _ (by simp; omega) fun j v hj => ?_
        rw [List.getElem?_take] at hj
        split at hj
        · rw [List.getElem?_drop] at hj
          have hjl := (List.getElem?_eq_some_iff.1 hj).1
          rw [addr_add, hcell, cell_of ho hjl, hj]
        · cases hj
    · cases hx
  · cases hx

theorem wp_of_value {o : Oper} {w w' : World} {u : Value} {next : Act → World → Prop} {Q : Exit → Act → World → Prop} (he : (execOp a.eval o).run P w = .ok (.value u) w') (hn : next (a.put o.dst u) w') : o.wp P a w next Q := by
  unfold Oper.wp; rw [he]; exact hn
theorem wp_of_skip {o : Oper} {w w' : World} {next : Act → World → Prop} {Q : Exit → Act → World → Prop} (he : (execOp a.eval o).run P w = .ok .skip w') (hn : next (a.put o.dst undef) w') : o.wp P a w next Q := by
  unfold Oper.wp; rw [he]; exact hn

/-- What an operation that ends leaves. -/
def Ok (P : Program) (W0 : World) (a : Act) (o : Oper) (h : AHeap) (w : World) (K : AV → AHeap → Prop) : Prop :=
  ∃ v u h' w', ((execOp a.eval o).run P w = .ok (.value u) w' ∨ u = undef ∧ (execOp a.eval o).run P w = .ok .skip w') ∧ VR W0 v u ∧ Rel W0 h' w' ∧ Fr W0 h w W0 h' w' ∧ K v h'

theorem Ok.of_yl {o : Oper} {h : AHeap} {w : World} {K : AV → AHeap → Prop} {v : AV} (r : Rel W0 h w) (y : Yl P W0 a o v) (k : K v h) : Ok P W0 a o h w K := by
  obtain ⟨u, hu, he⟩ := y
  exact ⟨v, u, h, w, .inl (he w), hu, r, Fr.refl _ _ _, k⟩

theorem alloc_ok {o : Oper} {h : AHeap} {w : World} {K : AV → AHeap → Prop} {t : TypeId} {z : List AV} (r : Rel W0 h w) (ho : o.op = .alloc t) (hz : tZero P t = some z)
    (k : ∀ id, h id = none → K (.ptr id 0) (upd h id (.cells z z.length))) : Ok P W0 a o h w K := by
  obtain ⟨v, hv, hzz⟩ := tZero_sound hz
  obtain ⟨r', f'⟩ := alloc_rel r (OR_new hzz t)
  refine ⟨_, .pointer (some ⟨w.heap.size, 0, none⟩), _, _, .inl ?_, by simp only [VR], r', f', k _ (fresh_ok r)⟩
  simp [execOp, ho, Instr.alloc, hv, newVar, newRow]

theorem box_ok {o : Oper} {h : AHeap} {w : World} {K : AV → AHeap → Prop} {t : TypeId} {x : Operand} {x' : AArg} {l : List AV} (hs : VRs W0 s a.tmps.toList) (r : Rel W0 h w) (ho : o.op = .box t x) (hx : cArg x = some x')
    (hl : cellsOf (ev s x') = some l) (k : ∀ id, h id = none → K (.ptr id 0) (upd h id (.cells l l.length))) : Ok P W0 a o h w K := by
  have hzz := cellsOf_sound hl (cArg_sound hs hx)
  obtain ⟨r', f'⟩ := alloc_rel r (OR_new hzz t)
  refine ⟨_, .pointer (some ⟨w.heap.size, 0, none⟩), _, _, .inl ?_, by simp only [VR], r', f', k _ (fresh_ok r)⟩
  simp [execOp, ho, Instr.box, newVar, newRow]

theorem buildSlice_ok {o : Oper} {h : AHeap} {w : World} {K : AV → AHeap → Prop} {t e : TypeId} {n esz : Nat} {ps : Array (Nat × Operand)} {ys : List AArg} {l : List AV} (hs : VRs W0 s a.tmps.toList) (r : Rel W0 h w)
    (ho : o.op = .buildSlice t n ps) (he : tElem P t = some e) (hn : tSize P e = some esz) (hq : cElems 0 ps.toList = some ys) (hlen : ys.length = n) (hbig : n * esz ≤ 16777216) (hz : n * esz = 0 ∨ ∃ z, tZero P e = some z ∧ z.length = esz)
    (hc : catA s esz ys = some l) (k : ∀ id, h id = none → K (.sl id 0 ys.length ys.length) (upd h id (.cells l l.length))) : Ok P W0 a o h w K := by
  subst hlen
  have fin : ∀ zero : Array Value, ∃ us, VRs W0 l us ∧ Instr.fill (fun i => some (i * esz, esz)) ((Array.range (ys.length * esz)).map (fun i => zero[i % zero.size]!)) (ps.map fun x => (x.1, a.eval x.2)).toList = some us.toArray := by
    intro zero
    obtain ⟨us, hus, hf⟩ := cat_fill (W0 := W0) hs ps.toList 0 ys l [] ((Array.range (ys.length * esz)).map (fun i => zero[i % zero.size]!)).toList hq hc (by simp) (by simp)
    refine ⟨us, hus, ?_⟩
    have hpm : (ps.map fun x => (x.1, a.eval x.2)).toList = ps.toList.map fun p => (p.1, a.eval p.2) := by simp
    rw [hpm]
    simp only [List.nil_append, Array.toArray_toList] at hf
    exact hf
  have hbig' : ¬ (ys.length * esz > 2 ^ 24) := by simp; omega
  have fin2 : ∃ us, VRs W0 l us ∧ (execOp a.eval o).run P w = .ok (.value (.slice (some ⟨w.heap.size, 0, none⟩) ys.length ys.length)) { w with heap := w.heap.push (Obj.cells us.toArray e) } := by
    by_cases h0 : ys.length * esz = 0
    · obtain ⟨us, hus, hf⟩ := fin #[]
      refine ⟨us, hus, ?_⟩
      simp only [execOp, ho, Instr.buildSlice, Sem.run_bind, run_underlying (tElem_sound he), Result.andThen_ok, run_sizeOf hn, if_neg hbig', if_pos h0, Sem.run_pure, hf, newRow, run_newObj]
    · obtain ⟨z, hz, hzl⟩ := hz.resolve_left h0
      obtain ⟨v, hv, _⟩ := tZero_sound (W0 := W0) hz
      obtain ⟨us, hus, hf⟩ := fin v.cells
      refine ⟨us, hus, ?_⟩
      simp only [execOp, ho, Instr.buildSlice, Sem.run_bind, run_underlying (tElem_sound he), Result.andThen_ok, run_sizeOf hn, if_neg hbig', if_neg h0, hv, Sem.run_pure, hf, newRow, run_newObj]
  obtain ⟨us, hus, hr⟩ := fin2
  obtain ⟨r', f'⟩ := alloc_rel r (OR_new hus e)
  exact ⟨_, .slice (some ⟨w.heap.size, 0, none⟩) ys.length ys.length, _, _, .inl hr, by simp only [VR]; exact ⟨by trivial, Nat.le_refl _⟩, r', f', k _ (fresh_ok r)⟩

theorem load_ok {o : Oper} {h : AHeap} {w : World} {K : AV → AHeap → Prop} {t : TypeId} {g : Bool} {n : Nat} {x : Operand} {x' : AArg} {v : AV} (hs : VRs W0 s a.tmps.toList) (r : Rel W0 h w) (ho : o.op = .load t x) (hx : cArg x = some x')
    (hg : tAgg P t = some g) (hn : tSize P t = some n) (hv : (if g then (aloads h n (ev s x')).map .agg else aload h (ev s x')) = some v) (k : K v h) : Ok P W0 a o h w K := by
  obtain ⟨u, hu, he⟩ := load_run hs hx r ho hg hn hv
  exact ⟨v, u, h, w, .inl he, hu, r, Fr.refl _ _ _, k⟩

theorem loadG_ok {o : Oper} {h : AHeap} {w : World} {K : AV → AHeap → Prop} {t : TypeId} {x : Operand} {g : Nat} {k : IntKind} (r : Rel W0 h w) (ho : o.op = .load t x) (hx : gOf x = some (g, k))
    (hg : tAgg P t = some false) (hk : ∀ n, K (.int k n) h) : Ok P W0 a o h w K := by
  unfold gOf at hx
  split at hx
  · rename_i g'
    simp only [Option.map_eq_some_iff, Prod.mk.injEq] at hx
    obtain ⟨k', e, rfl, rfl⟩ := hx
    obtain ⟨n, hn⟩ := r.glob.any _ _ e
    have e1 : a.eval (.global g') = .pointer (some ⟨g', 0, none⟩) := rfl
    have hc : w.cell? ⟨g', 0, none⟩ = some (.int k' n) := r.cell hn
    refine ⟨.int k' n, .int k' n, h, w, .inl ?_, by simp only [VR], r, Fr.refl _ _ _, hk n⟩
    simp [execOp, ho, e1, Instr.loadAt, Instr.sureAddr, loadVar, run_isAgg hg, hc]
  · cases hx

theorem u8s_sound : ∀ {cs : List AV} {xs : List Int} {us : List Value}, u8s cs = some xs → VRs W0 cs us → us = xs.map (Value.int .u8)
  | [], xs, us, h, hv => by simp [u8s] at h; subst h; simpa [VRs] using hv
  | c :: cs, xs, us, h, hv => by
    simp only [VRs] at hv
    obtain ⟨v, l', rfl, h1, h2⟩ := hv
    unfold u8s at h
    split at h
    · rename_i e; cases e
    · rename_i e; cases e
      simp only [Option.map_eq_some_iff] at h
      obtain ⟨ys, h3, rfl⟩ := h
      simp only [VR] at h1
      rw [u8s_sound h3 h2, h1]; rfl
    · cases h

theorem isBytes_spec {t : TypeId} (h : isBytes P t = true) : ∃ e, P.underlying t = some (.slice e) ∧ P.underlying e = some (.int .u8) := by
  unfold isBytes at h
  split at h
  · rename_i e he
    split at h
    · rename_i h2; exact ⟨e, he, h2⟩
    · cases h
  · cases h

theorem b2s_ok {o : Oper} {h : AHeap} {w : World} {K : AV → AHeap → Prop} {t d : TypeId} {x : Operand} {x' : AArg} {cs : List AV} {xs : List Int} (hs : VRs W0 s a.tmps.toList) (r : Rel W0 h w) (ho : o.op = .convert t d x) (hx : cArg x = some x')
    (hd : P.underlying d = some .string) (hb : isBytes P t = true) (hc : acells h 1 (ev s x') = some cs) (hu : u8s cs = some xs) (k : K (.str (strOfNums xs)) h) : Ok P W0 a o h w K := by
  obtain ⟨e, h1, h2⟩ := isBytes_spec hb
  have hv := cArg_sound hs hx
  refine ⟨.str (strOfNums xs), .string (strOfNums xs), h, w, .inl ?_, by simp only [VR], r, Fr.refl _ _ _, k⟩
  have hlen := acells_len hc
  obtain ⟨us, g1, g2, g3⟩ := firstCells_run (P := P) r rfl hc hv (Nat.le_refl _)
  rw [List.take_of_length_le (by omega)] at g1
  have hus := u8s_sound hu g1
  have hsl : (∃ p len cap, a.eval x = .slice p len cap ∧ (p ≠ none → len = slen (ev s x'))) := by
    unfold acells at hc
    split at hc
    · rename_i e0; rw [e0] at hv; simp only [VR] at hv; exact ⟨_, _, _, hv, fun h => absurd rfl h⟩
    · rename_i e0; rw [e0] at hv; simp only [VR] at hv; obtain ⟨p, cap, hv⟩ := hv; exact ⟨_, _, _, hv, fun _ => by rw [e0]; rfl⟩
    · rename_i e0; rw [e0] at hv; simp only [VR] at hv
      rcases hv with ⟨p, cap, l, hv, _⟩ | ⟨_, _, hv⟩
      · exact ⟨_, _, _, hv, fun _ => by rw [e0]; rfl⟩
      · exact ⟨_, _, _, hv, fun h => absurd rfl h⟩
    · rename_i e0; rw [e0] at hv; simp only [VR] at hv; exact ⟨_, _, _, hv.1, fun _ => by rw [e0]; rfl⟩
    · cases hc
  obtain ⟨p, len, cap, he, hl⟩ := hsl
  rw [he] at g2
  have conv : (convert t d (.slice p len cap)).run P w = .ok (.string (strOfNums xs)) w := by
    rw [run_convert_bytes_string w t d e p len cap h1 h2 hd]
    cases p with
    | none =>
      simp only [Builtin.firstCells, Sem.run_pure] at g2
      have : us = [] := by injection g2 with g2; simpa using g2.symm
      subst this
      have : xs = [] := by cases xs with | nil => rfl | cons _ _ => simp at hus
      subst this
      simp [Conv.bytesToString, strOfNums]
      rfl
    | some p =>
      simp only [Builtin.firstCells, Nat.mul_one] at g2
      rw [← hl (by simp)] at g2
      rw [run_bytesToString w p len cap xs (by rw [← hus]; exact g2), foldl_push_bytes]
      simp [strOfNums, ByteArray.empty, ByteArray.emptyWithCapacity]
      rfl
  simp [execOp, ho, he, conv]

theorem store_ok {o : Oper} {h h' : AHeap} {w : World} {K : AV → AHeap → Prop} {t : TypeId} {n : Nat} {x v : Operand} {x' v' : AArg} {l : List AV} (hs : VRs W0 s a.tmps.toList) (r : Rel W0 h w) (ho : o.op = .store t x v) (hx : cArg x = some x') (hv : cArg v = some v')
    (hn : tSize P t = some n) (hl : cellsOf (ev s v') = some l) (hlen : l.length = n) (hsc : l.all scalar = true) (hw : awrite h (ev s x') l = some h') (k : K .undef h') : Ok P W0 a o h w K := by
  have h1 := cArg_sound hs hx
  have hcs := cellsOf_sound hl (cArg_sound hs hv)
  unfold awrite at hw
  split at hw
  · rename_i id off e
    rw [e] at h1; simp only [VR] at h1
    split at hw
    · rename_i cs tot hid
      split at hw <;> cases hw
      rename_i hoff
      obtain ⟨_, _, _, _, ht, hcl, _, _⟩ := r.cells hid
      have := VRs_length hcl
      obtain ⟨w', e1, e2, e3⟩ := write_rel (P := P) (off := off) r hid hcs hsc (by omega) (by omega)
      refine ⟨.undef, undef, _, w', .inr ⟨rfl, ?_⟩, by simp only [VR], e2, e3, k⟩
      have hsz : (a.eval v).cells.size = n := by have := VRs_length hcs; simp at this; omega
      simp [execOp, ho, h1, Instr.storeAt, Instr.sureAddr, storeVar, run_sizeOf hn, hsz, e1]
    · cases hw
  · cases hw

theorem makeSlice_ok {o : Oper} {h : AHeap} {w : World} {K : AV → AHeap → Prop} {t e : TypeId} {i : TypeInfo} {z : List AV} {x y : Operand} {x' y' : AArg} {n m : Nat} (hs : VRs W0 s a.tmps.toList) (r : Rel W0 h w) (ho : o.op = .makeSlice t x y)
    (hx : cArg x = some x') (hy : cArg y = some y') (he : tElem P t = some e) (hi : P.info? e = some i) (hz : tZero P e = some z) (hzl : z.length = i.size) (e1 : ev s x' = .int .i64 n) (e2 : ev s y' = .int .i64 m) (hnm : n ≤ m)
    (hb : i.bytes * m ≤ 70368744177664) (hm : m < 9223372036854775807) (k : ∀ id, h id = none → K (.sl id 0 n m) (upd h id (.cells (zrep z m) (m * z.length)))) : Ok P W0 a o h w K := by
  have h1 := cArg_sound hs hx; rw [e1] at h1; simp only [VR] at h1
  have h2 := cArg_sound hs hy; rw [e2] at h2; simp only [VR] at h2
  obtain ⟨zv, hzv, hzz⟩ := tZero_sound (W0 := W0) hz
  have hzs : zv.cells.size = z.length := by have := VRs_length hzz; simpa using this
  have hrow : VRs W0 (zrep z m) ((Array.range (m * i.size)).map (fun j => zv.cells[j % zv.cells.size]!)).toList := by
    unfold zrep
    rw [← hzl]
    simp only [Array.toList_map, Array.toList_range]
    have : ∀ (l : List Nat), (∀ j ∈ l, j % z.length < z.length ∨ False) → VRs W0 (l.map fun i => z.getD (i % z.length) .undef) (l.map fun j => zv.cells[j % zv.cells.size]!) := by
      intro l
      induction l with
      | nil => intro _; exact VRs_nil
      | cons j l ih =>
        intro hj
        have hlt := (hj j (by simp)).resolve_right id
        obtain ⟨u, hu, hr⟩ := VRs_get hzz (j % z.length) z[j % z.length] (List.getElem?_eq_getElem hlt)
        refine VRs_cons ?_ (ih fun k hk => hj k (by simp [hk]))
        have hu' : zv.cells[j % zv.cells.size]? = some u := by rw [hzs]; simpa using hu
        show VR W0 (z.getD (j % z.length) .undef) (zv.cells[j % zv.cells.size]!)
        rw [List.getD_eq_getElem?_getD, List.getElem?_eq_getElem hlt, Option.getD_some, getElem!_def, hu']
        exact hr
    refine this _ fun j hj => .inl (Nat.mod_lt _ ?_)
    rw [List.mem_range] at hj
    rcases Nat.eq_zero_or_pos z.length with h0 | h0
    · rw [h0] at hj; omega
    · exact h0
  have hlenz : (zrep z m).length = m * z.length := by simp [zrep]
  obtain ⟨r', f'⟩ := alloc_rel r (OR_new hrow e)
  rw [hlenz] at r' f'
  have wn : IntKind.i64.wrap (n : Int) = n := IntWalk.i64_in _ (by omega)
  have wm : IntKind.i64.wrap (m : Int) = m := IntWalk.i64_in _ (by omega)
  have hbm : (i.bytes : Int) * m ≤ 70368744177664 := by
    have e : (i.bytes : Int) * m = ((i.bytes * m : Nat) : Int) := (Int.natCast_mul _ _).symm
    rw [e]; omega
  have hbn : (i.bytes : Int) * n ≤ 70368744177664 := by
    have : i.bytes * n ≤ i.bytes * m := Nat.mul_le_mul_left _ hnm
    have h2 : i.bytes * n ≤ 70368744177664 := by omega
    have e : (i.bytes : Int) * n = ((i.bytes * n : Nat) : Int) := (Int.natCast_mul _ _).symm
    rw [e]; omega
  have c1 : (decide ((m : Int) < 0) || decide ((i.bytes : Int) * m > 2 ^ 48)) = false := by
    rw [Bool.or_eq_false_iff]; exact ⟨decide_eq_false (by omega), decide_eq_false (by omega)⟩
  have c2 : (((decide ((m : Int) < 0) || decide ((i.bytes : Int) * m > 2 ^ 48)) || decide ((n : Int) < 0)) || decide ((n : Int) > (m : Int))) = false := by
    rw [c1, Bool.or_eq_false_iff, Bool.or_eq_false_iff]; exact ⟨⟨rfl, decide_eq_false (by omega)⟩, decide_eq_false (by omega)⟩
  have hsz : tSize P e = some i.size := by simp [tSize, hi]
  have fin : (execOp a.eval o).run P w = .ok (.value (.slice (some ⟨w.heap.size, 0, none⟩) n m)) { w with heap := w.heap.push (Obj.cells ((Array.range (m * i.size)).map (fun j => zv.cells[j % zv.cells.size]!)) e) } := by
    simp only [execOp, ho, h1, h2, Instr.makeSlice, Sem.run_bind, run_underlying (tElem_sound he), Result.andThen_ok, asInt, asIntOf, Sem.run_pure, run_typeInfo hi, wn, wm]
    simp only [c2, Bool.false_eq_true, if_false, Sem.run_bind, run_askRoom, Result.andThen_ok, run_sizeOf hsz, Int.toNat_natCast]
    by_cases h0 : m * i.size = 0
    · simp only [h0, if_true, Sem.run_bind, Sem.run_pure, Result.andThen_ok, newRow, run_newObj]
      have hr0 : ∀ f g : Nat → Value, (Array.range 0).map f = (Array.range 0).map g := fun f g => by apply Array.ext'; simp
      rw [hr0]
    · simp only [h0, if_false, Sem.run_bind, hzv, Sem.run_pure, Result.andThen_ok, newRow, run_newObj]
  rw [Array.toArray_toList] at r' f'
  exact ⟨_, _, _, _, .inl fin, by simp only [VR]; exact ⟨by trivial, hnm⟩, r', f', k _ (fresh_ok r)⟩

theorem drew_rel {h : AHeap} {w w' : World} (r : Rel W0 h w) (e : w'.heap = w.heap) (eo : w'.os = w.os) (et : w'.tape = w.tape) (eu : w'.output = w.output) (ed : w.drawn ≤ w'.drawn) : Rel W0 h w' ∧ Fr W0 h w W0 h w' :=
  ⟨⟨fun p v hp => by rw [← r.base p v hp]; simp only [World.cell?, e], fun x o hx => by rw [e]; exact r.live x o hx, r.glob, r.fix.kept fun b hb hn => ⟨by rw [e], hn⟩⟩, ⟨eo, et, eu, dr_le ed, by rw [e]; exact Nat.le_refl _, fun b hb hn => ⟨by rw [e], hn⟩, fun b hb hn => hn, fun p v e => e, fun p v e => .inl e⟩⟩

theorem del_sub (h : AHeap) (x : Nat) : Sub (del h x) h := fun y o e => by
  unfold del at e; split at e
  · cases e
  · exact e
theorem upd_subm {h h' : AHeap} (s : Sub h' h) (x : Nat) (o : AObj) : Sub (upd h' x o) (upd h x o) := fun y p e => by
  unfold upd at e ⊢; split
  · rename_i hx; rw [if_pos hx] at e; exact e
  · rename_i hx; rw [if_neg hx] at e; exact s y p e
theorem Fr.sub {h h' h2 : AHeap} {w w' W1 : World} (f : Fr W0 h w W1 h' w') (s : Sub h2 h') : Fr W0 h w W1 h2 w' where
  os := f.os
  tape := f.tape
  output := f.output
  drawn := f.drawn
  size := f.size
  kept b hb hn := by
    obtain ⟨e1, e2⟩ := f.kept b hb hn
    refine ⟨e1, ?_⟩
    cases e : h2 b with
    | none => rfl
    | some o => rw [s b o e] at e2; cases e2
  new b hb hn := by
    refine f.new b hb ?_
    cases e : h2 b with
    | none => exact absurd e hn
    | some o => rw [s b o e]; simp
  le := f.le
  gr := f.gr

theorem append_ok {o : Oper} {h : AHeap} {w : World} {K : AV → AHeap → Prop} {t t2 e e2 : TypeId} {i : TypeInfo} {z : Value} {x y : Operand} {x' y' : AArg} {args : Array Operand} {tys : Array TypeId} (hs : VRs W0 s a.tmps.toList) (r : Rel W0 h w)
    (ho : o.op = .call { callee := .builtin .append, args, argTypes := tys }) (ha : args.toList = [x, y]) (ht : tys[0]? = some t) (ht2 : tys[1]? = some t2) (he : tElem P t = some e) (he2 : tElem P t2 = some e2)
    (hx : cArg x = some x') (hy : cArg y = some y') (hi : P.info? e = some i) (hz : i.zero = some z) (hzl : z.cells.size = i.size) (hb : i.bytes ≠ 0) (k : appendA h i.size i.bytes (ev s x') (ev s y') K) : Ok P W0 a o h w K := by
  obtain rfl : args = #[x, y] := by rw [← Array.toArray_toList (xs := args), ha]
  have h1 := cArg_sound hs hx
  have h2 := cArg_sound hs hy
  generalize ev s x' = X at *
  generalize ev s y' = Y at *
  generalize hU : a.eval x = U at *
  generalize hV : a.eval y = V at *
  obtain ⟨old, new, ho1, hn1, hbd, k0, k1⟩ := k
  have hsz : tSize P e = some i.size := by simp [tSize, hi]
  have lo := acells_len ho1
  have ln := acells_len hn1
  obtain ⟨usN, huN, hfN, hlN⟩ := firstCells_run (P := P) r rfl hn1 h2 (Nat.le_refl _)
  rw [List.take_of_length_le (by omega)] at huN
  have lusN := VRs_length huN
  have hd := tElem_sound he
  have hd2 := tElem_sound he2
  have run : (execOp a.eval o).run P w = ((Builtin.append_ tys o.type #[U, V]).run P w).andThen fun v w' => .ok (.value v) w' := by
    simp [execOp, ho, resolve, invoke, builtin, hU, hV]
  by_cases hn0 : slen Y = 0
  · -- nothing is appended
    have kk := k0 hn0
    have e0 : usN = [] := by rw [hn0] at ln; simp at ln; rw [ln] at lusN; exact List.length_eq_zero_iff.1 lusN
    subst e0
    refine ⟨X, U, h, w, .inl ?_, h1, r, Fr.refl _ _ _, kk⟩
    rw [run]
    have hslice : ∃ base n c, U = .slice base n c ∧ n ≤ c ∧ n = slen X := by
      unfold acells at ho1
      split at ho1
      · simp only [VR] at h1; exact ⟨none, 0, 0, h1, Nat.le_refl _, rfl⟩
      · simp only [VR] at h1; obtain ⟨b, c, h1⟩ := h1; exact ⟨_, _, _, h1, Nat.zero_le _, rfl⟩
      · simp only [VR] at h1
        rcases h1 with ⟨b, c, l, h1, hlc, _⟩ | ⟨h0, _, h1⟩
        · exact ⟨_, _, _, h1, hlc, rfl⟩
        · exact ⟨none, 0, 0, h1, Nat.le_refl _, by simp [slen, h0]⟩
      · simp only [VR] at h1; exact ⟨_, _, _, h1.1, h1.2, rfl⟩
      · cases ho1
    obtain ⟨base, n, c, rfl, hnc, _⟩ := hslice
    simp only [Builtin.append_, ht, ht2, Sem.run_bind, run_underlying hd, run_underlying hd2, Result.andThen_ok, run_sizeOf hsz, Sem.run_pure, List.getElem?_toArray, List.getElem?_cons_zero, List.getElem?_cons_succ, Bool.false_eq_true, if_false, hlN, hn0, Nat.add_zero, hnc, if_true, Bool.not_false]
    rw [hn0] at hfN
    simp only [hfN, Result.andThen_ok]
    cases base <;> simp [storeCells]
  · have k2 := k1 hn0
    -- a new block
    have grow : ∀ (base : Option Addr) (n c : Nat), U = .slice base n c → n = slen X → c < n + slen Y → (grows h i.size (n + slen Y) (old ++ new) K ∨ ∃ id, grows (del h id) i.size (n + slen Y) (old ++ new) K) → Ok P W0 a o h w K := by
      intro base n c hUe hne hlt kg
      subst hUe
      have hfit : Builtin.nextslicecap (n + slen Y) c * i.bytes ≤ 281474976710656 := growslice_fits hlt (by rw [hne]; omega)
      have h63 : ¬ ((((n + slen Y : Nat) : Int) > IntKind.i64.max) ∧ (false = true ∨ i.bytes = 0)) := by simp [hb]
      obtain ⟨usO, huO, hfO, _⟩ := firstCells_run (P := P) (w' := w.drew) r rfl ho1 h1 (Nat.le_refl _)
      rw [List.take_of_length_le (by omega)] at huO
      have lusO := VRs_length huO
      obtain ⟨usN', huN', hfN', _⟩ := firstCells_run (P := P) (w' := w.drew) r rfl hn1 h2 (Nat.le_refl _)
      rw [List.take_of_length_le (by omega)] at huN'
      have lusN' := VRs_length huN'
      rw [← hne] at hfO
      have hcap : n + slen Y ≤ grownCap w (n + slen Y) c e := Nat.le_add_right _ _
      have hres : (Builtin.append_ tys o.type #[.slice base n c, V]).run P w = .ok (.slice (some ⟨w.heap.size, 0, none⟩) (n + slen Y) (grownCap w (n + slen Y) c e))
          { w.drew with heap := w.drew.heap.push (Obj.cells (usO.toArray ++ usN'.toArray ++ Builtin.zeroCells z.cells (grownCap w (n + slen Y) c e - (n + slen Y))) e) } := by
        have hnle : ¬ (n + slen Y ≤ c) := by omega
        have hfit' : ¬ (Builtin.nextslicecap (n + slen Y) c * i.bytes > 2 ^ 48) := by simp; omega
        have hzv : ∀ w, (zeroValue e).run P w = .ok z w := fun w => by simp [zeroValue, run_typeInfo hi, hz]
        simp only [Builtin.append_, ht, ht2, Sem.run_bind, run_underlying hd, run_underlying hd2, Result.andThen_ok, run_sizeOf hsz, Sem.run_pure, List.getElem?_toArray, List.getElem?_cons_zero, List.getElem?_cons_succ, Bool.false_eq_true, if_false, hlN, if_neg hnle, Bool.not_false, if_true, run_typeInfo hi]
        have h63b : ((decide (((n + slen Y : Nat) : Int) > IntKind.i64.max)) && (false || decide (i.bytes = 0))) = false := by simp [hb]
        simp only [run_choose, Question.forced, Bool.false_eq_true, if_false, Result.andThen_ok, run_askRoom, hb, or_self, and_false, if_neg hfit', Sem.run_bind, run_typeInfo hi, World.drew_eq, run_typeInfo hi]
        simp only [hfO, hfN', Result.andThen_ok, hzv, newRow, Sem.run_bind, run_newObj, Sem.run_pure]
        rfl
      have hOR : OR W0 (.cells (old ++ new) (grownCap w (n + slen Y) c e * i.size)) (Obj.cells (usO.toArray ++ usN'.toArray ++ Builtin.zeroCells z.cells (grownCap w (n + slen Y) c e - (n + slen Y))) e) := by
        simp only [OR]
        refine ⟨usO ++ usN', (Builtin.zeroCells z.cells (grownCap w (n + slen Y) c e - (n + slen Y))).toList, e, ?_, ?_, VRs_append huO huN'⟩
        · congr 1
          apply Array.ext'
          simp
        · simp only [List.length_append, lusO, lusN', lo, ln, Array.length_toList, Builtin.zeroCells, Array.size_map, Array.size_range, hzl]
          rw [← hne, ← Nat.add_mul, ← Nat.add_mul]; congr 1; omega
      obtain ⟨r1, f1⟩ := drew_rel (w' := w.drew) r rfl rfl rfl rfl (Nat.le_succ _)
      obtain ⟨r', f'⟩ := alloc_rel r1 hOR
      rcases kg with kg | ⟨id, kg⟩
      · exact ⟨_, _, _, _, .inl (by rw [run, hres]; rfl), by simp only [VR]; exact ⟨by trivial, hcap⟩, r', f1.trans f', kg w.heap.size _ (fresh_ok r) hcap⟩
      · have s1 := upd_subm (del_sub h id) w.heap.size (.cells (old ++ new) (grownCap w (n + slen Y) c e * i.size))
        refine ⟨_, _, _, _, .inl (by rw [run, hres]; rfl), by simp only [VR]; exact ⟨by trivial, hcap⟩, r'.sub s1, (f1.trans f').sub s1, kg w.heap.size _ ?_ hcap⟩
        cases e : del h id w.heap.size with
        | none => rfl
        | some o => have := del_sub h id _ _ e; rw [fresh_ok r] at this; cases this
    split at k2
    · simp only [VR] at h1
      have e0 : old = [] := by simp [acells] at ho1; exact ho1
      subst e0
      refine grow none 0 0 h1 rfl (by omega) (.inl ?_)
      simpa using k2
    · rename_i cs n
      simp only [VR] at h1
      rcases h1 with ⟨b, cap, l, h1, hlc, hex, _⟩ | ⟨h0, _, h1⟩
      · exact grow _ _ _ h1 rfl (by have := hex trivial; omega) (.inl k2)
      · subst h0
        exact grow none 0 0 h1 rfl (by omega) (.inl k2)
    · rename_i id off n cap
      obtain ⟨cs, tot, hid, hcap, kin, kout⟩ := k2
      simp only [VR] at h1
      by_cases hle : n + slen Y ≤ cap
      · obtain ⟨hsc, kk⟩ := kin hle
        obtain ⟨hU1, hnc⟩ := h1
        subst hU1
        have hoff : off + n * i.size ≤ cs.length := by
          simp only [acells, hid] at ho1
          split at ho1
          · assumption
          · cases ho1
        have hmul : (n + slen Y) * i.size ≤ cap * i.size := Nat.mul_le_mul_right _ hle
        rw [Nat.add_mul] at hmul
        obtain ⟨w', e1, r', f'⟩ := write_rel (P := P) (off := off + n * i.size) r hid huN hsc hoff (by omega)
        refine ⟨_, .slice (some ⟨id, off, none⟩) (n + slen Y) cap, _, w', .inl ?_, by simp only [VR]; exact ⟨by trivial, hle⟩, r', f', kk⟩
        rw [run]
        simp only [Builtin.append_, ht, ht2, Sem.run_bind, run_underlying hd, run_underlying hd2, Result.andThen_ok, run_sizeOf hsz, Sem.run_pure, List.getElem?_toArray, List.getElem?_cons_zero, List.getElem?_cons_succ, Bool.false_eq_true, if_false, hlN, hle, if_true, Bool.not_false, hfN, addr_add, e1]
      · exact grow _ _ _ h1.1 rfl (by omega) ((kout (by omega)).imp _root_.id fun g => ⟨_, g⟩)
    · exact k2.elim

end
end Go.Proofs.YteijaibggalapaaGreatDoor.E
