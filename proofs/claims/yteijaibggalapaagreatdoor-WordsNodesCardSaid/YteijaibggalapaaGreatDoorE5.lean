/-
  Struct literals; the cells of a block; new blocks, loads and stores.
-/
import Derived.Test.YteijaibggalapaaGreatDoorE4
namespace Go.Proofs.YteijaibggalapaaGreatDoor.E
open Go
set_option linter.unusedVariables false
set_option linter.unusedSimpArgs false

section
variable {P : Program} {W0 : World} {s : List AV} {a : Act}

theorem set_fold : ∀ (vs : List Value) (off k : Nat) (cells : Array Value), off + k + vs.length ≤ cells.size →
    ((vs.zipIdx k).foldl (fun cs (x : Value × Nat) => cs.setIfInBounds (off + x.2) x.1) cells).toList = cells.toList.take (off + k) ++ vs ++ cells.toList.drop (off + k + vs.length)
  | [], off, k, cells, h => by simp
  | v :: vs, off, k, cells, h => by
    simp only [List.length_cons] at h
    simp only [List.zipIdx_cons, List.foldl_cons]
    rw [set_fold vs off (k + 1) _ (by simp; omega)]
    simp only [Array.toList_setIfInBounds, List.length_cons]
    have e1 : (cells.toList.set (off + k) v).take (off + (k + 1)) = cells.toList.take (off + k) ++ [v] := by
      rw [show off + (k + 1) = off + k + 1 by omega, List.take_succ_eq_append_getElem (by simp; omega)]
      simp [List.take_set_of_le]
    have e2 : (cells.toList.set (off + k) v).drop (off + (k + 1) + vs.length) = cells.toList.drop (off + k + (vs.length + 1)) := by
      rw [List.drop_set_of_lt (by omega)]; congr 1; omega
    rw [e1, e2]; simp

theorem VRs_splice {cs l : List AV} {us vs : List Value} (h : VRs W0 cs us) (hl : VRs W0 l vs) (off : Nat) :
    VRs W0 (splice cs off l) (us.take off ++ vs ++ us.drop (off + vs.length)) := by
  unfold splice
  rw [VRs_length hl]
  exact VRs_append (VRs_append (VRs_take h _) hl) (VRs_drop h _)

theorem run_places {fs : List Field} (h : fs.all (fun f => (tSize P f.type).isSome) = true) (w : World) :
    ((fs.mapM fun f => do pure (f.offset, ← sizeOf f.type) : Sem (List (Nat × Nat))).run P w) = .ok (fs.map fun f => (f.offset, (tSize P f.type).getD 0)) w := by
  induction fs with
  | nil => simp
  | cons f fs ih =>
    simp only [List.all_cons, Bool.and_eq_true] at h
    obtain ⟨n, hn⟩ := Option.isSome_iff_exists.1 h.1
    simp only [List.mapM_cons, Sem.run_bind, run_sizeOf hn, Result.andThen_ok, Sem.run_pure, List.map_cons, hn, Option.getD_some]
    rw [ih h.2]; rfl

theorem fill_sound (hs : VRs W0 s a.tmps.toList) {t : TypeId} {fs : Array Field} (hd : P.underlying t = some (.struct fs)) (place : Nat → Option (Nat × Nat))
    (hplace : ∀ i f, fs[i]? = some f → place i = some (f.offset, (tSize P f.type).getD 0)) :
    ∀ (ps : List (Nat × Operand)) (qs : List (Nat × Nat × AArg)) (cs r : List AV) (us : Array Value), cParts P t ps = some qs → fillA s cs qs = some r → VRs W0 cs us.toList →
      ∃ vs : Array Value, Instr.fill place us (ps.map fun p => (p.1, a.eval p.2)) = some vs ∧ VRs W0 r vs.toList
  | [], qs, cs, r, us, hq, hr, hu => by simp [cParts] at hq; subst hq; simp [fillA] at hr; subst hr; exact ⟨us, rfl, hu⟩
  | (i, x) :: ps, qs, cs, r, us, hq, hr, hu => by
    simp only [cParts] at hq
    split at hq
    · cases hq
    rename_i f hf
    split at hq
    · rename_i n y ys hn hy hys
      cases hq
      obtain ⟨fs', hd', hfs⟩ := tField_sound hf
      rw [hd] at hd'; cases hd'
      simp only [fillA] at hr
      split at hr
      · rename_i l hl
        split at hr
        · rename_i hlen
          have hxv := cArg_sound hs hy
          have hcs := cellsOf_sound hl hxv
          have hsz : (a.eval x).cells.size = n := by
            have := VRs_length hcs; simp at this; omega
          have hus := VRs_length hu
          simp at hus
          simp only [List.map_cons, Instr.fill, hplace i f hfs, hn, Option.getD_some, hsz]
          have hc : ¬ (decide (n ≠ n) || decide (f.offset + n > us.size)) = true := by simp; omega
          rw [if_neg hc]
          refine fill_sound hs hd place hplace ps ys (splice cs f.offset l) r _ hys hr ?_
          have := set_fold (a.eval x).cells.toList f.offset 0 us (by simp; omega)
          rw [← Array.foldl_toList, Array.toList_zipIdx]
          simp only [Nat.add_zero] at this
          rw [this]
          exact VRs_splice hu hcs f.offset
        · cases hr
      · cases hr
    · cases hq

theorem build_sound (hs : VRs W0 s a.tmps.toList) {o : Oper} {t : TypeId} {fs : Array Field} {ps : Array (Nat × Operand)} {z : List AV} {qs : List (Nat × Nat × AArg)}
    (ho : o.op = .build t ps) (hd : P.underlying t = some (.struct fs)) (hz : tZero P t = some z) (hq : cParts P t ps.toList = some qs) (hall : fs.toList.all (fun f => (tSize P f.type).isSome) = true)
    {v : AV} (hv : pv s (.build z qs) = some v) : Yl P W0 a o v := by
  simp only [pv, Option.map_eq_some_iff] at hv
  obtain ⟨r, hr, rfl⟩ := hv
  obtain ⟨zv, hzr, hzz⟩ := tZero_sound hz
  let pl : Array (Nat × Nat) := (fs.toList.map fun f => (f.offset, (tSize P f.type).getD 0)).toArray
  obtain ⟨vs, hf, hvs⟩ := fill_sound hs hd (fun i => pl[i]?) (fun i f hi => by
    have : fs.toList[i]? = some f := by simpa using hi
    simp [pl, this]) ps.toList qs z r zv.cells hq hr hzz
  refine ⟨.agg vs, ?_, fun w => ?_⟩
  · simp only [VR]; exact ⟨vs.toList, by simp, hvs⟩
  · have hpl : ∀ w, ((fs.mapM fun f => do pure (f.offset, ← sizeOf f.type) : Sem (Array (Nat × Nat))).run P w) = .ok pl w := fun w => by
      rw [Array.mapM_eq_mapM_toList]
      simp only [Sem.run_map, run_places hall, Result.andThen_ok]
      rfl
    have hpm : (ps.map fun x => (x.1, a.eval x.2)).toList = ps.toList.map fun p => (p.1, a.eval p.2) := by simp
    simp only [execOp, ho, Instr.build, Sem.run_bind, hzr, Result.andThen_ok, run_underlying hd, hpl]
    have hf' : Instr.fill (fun i => pl[i]?) zv.cells (ps.map fun x => (x.1, a.eval x.2)).toList = some vs := by rw [hpm]; exact hf
    simp only [hf', Sem.run_pure, Result.andThen_ok]

theorem fillArr_sound (hs : VRs W0 s a.tmps.toList) (n : Nat) :
    ∀ (ps : List (Nat × Operand)) (qs : List (Nat × Nat × AArg)) (cs r : List AV) (us : Array Value), cPartsA n ps = some qs → fillA s cs qs = some r → VRs W0 cs us.toList →
      ∃ vs : Array Value, Instr.fill (fun i => some (i * n, n)) us (ps.map fun p => (p.1, a.eval p.2)) = some vs ∧ VRs W0 r vs.toList
  | [], qs, cs, r, us, hq, hr, hu => by simp [cPartsA] at hq; subst hq; simp [fillA] at hr; subst hr; exact ⟨us, rfl, hu⟩
  | (i, x) :: ps, qs, cs, r, us, hq, hr, hu => by
    simp only [cPartsA] at hq
    split at hq
    · rename_i y ys hy hys
      cases hq
      simp only [fillA] at hr
      split at hr
      · rename_i l hl
        split at hr
        · rename_i hlen
          have hxv := cArg_sound hs hy
          have hcs := cellsOf_sound hl hxv
          have hsz : (a.eval x).cells.size = n := by
            have := VRs_length hcs; simp at this; omega
          have hus := VRs_length hu
          simp at hus
          simp only [List.map_cons, Instr.fill, hsz]
          have hc : ¬ (decide (n ≠ n) || decide (i * n + n > us.size)) = true := by simp; omega
          rw [if_neg hc]
          refine fillArr_sound hs n ps ys (splice cs (i * n) l) r _ hys hr ?_
          have := set_fold (a.eval x).cells.toList (i * n) 0 us (by simp; omega)
          rw [← Array.foldl_toList, Array.toList_zipIdx]
          simp only [Nat.add_zero] at this
          rw [this]
          exact VRs_splice hu hcs (i * n)
        · cases hr
      · cases hr
    · cases hq

theorem buildArr_sound (hs : VRs W0 s a.tmps.toList) {o : Oper} {t e : TypeId} {m n : Nat} {ps : Array (Nat × Operand)} {z : List AV} {qs : List (Nat × Nat × AArg)}
    (ho : o.op = .build t ps) (hd : tArr P t = some (m, e)) (hz : tZero P t = some z) (hn : tSize P e = some n) (hq : cPartsA n ps.toList = some qs)
    {v : AV} (hv : pv s (.build z qs) = some v) : Yl P W0 a o v := by
  simp only [pv, Option.map_eq_some_iff] at hv
  obtain ⟨r, hr, rfl⟩ := hv
  obtain ⟨zv, hzr, hzz⟩ := tZero_sound hz
  obtain ⟨vs, hf, hvs⟩ := fillArr_sound hs n ps.toList qs z r zv.cells hq hr hzz
  refine ⟨.agg vs, ?_, fun w => ?_⟩
  · simp only [VR]; exact ⟨vs.toList, by simp, hvs⟩
  · have hpm : (ps.map fun x => (x.1, a.eval x.2)).toList = ps.toList.map fun p => (p.1, a.eval p.2) := by simp
    simp only [execOp, ho, Instr.build, Sem.run_bind, hzr, Result.andThen_ok, run_underlying (tArr_sound hd), run_sizeOf hn]
    have hf' : Instr.fill (fun i => some (i * n, n)) zv.cells (ps.map fun x => (x.1, a.eval x.2)).toList = some vs := by rw [hpm]; exact hf
    simp only [hf', Sem.run_pure, Result.andThen_ok]

/-! ### Memory -/

theorem Rel.cells {h : AHeap} {w : World} (r : Rel W0 h w) {x tot : Nat} {cs : List AV} (hx : h x = some (.cells cs tot)) :
    ∃ (l rest : List Value) (t : TypeId), w.heap[x]? = some (.cells (l ++ rest).toArray t (0, 0)) ∧ l.length + rest.length = tot ∧ VRs W0 cs l ∧ x < w.heap.size ∧ (∀ p : Addr, p.block = x → W0.cell? p = none) := by
  obtain ⟨hb, obj, ho, hr⟩ := r.live x _ hx
  simp only [OR] at hr
  obtain ⟨l, rest, t, rfl, ht, hl⟩ := hr
  exact ⟨l, rest, t, ho, ht, hl, r.lt hx, hb⟩

theorem cell_of {w : World} {x off : Nat} {l rest : List Value} {t : TypeId} (ho : w.heap[x]? = some (.cells (l ++ rest).toArray t (0, 0))) (h : off < l.length) : w.cell? ⟨x, off, none⟩ = l[off]? := by
  simp only [World.cell?, ho]
  simp [List.getElem?_append_left h]

/-- A cell that is read. -/
theorem aload_sound {h : AHeap} {w : World} (r : Rel W0 h w) {p v : AV} {u : Value} (hp : VR W0 p u) (hv : aload h p = some v) : ∃ (q : Addr) (c : Value), u = .pointer (some q) ∧ w.cell? q = some c ∧ VR W0 v c := by
  unfold aload at hv
  split at hv
  · rename_i id off
    split at hv
    · rename_i cs tot hx
      simp only [VR] at hp
      obtain ⟨l, rest, t, ho, _, hl, _, _⟩ := r.cells hx
      obtain ⟨c, hc, hr⟩ := VRs_get hl off v hv
      have : off < l.length := (List.getElem?_eq_some_iff.1 hc).1
      exact ⟨⟨id, off, none⟩, c, hp, by rw [cell_of ho this, hc], hr⟩
    · cases hv
  · rename_i g off
    split at hv
    · rename_i cs hx
      simp only [VR] at hp
      obtain ⟨l, hl, hcell⟩ := r.glob.tab g cs hx
      obtain ⟨c, hc, hr⟩ := VRs_get hl off v hv
      have : off < l.length := (List.getElem?_eq_some_iff.1 hc).1
      exact ⟨⟨g, off, none⟩, c, hp, r.cell (by rw [hcell off this, hc]), hr⟩
    · cases hv
  · rename_i cs
    simp only [VR] at hp
    obtain ⟨q, l, hu, hc, hl⟩ := hp
    have hv : cs[0]? = some v := by cases cs <;> simp at hv ⊢; exact hv
    obtain ⟨c, hc', hr⟩ := VRs_get hl 0 v hv
    have : 0 < l.length := (List.getElem?_eq_some_iff.1 hc').1
    refine ⟨q, c, hu, ?_, hr⟩
    have e := hc 0 this
    rw [hc'] at e
    exact r.cell e
  · cases hv

theorem aloads_sound {h : AHeap} {w : World} (r : Rel W0 h w) {p : AV} {n : Nat} {vs : List AV} {u : Value} (hp : VR W0 p u) (hv : aloads h n p = some vs) :
    ∃ (q : Addr) (cs : List Value), u = .pointer (some q) ∧ cs.length = n ∧ (∀ j c, cs[j]? = some c → w.cell? (q.add j) = some c) ∧ VRs W0 vs cs := by
  have add (b off m : Nat) : (⟨b, off, none⟩ : Addr).add m = ⟨b, off + m, none⟩ := by unfold Addr.add; split <;> simp_all
  unfold aloads at hv
  split at hv
  · rename_i id off
    split at hv
    · rename_i cs tot hx
      split at hv <;> cases hv
      rename_i hlen
      simp only [VR] at hp
      obtain ⟨l, rest, t, ho, _, hl, _, _⟩ := r.cells hx
      have hll := VRs_length hl
      refine ⟨⟨id, off, none⟩, (l.drop off).take n, hp, by simp; omega, fun j c hj => ?_, VRs_take (VRs_drop hl _) _⟩
      rw [List.getElem?_take] at hj
      split at hj
      · rename_i hjn
        rw [List.getElem?_drop] at hj
        rw [add, cell_of ho (by omega), hj]
      · cases hj
    · cases hv
  · rename_i cs
    split at hv <;> cases hv
    rename_i hlen
    simp only [VR] at hp
    obtain ⟨q, l, hu, hc, hl⟩ := hp
    have hll := VRs_length hl
    refine ⟨q, l.take n, hu, by simp; omega, fun j c hj => ?_, VRs_take hl _⟩
    rw [List.getElem?_take] at hj
    split at hj
    · rename_i hjn
      have e := hc j (by omega)
      rw [hj] at e
      exact r.cell e
    · cases hj
  · cases hv

theorem addr_add (b off m : Nat) : (⟨b, off, none⟩ : Addr).add m = ⟨b, off + m, none⟩ := by unfold Addr.add; split <;> simp_all

theorem load_run (hs : VRs W0 s a.tmps.toList) {x : Operand} {x' : AArg} (hx : cArg x = some x') {h : AHeap} {w : World} (r : Rel W0 h w) {o : Oper} {t : TypeId} {g : Bool} {n : Nat}
    (ho : o.op = .load t x) (hg : tAgg P t = some g) (hn : tSize P t = some n) {v : AV} (hv : (if g then (aloads h n (ev s x')).map .agg else aload h (ev s x')) = some v) :
    ∃ u, VR W0 v u ∧ (execOp a.eval o).run P w = .ok (.value u) w := by
  have h1 := cArg_sound hs hx
  cases g
  · simp only [Bool.false_eq_true, if_false] at hv
    obtain ⟨q, c, hu, hc, hr⟩ := aload_sound r h1 hv
    exact ⟨c, hr, by simp [execOp, ho, hu, Instr.loadAt, Instr.sureAddr, loadVar, run_isAgg hg, hc]⟩
  · simp only [if_true, Option.map_eq_some_iff] at hv
    obtain ⟨vs, hvs, rfl⟩ := hv
    obtain ⟨q, cs, hu, hlen, hc, hr⟩ := aloads_sound r h1 hvs
    refine ⟨.agg cs.toArray, by simp only [VR]; exact ⟨cs, rfl, hr⟩, ?_⟩
    have := run_loadCells_list (P := P) (w := w) q cs hc
    rw [hlen] at this
    simp [execOp, ho, hu, Instr.loadAt, Instr.sureAddr, loadVar, run_isAgg hg, run_sizeOf hn, this]

end
end Go.Proofs.YteijaibggalapaaGreatDoor.E
