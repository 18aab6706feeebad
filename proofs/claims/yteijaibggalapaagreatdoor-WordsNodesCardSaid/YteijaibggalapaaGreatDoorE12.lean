/-
  What comes in, read as data, is an abstract value told inline; and the frame of a law's row.
-/
import Derived.Test.YteijaibggalapaaGreatDoorE11
import Derived.ProofKit
import Derived.OpenShut
import Derived.ShutString
import Derived.ChangeOld
import Derived.Below
namespace Go.Proofs.YteijaibggalapaaGreatDoor.E
open Go Go.RowKit Go.ChangeShapes Go.WideShapes
set_option linter.unusedVariables false
set_option linter.unusedSimpArgs false

def ShFs (f : TypeId → List AV → Prop) (size : TypeId → Nat) : List Field → List AV → Prop
  | [], xs => xs = []
  | fd :: l, xs => ∃ a b, xs = a ++ b ∧ a.length = size fd.type ∧ f fd.type a ∧ ShFs f size l b

/-- The cells of a value of type t that came in. -/
def ShC (P : Program) : Nat → TypeId → List AV → Prop
  | 0, _, _ => False
  | n + 1, t, xs => match P.underlying t with
    | some .bool => ∃ b, xs = [.bool b]
    | some (.int k) => ∃ i, xs = [.int k i] ∧ (Lit.int k i).wf = true
    | some .string => ∃ s : ByteArray, xs = [.str s] ∧ s.size ≤ maxLen
    | some (.slice e) => ∃ els : List (List AV), xs = [.ro els.flatten els.length false] ∧ els.length ≤ maxLen ∧ ∀ el ∈ els, el.length = P.cellsOf e ∧ ShC P n e el
    | some (.struct fs) => ShFs (ShC P n) P.cellsOf fs.toList xs
    | some (.array m e) => ∃ els : List (List AV), xs = els.flatten ∧ els.length = m ∧ ∀ el ∈ els, el.length = P.cellsOf e ∧ ShC P n e el
    | _ => False

def consec (P : Program) : List Field → Nat → Nat → Bool
  | [], o, tot => o == tot
  | f :: l, o, tot => f.offset == o && consec P l (o + P.cellsOf f.type) tot

/-- The types that are read so: whole numbers, bools, strings, slices, structs laid without a gap. -/
def layOK (P : Program) : Nat → TypeId → Bool
  | 0, _ => false
  | n + 1, t => match P.underlying t with
    | some .bool | some (.int _) | some .string => true
    | some (.slice e) => layOK P n e
    | some (.struct fs) => consec P fs.toList 0 (P.cellsOf t) && fs.toList.all fun f => layOK P n f.type
    | some (.array m e) => P.cellsOf t == m * P.cellsOf e && layOK P n e
    | _ => false

theorem mapM_get {α β : Type} {f : α → Option β} : ∀ {l : List α} {r : List β}, l.mapM f = some r → r.length = l.length ∧ ∀ (i : Nat) (x : α), l[i]? = some x → ∃ y, f x = some y ∧ r[i]? = some y
  | [], r, h => by simp at h; subst h; simp
  | a :: l, r, h => by
    simp only [List.mapM_cons, Option.bind_eq_bind, Option.bind_eq_some_iff, Option.pure_def, Option.some.injEq] at h
    obtain ⟨y, hy, ys, hys, rfl⟩ := h
    obtain ⟨h1, h2⟩ := mapM_get hys
    refine ⟨by simp [h1], fun i x hx => ?_⟩
    cases i with
    | zero => simp at hx; subst hx; exact ⟨y, hy, by simp⟩
    | succ i => simp at hx; obtain ⟨z, hz, hr⟩ := h2 i x hx; exact ⟨z, hz, by simpa using hr⟩

theorem cells?_get {W : World} {base : Nat} {a : Addr} {n : Nat} {cl : List Value} (h : W.cells? base a n = some cl) : cl.length = n ∧ ∀ i, i < n → W.cell? (a.add i) = cl[i]? := by
  unfold World.cells? at h
  split at h
  · obtain ⟨h1, h2⟩ := mapM_get h
    refine ⟨by simpa using h1, fun i hi => ?_⟩
    obtain ⟨y, hy, hr⟩ := h2 i i (by simp [hi])
    rw [hy, hr]
  · cases h

/-- Rows of cells, one behind the other. -/
theorem rows_of {W : World} {a : Addr} {k : Nat} {Q : List AV → Prop} : ∀ (m : Nat), (∀ i, i < m → ∃ (cl : List Value) (xs : List AV), cl.length = k ∧ (∀ j, j < k → W.cell? (a.add (i * k + j)) = cl[j]?) ∧ VRs W xs cl ∧ xs.length = k ∧ Q xs) →
    ∃ (els : List (List AV)) (l : List Value), els.length = m ∧ l.length = m * k ∧ (∀ j, j < l.length → W.cell? (a.add j) = l[j]?) ∧ VRs W els.flatten l ∧ ∀ el ∈ els, el.length = k ∧ Q el
  | 0, h => ⟨[], [], rfl, by simp, by simp, VRs_nil, by simp⟩
  | m + 1, h => by
    obtain ⟨els, l, e1, e2, e3, e4, e5⟩ := rows_of m (fun i hi => h i (by omega))
    obtain ⟨cl, xs, c1, c2, c3, c4, c5⟩ := h m (by omega)
    refine ⟨els ++ [xs], l ++ cl, by simp [e1], by simp [e2, c1, Nat.succ_mul], fun j hj => ?_, ?_, fun el he => ?_⟩
    · rcases Nat.lt_or_ge j l.length with hlt | hge
      · rw [List.getElem?_append_left hlt]; exact e3 j hlt
      · rw [List.getElem?_append_right hge]
        simp only [List.length_append] at hj
        have := c2 (j - l.length) (by omega)
        rw [← this]; congr 1; congr 1; omega
    · simp only [List.flatten_append, List.flatten_cons, List.flatten_nil, List.append_nil]
      exact VRs_append e4 c3
    · rcases List.mem_append.1 he with he | he
      · exact e5 el he
      · simp at he; subst he; exact ⟨c4, c5⟩

theorem chunks_of {W : World} {k : Nat} {Q : List AV → Prop} {cs : List Value} : ∀ (m : Nat), (∀ i, i < m → ∃ xs, VRs W xs ((cs.drop (i * k)).take k) ∧ xs.length = k ∧ Q xs) →
    ∃ els : List (List AV), els.length = m ∧ VRs W els.flatten (cs.take (m * k)) ∧ ∀ el ∈ els, el.length = k ∧ Q el
  | 0, h => ⟨[], rfl, by simpa using VRs_nil, by simp⟩
  | m + 1, h => by
    obtain ⟨els, e1, e2, e3⟩ := chunks_of m (fun i hi => h i (by omega))
    obtain ⟨xs, x1, x2, x3⟩ := h m (by omega)
    refine ⟨els ++ [xs], by simp [e1], ?_, fun el he => ?_⟩
    · rw [Nat.succ_mul, List.take_add]
      simp only [List.flatten_append, List.flatten_cons, List.flatten_nil, List.append_nil]
      exact VRs_append e2 x1
    · rcases List.mem_append.1 he with he | he
      · exact e3 el he
      · simp at he; subst he; exact ⟨x2, x3⟩

section
variable {P : Program} {W : World} {H : Type} {enc : TypeId × Value → H} {spare : Nat → Bool} {held : Bool}

/-- A struct's fields, one behind the other. -/
theorem fields_of {Q : TypeId → List AV → Prop} (cs : List Value) : ∀ (fs : List Field) (o : Nat), consec P fs o cs.length = true →
    (∀ f ∈ fs, ∃ xs, VRs W xs ((cs.drop f.offset).take (P.cellsOf f.type)) ∧ Q f.type xs ∧ xs.length = ((cs.drop f.offset).take (P.cellsOf f.type)).length) → o ≤ cs.length →
    ∃ xs, VRs W xs (cs.drop o) ∧ ShFs Q P.cellsOf fs xs
  | [], o, hc, h, ho => by
    simp [consec] at hc
    subst hc
    exact ⟨[], by simpa using VRs_nil, rfl⟩
  | f :: fs, o, hc, h, ho => by
    simp only [consec, Bool.and_eq_true, beq_iff_eq] at hc
    obtain ⟨xs, h1, h2, h3⟩ := h f (by simp)
    rw [hc.1] at h1 h3
    have hle : o + P.cellsOf f.type ≤ cs.length := by
      have : ∀ (l : List Field) (o t : Nat), consec P l o t = true → o ≤ t := by
        intro l
        induction l with
        | nil => intro o t h; simp [consec] at h; omega
        | cons g l ih =>
          intro o t h
          simp only [consec, Bool.and_eq_true, beq_iff_eq] at h
          have := ih _ _ h.2
          omega
      exact this _ _ _ hc.2
    obtain ⟨ys, h4, h5⟩ := fields_of cs fs (o + P.cellsOf f.type) hc.2 (fun g hg => h g (by simp [hg])) hle
    refine ⟨xs ++ ys, ?_, xs, ys, rfl, ?_, h2, h5⟩
    · have e : cs.drop o = (cs.drop o).take (P.cellsOf f.type) ++ cs.drop (o + P.cellsOf f.type) := by
        rw [← List.drop_drop, List.take_append_drop]
      rw [e]; exact VRs_append h1 h4
    · rw [h3]; simp; omega

theorem trod_shape : ∀ (n fuel : Nat) (t : TypeId) (cs : List Value) (d : DataW H) (p : List MemPlace), layOK P n t = true → DataW.trod enc P W 0 spare held fuel t cs = some (d, p) → ∃ xs, VRs W xs cs ∧ ShC P n t xs ∧ xs.length = cs.length
  | 0, _, _, _, _, _, h, _ => by simp [layOK] at h
  | n + 1, 0, _, _, _, _, _, h => by simp [DataW.trod] at h
  | n + 1, fuel + 1, t, cs, d, p, hl, ht => by
    simp only [layOK] at hl
    split at hl
    · rename_i hd
      obtain ⟨b, rfl, _⟩ := DataW.trod_bool hd ht
      exact ⟨[.bool b], VRs_cons (by simp only [VR]) VRs_nil, by simp only [ShC, hd]; exact ⟨b, rfl⟩, rfl⟩
    · rename_i k hd
      obtain ⟨i, rfl, _, hw⟩ := DataW.trod_int hd ht
      exact ⟨[.int k i], VRs_cons (by simp only [VR]) VRs_nil, by simp only [ShC, hd]; exact ⟨i, rfl, hw⟩, rfl⟩
    · rename_i hd
      obtain ⟨s, rfl, _, hs⟩ := DataW.trod_string hd ht
      exact ⟨[.str s], VRs_cons (by simp only [VR]) VRs_nil, by simp only [ShC, hd]; exact ⟨s, rfl, hs⟩, rfl⟩
    · rename_i e hd
      unfold DataW.trod at ht
      simp only [hd] at ht
      split at ht
      all_goals first | (rename_i h1 _; cases h1; done) | skip
      all_goals first | (rename_i h1; cases h1; done) | skip
      · rename_i e' h1; cases h1
        exact ⟨[.ro [] 0 false], VRs_cons (by simp only [VR]; exact .inr ⟨trivial, trivial, trivial⟩) VRs_nil, by simp only [ShC, hd]; exact ⟨[], rfl, Nat.zero_le _, by simp⟩, rfl⟩
      · rename_i e' a len cap h1; cases h1
        split at ht
        · rename_i hcond
          simp only [Option.bind_eq_some_iff] at ht
          obtain ⟨elems, hel, _⟩ := ht
          obtain ⟨g1, g2⟩ := mapM_get hel
          obtain ⟨els, l, r1, r2, r3, r4, r5⟩ := rows_of (W := W) (a := a) (k := P.cellsOf e) (Q := ShC P n e) len (fun i hi => by
            obtain ⟨y, hy, _⟩ := g2 i i (by simp [hi])
            simp only [Option.bind_eq_some_iff] at hy
            obtain ⟨cl, hcl, htr⟩ := hy
            obtain ⟨c1, c2⟩ := cells?_get hcl
            obtain ⟨xs, x1, x2, x3⟩ := trod_shape n fuel e cl y.1 y.2 hl htr
            exact ⟨cl, xs, c1, fun j hj => by rw [← c2 j hj, addr_add_add], x1, by omega, x2⟩)
          refine ⟨[.ro els.flatten els.length false], VRs_cons ?_ VRs_nil, ?_, rfl⟩
          · simp only [VR]
            refine .inl ?_
            exact ⟨a, cap, l, by rw [r1], by rw [r1]; exact hcond.2.1, by simp, r3, r4⟩
          · simp only [ShC, hd]
            exact ⟨els, rfl, by have := hcond.2; omega, r5⟩
        · cases ht
      · cases ht
    · rename_i fs hd
      simp only [Bool.and_eq_true] at hl
      unfold DataW.trod at ht
      simp only [hd] at ht
      split at ht
      · rename_i hlen
        simp only [Option.map_eq_some_iff] at ht
        obtain ⟨ys, hys, _⟩ := ht
        obtain ⟨g1, g2⟩ := mapM_get hys
        obtain ⟨xs, x1, x2⟩ := fields_of (P := P) (W := W) (Q := ShC P n) cs fs.toList 0 (by rw [hlen]; exact hl.1) (fun f hf => by
          obtain ⟨i, hi⟩ := List.mem_iff_getElem?.1 hf
          obtain ⟨y, hy, _⟩ := g2 i f hi
          obtain ⟨xs, x1, x2, x3⟩ := trod_shape n fuel f.type _ y.1 y.2 (List.all_eq_true.1 hl.2 f hf) hy
          exact ⟨xs, x1, x2, x3⟩) (Nat.zero_le _)
        simp only [List.drop_zero] at x1
        exact ⟨xs, x1, by simp only [ShC, hd]; exact x2, (VRs_length x1).symm⟩
      · cases ht
    · rename_i m e hd
      simp only [Bool.and_eq_true, beq_iff_eq] at hl
      unfold DataW.trod at ht
      simp only [hd] at ht
      split at ht
      · rename_i hlen
        simp only [Option.map_eq_some_iff] at ht
        obtain ⟨ys, hys, _⟩ := ht
        obtain ⟨g1, g2⟩ := mapM_get hys
        have hcs : cs.length = m * P.cellsOf e := by rw [hlen, hl.1]
        obtain ⟨els, e1, e2, e3⟩ := chunks_of (W := W) (k := P.cellsOf e) (Q := ShC P n e) (cs := cs) m (fun i hi => by
          obtain ⟨y, hy, _⟩ := g2 i i (by simp [hi])
          obtain ⟨xs, x1, x2, x3⟩ := trod_shape n fuel e _ y.1 y.2 hl.2 hy
          refine ⟨xs, x1, ?_, x2⟩
          have h1 : i * P.cellsOf e + P.cellsOf e ≤ m * P.cellsOf e := by rw [← Nat.succ_mul]; exact Nat.mul_le_mul_right _ hi
          rw [x3, List.length_take, List.length_drop]; omega)
        rw [List.take_of_length_le (by omega)] at e2
        exact ⟨els.flatten, e2, by simp only [ShC, hd]; exact ⟨els, rfl, e1, e3⟩, (VRs_length e2).symm⟩
      · cases ht
    · cases hl

/-- An argument. -/
def ArgSh (P : Program) (n : Nat) (t : TypeId) (x : AV) : Prop :=
  match P.underlying t with
  | some (.struct _) | some (.array ..) => ∃ xs, x = .agg xs ∧ ShC P n t xs
  | _ => ShC P n t [x]

theorem arg_shape {n : Nat} {t : TypeId} {v : Value} {d : DataW H} {p : List MemPlace} {r : Reach} {b0 : Nat} (hl : layOK P n t = true) (hval : Value.okWide P W r b0 t v) (ht : DataW.Trod enc P W 0 spare held t v d p) :
    ∃ x, VR W x v ∧ ArgSh P n t x := by
  have ht' := ht
  obtain ⟨fuel, hf⟩ := ht
  obtain ⟨xs, x1, x2, x3⟩ := trod_shape n fuel t _ d p hl hf
  cases n with
  | zero => simp [layOK] at hl
  | succ n =>
    simp only [layOK] at hl
    have one : ∀ v : Value, v.cells.toList = [v] → VRs W xs v.cells.toList → (∀ fs, P.underlying t ≠ some (.struct fs)) → (∀ m e, P.underlying t ≠ some (.array m e)) → ∃ x, VR W x v ∧ ArgSh P (n + 1) t x := by
      intro v hv hr hns hna
      rw [hv] at hr
      have hlen := VRs_length hr
      obtain ⟨x, rfl⟩ := List.length_eq_one_iff.1 hlen.symm
      refine ⟨x, (VRs_cons_inv hr).1, ?_⟩
      unfold ArgSh
      split
      · rename_i fs hd; exact absurd hd (hns fs)
      · rename_i m e hd; exact absurd hd (hna m e)
      · exact x2
    split at hl
    · rename_i hd
      obtain ⟨b, rfl, _⟩ := open_bool hd hval ht'
      exact one _ rfl x1 (fun fs h => by rw [hd] at h; cases h) (fun m e h => by rw [hd] at h; cases h)
    · rename_i k hd
      obtain ⟨i, rfl, _⟩ := open_int hd hval ht'
      exact one _ rfl x1 (fun fs h => by rw [hd] at h; cases h) (fun m e h => by rw [hd] at h; cases h)
    · rename_i hd
      obtain ⟨s, rfl, _⟩ := Go.ChangeMaps.open_string hd hval ht'
      exact one _ rfl x1 (fun fs h => by rw [hd] at h; cases h) (fun m e h => by rw [hd] at h; cases h)
    · rename_i e hd
      obtain ⟨a, len, cap, rfl⟩ := okWide_slice hd hval
      exact one _ rfl x1 (fun fs h => by rw [hd] at h; cases h) (fun m e h => by rw [hd] at h; cases h)
    · rename_i fs hd
      simp only [Value.okWide, hd] at hval
      obtain ⟨cs, rfl, _⟩ := hval
      refine ⟨.agg xs, by simp only [VR]; exact ⟨cs.toList, by simp, by simpa [Value.cells] using x1⟩, ?_⟩
      unfold ArgSh
      rw [hd]
      exact ⟨xs, rfl, x2⟩
    · rename_i m e hd
      simp only [Value.okWide, hd] at hval
      obtain ⟨cs, rfl, _⟩ := hval
      refine ⟨.agg xs, by simp only [VR]; exact ⟨cs.toList, by simp, by simpa [Value.cells] using x1⟩, ?_⟩
      unfold ArgSh
      rw [hd]
      exact ⟨xs, rfl, x2⟩
    · cases hl

/-- All arguments. -/
def ArgsSh (P : Program) (n : Nat) : List TypeId → List AV → Prop
  | [], xs => xs = []
  | t :: ts, xs => ∃ x ys, xs = x :: ys ∧ ArgSh P n t x ∧ ArgsSh P n ts ys

theorem args_shape {n : Nat} {r : Reach} {b0 : Nat} : ∀ (ts : List TypeId) (vs : List Value) (ds : List (DataW H)) (p : List MemPlace), ts.all (layOK P n) = true → (∀ (j : Nat) t v, ts[j]? = some t → vs[j]? = some v → Value.okWide P W r b0 t v) →
    DataW.TrodAll enc P W 0 spare held ts vs ds p → ∃ xs, VRs W xs vs ∧ ArgsSh P n ts xs
  | [], vs, ds, p, hl, hv, ht => by
    obtain ⟨rfl, rfl, rfl⟩ := trodAll_nil ht
    exact ⟨[], VRs_nil, rfl⟩
  | t :: ts, vs, ds, p, hl, hv, ht => by
    obtain ⟨v0, vs0, d0, ds0, p0, q0, rfl, rfl, rfl, h0, r0⟩ := trodAll_cons ht
    simp only [List.all_cons, Bool.and_eq_true] at hl
    obtain ⟨x, x1, x2⟩ := arg_shape hl.1 (hv 0 t v0 rfl rfl) h0
    obtain ⟨xs, y1, y2⟩ := args_shape ts vs0 ds0 q0 hl.2 (fun j t v h1 h2 => hv (j + 1) t v (by simpa using h1) (by simpa using h2)) r0
    exact ⟨x :: xs, VRs_cons x1 y1, x, xs, rfl, x2, y2⟩

theorem trodAll_below (hlo : laidOutB P = true) {W' : World} (hb : Below W.heap.size W W') : ∀ (ts : List TypeId) (vs : List Value) (ds : List (DataW H)) (p : List MemPlace), ts.all (fun t => P.readableRec t && decide (t < P.types.size)) = true →
    DataW.TrodAll enc P W 0 (fun _ => true) true ts vs ds p → DataW.TrodAll enc P W' 0 (fun b => decide (b < W.heap.size)) true ts vs ds p
  | [], vs, ds, p, hl, ht => by
    obtain ⟨rfl, rfl, rfl⟩ := trodAll_nil ht
    exact trodAll_mk0
  | t :: ts, vs, ds, p, hl, ht => by
    obtain ⟨v0, vs0, d0, ds0, p0, q0, rfl, rfl, rfl, h0, r0⟩ := trodAll_cons ht
    simp only [List.all_cons, Bool.and_eq_true, decide_eq_true_eq] at hl
    have lt0 : ∀ x ∈ p0, x.block < W.heap.size := by obtain ⟨m, hm⟩ := h0; exact DataW.trod_lt m _ _ _ hm
    exact trodAll_cons_mk (Below.trod hlo hl.1.1 hl.1.2 h0 hb lt0) (trodAll_below hlo hb ts vs0 ds0 q0 hl.2 r0)

theorem rel_emp {W : World} (hg : GlobsOk W) (hf : FixOk emp W) : Rel W emp W := ⟨fun _ _ e => e, fun x o h => (by cases h), hg, hf⟩

/-- A law's call, from its contract on abstract values. -/
theorem law_calls {f : FuncId} {args : List AV} {vs : Array Value} (hg : GlobsOk W) (hfx : FixOk emp W) (c : PureA P f args emp (.bool true)) (h : VRs W args vs.toList) : Calls P f vs W fun e W' => e = .returned (.bool true) ∧ Below W.heap.size W W' := by
  refine (c.2 W W vs (rel_emp hg hfx) h).mono ?_
  rintro e W' ⟨W1, v, r, h', rfl, hv, hr, hf, rfl, _⟩
  simp only [VR] at hv
  subst hv
  exact ⟨rfl, hf.os, hf.tape, hf.output, hf.size, fun k hk => (hf.kept k hk rfl).1⟩

end
end Go.Proofs.YteijaibggalapaaGreatDoor.E
