/-
  What every resolved operation does to the abstract state, and that the machine does the same.
-/
import Derived.Test.YteijaibggalapaaGreatDoorE5
import Derived.Laws.BytesArg
import Derived.Laws.IdiomStrings
namespace Go.Proofs.YteijaibggalapaaGreatDoor.E
open Go
set_option linter.unusedVariables false
set_option linter.unusedSimpArgs false

/-- A call's contract on abstract values. -/
def CallsA (P : Program) (f : FuncId) (args : List AV) (h : AHeap) (R : AV → AHeap → Prop) : Prop :=
  (∃ fn, P.funcs[f]? = some fn ∧ fn.body.isSome = true ∧ (fn.name == "runtime.NumGoroutine") = false) ∧
  ∀ (W0 w : World) (cargs : Array Value), Rel W0 h w → VRs W0 args cargs.toList →
    Calls P f cargs w fun e w' => ∃ W1 v r h', e = .returned v ∧ VR W1 r v ∧ Rel W1 h' w' ∧ Fr W0 h w W1 h' w' ∧ R r h'

theorem CallsA.mono {P : Program} {f : FuncId} {args : List AV} {h : AHeap} {R R' : AV → AHeap → Prop} (c : CallsA P f args h R) (hr : ∀ r h', R r h' → R' r h') : CallsA P f args h R' :=
  ⟨c.1, fun W0 w cargs hrel hargs => (c.2 W0 w cargs hrel hargs).mono fun e w' ⟨W1, v, r, h', h1, h2, h3, h4, h5⟩ => ⟨W1, v, r, h', h1, h2, h3, h4, hr _ _ h5⟩⟩

/-- The contract of a function that the model itself answers. -/
def ExtA (P : Program) (f : FuncId) (args : List AV) (h : AHeap) (R : AV → AHeap → Prop) : Prop :=
  ∃ fn e, P.funcs[f]? = some fn ∧ (fn.name == "runtime.NumGoroutine") = false ∧ fn.body.isNone = true ∧ Extern.findNext fn = none ∧ Extern.find fn = some e ∧
  ∀ (W0 w : World) (cargs : Array Value), Rel W0 h w → VRs W0 args cargs.toList →
    ∃ W1 v r h' w', (e cargs).run P w = .ok v w' ∧ VR W1 r v ∧ Rel W1 h' w' ∧ Fr W0 h w W1 h' w' ∧ R r h'

theorem ExtA.mono {P : Program} {f : FuncId} {args : List AV} {h : AHeap} {R R' : AV → AHeap → Prop} (c : ExtA P f args h R) (hr : ∀ r h', R r h' → R' r h') : ExtA P f args h R' := by
  obtain ⟨fn, e, h1, h2, h3, h4, h5, k⟩ := c
  refine ⟨fn, e, h1, h2, h3, h4, h5, fun W0 w cargs hrel hargs => ?_⟩
  obtain ⟨W1, v, r, h', w', k1, k2, k3, k4, k5⟩ := k W0 w cargs hrel hargs
  exact ⟨W1, v, r, h', w', k1, k2, k3, k4, hr _ _ k5⟩

def CallsX (P : Program) (f : FuncId) (args : List AV) (h : AHeap) (R : AV → AHeap → Prop) : Prop := CallsA P f args h R ∨ ExtA P f args h R
theorem CallsX.mono {P : Program} {f : FuncId} {args : List AV} {h : AHeap} {R R' : AV → AHeap → Prop} (c : CallsX P f args h R) (hr : ∀ r h', R r h' → R' r h') : CallsX P f args h R' :=
  c.imp (fun c => c.mono hr) fun c => c.mono hr

/-- A call; blocks of one's own may be laid still ahead of it. -/
def callF (P : Program) (f : FuncId) (args : List AV) (h : AHeap) (R : AV → AHeap → Prop) : Prop :=
  ∃ h' args', FzH h h' ∧ FzL h h' args args' ∧ CallsX P f args' h' R
/-- The same of a function that has a body. -/
def callB (P : Program) (f : FuncId) (args : List AV) (h : AHeap) (R : AV → AHeap → Prop) : Prop :=
  ∃ h' args', FzH h h' ∧ FzL h h' args args' ∧ CallsA P f args' h' R

theorem CallsA.go {P : Program} {f : FuncId} {args : List AV} {h : AHeap} {R : AV → AHeap → Prop} (c : CallsA P f args h R) : callF P f args h R := ⟨h, args, .refl h, .refl _ _ _, .inl c⟩
theorem CallsA.goB {P : Program} {f : FuncId} {args : List AV} {h : AHeap} {R : AV → AHeap → Prop} (c : CallsA P f args h R) : callB P f args h R := ⟨h, args, .refl h, .refl _ _ _, c⟩
theorem ExtA.go {P : Program} {f : FuncId} {args : List AV} {h : AHeap} {R : AV → AHeap → Prop} (c : ExtA P f args h R) : callF P f args h R := ⟨h, args, .refl h, .refl _ _ _, .inr c⟩
theorem ExtA.use {P : Program} {f : FuncId} {args : List AV} {h : AHeap} {R K : AV → AHeap → Prop} (c : ExtA P f args h R) (k : ∀ r h', R r h' → K r h') : callF P f args h K := (c.mono k).go

def awrite (h : AHeap) (p : AV) (l : List AV) : Option AHeap :=
  match p with
  | .ptr id off => match h id with
    | some (.cells cs tot) => if off + l.length ≤ cs.length then some (upd h id (.cells (splice cs off l) tot)) else none
    | _ => none
  | _ => none

/-- A slice's cells. -/
def acells (h : AHeap) (esz : Nat) : AV → Option (List AV)
  | .nils | .rz => some []
  | .ro cs len _ => if cs.length = len * esz then some cs else none
  | .sl id off len _ => match h id with
    | some (.cells cs _) => if off + len * esz ≤ cs.length then some ((cs.drop off).take (len * esz)) else none
    | _ => none
  | _ => none

def slen : AV → Nat
  | .ro _ n _ | .sl _ _ n _ => n
  | _ => 0

def zrep (z : List AV) (n : Nat) : List AV := (List.range (n * z.length)).map fun i => z.getD (i % z.length) .undef

def grows (h : AHeap) (esz need : Nat) (cells : List AV) (K : AV → AHeap → Prop) : Prop :=
  ∀ id cap, h id = none → need ≤ cap → K (.sl id 0 need cap) (upd h id (.cells cells (cap * esz)))

def appendA (h : AHeap) (esz bytes : Nat) (x y : AV) (K : AV → AHeap → Prop) : Prop :=
  ∃ old new, acells h esz x = some old ∧ acells h esz y = some new ∧ (slen x + slen y) * bytes ≤ 70368744177664 ∧
    (slen y = 0 → K x h) ∧
    (slen y ≠ 0 → match x with
      | .nils => grows h esz (slen y) new K
      | .ro _ n true => grows h esz (n + slen y) (old ++ new) K
      | .sl id off n cap => ∃ cs tot, h id = some (.cells cs tot) ∧ off + cap * esz ≤ tot ∧
          (n + slen y ≤ cap → new.all scalar = true ∧ K (.sl id off (n + slen y) cap) (upd h id (.cells (splice cs (off + n * esz) new) tot))) ∧
          (cap < n + slen y → grows h esz (n + slen y) (old ++ new) K ∨ grows (del h id) esz (n + slen y) (old ++ new) K)
      | _ => False)

/-- 'append(x, make(T, n)...)'. -/
def appendNA (h : AHeap) (esz bytes : Nat) (z : List AV) (x n : AV) (K : AV → AHeap → Prop) : Prop :=
  match n with
  | .int .i64 m => ∃ old, acells h esz x = some old ∧ 0 ≤ m ∧ (slen x + m.toNat) * bytes ≤ 70368744177664 ∧
    match x with
    | .nils => (m.toNat = 0 → K .nils h) ∧ (m.toNat ≠ 0 → grows h esz m.toNat (zrep z m.toNat) K)
    | .sl id off len cap => ∃ cs tot, h id = some (.cells cs tot) ∧ off + cap * esz ≤ tot ∧
        (len + m.toNat ≤ cap → (zrep z m.toNat).all scalar = true ∧ K (.sl id off (len + m.toNat) cap) (upd h id (.cells (splice cs (off + len * esz) (zrep z m.toNat)) tot))) ∧
        (cap < len + m.toNat → grows h esz (len + m.toNat) (old ++ zrep z m.toNat) K ∨ grows (del h id) esz (len + m.toNat) (old ++ zrep z m.toNat) K)
    | _ => False
  | _ => False

def copyA (h : AHeap) (esz : Nat) (x y : AV) (K : AV → AHeap → Prop) : Prop :=
  ∃ new, acells h esz y = some new ∧
    match x with
    | .nils => K (.int .i64 0) h
    | .sl id off n _ => ∃ cs tot, h id = some (.cells cs tot) ∧ off + n * esz ≤ cs.length ∧ (new.take (Nat.min (slen y) n * esz)).all scalar = true ∧
        K (.int .i64 (Nat.min (slen y) n : Nat)) (upd h id (.cells (splice cs off (new.take (Nat.min (slen y) n * esz))) tot))
    | _ => False

/-- Bytes that stand in cells. -/
def u8s : List AV → Option (List Int)
  | [] => some []
  | .int .u8 n :: l => (u8s l).map (n :: ·)
  | _ => none

def clearA (h : AHeap) (z : List AV) (x : AV) (K : AV → AHeap → Prop) : Prop :=
  match x with
  | .nils => K (.tup []) h
  | .sl id off n _ => ∃ cs tot, h id = some (.cells cs tot) ∧ off + n * z.length ≤ cs.length ∧ (zrep z n).all scalar = true ∧
      K (.tup []) (upd h id (.cells (splice cs off (zrep z n)) tot))
  | _ => False

/-! ### Maps -/

def keyEq : KK → AV → AV → Option Bool
  | .c k, x, y => eqCell k x y
  | .a n k, .agg xs, .agg ys => eqCells (List.replicate n k) xs ys
  | _, _, _ => none

/-- A value that may be a key. -/
def keyOk : KK → AV → Bool
  | .c .i, .int .. | .c .b, .bool _ | .c .s, .str _ => true
  | .a n _, .agg xs => xs.length == n && xs.all scalar
  | _, _ => false

abbrev Ents := List (AV × AV × Nat)

def mfind (kk : KK) (k : AV) : Ents → Nat → Option (Option (Nat × AV))
  | [], _ => some none
  | e :: es, i => match keyEq kk k e.1 with
    | some true => some (some (i, e.2.1))
    | some false => mfind kk k es (i + 1)
    | none => none

def ments (h : AHeap) : AV → Option (Option Nat × Ents × Nat)
  | .nilm => some (none, [], 0)
  | .map id => match h id with
    | some (.map es c) => some (some id, es, c)
    | _ => none
  | _ => none

def mres (ok : Bool) (v : AV) (b : Bool) : AV := if ok then .tup [v, .bool b] else v

/-- What an operation on a map yields, and the block that it leaves. -/
def mapF (h : AHeap) : MapOp → List AV → Option (AV × Option (Nat × AObj))
  | .get kk z ok, [m, k] => match ments h m with
    | some (_, es, _) => if keyOk kk k then (match mfind kk k es 0 with
      | some (some (_, v)) => some (mres ok v true, none)
      | some none => some (mres ok z false, none)
      | none => none) else none
    | none => none
  | .put kk, [m, k, v] => match ments h m with
    | some (some id, es, c) => if keyOk kk k then (match mfind kk k es 0 with
      | some (some (i, _)) => some (.undef, some (id, .map (es.modify i fun e => (k, v, e.2.2)) c))
      | some none => some (.undef, some (id, .map (es ++ [(k, v, c)]) (c + 1)))
      | none => none) else none
    | _ => none
  | .del kk, [m, k] => match ments h m with
    | some (o, es, c) => if keyOk kk k then (match mfind kk k es 0 with
      | some (some (i, _)) => some (.tup [], o.map fun id => (id, .map (es.eraseIdx i) c))
      | some none => some (.tup [], o.map fun id => (id, .map es c))
      | none => none) else none
    | none => none
  | .len, [m] => (ments h m).map fun e => (.int .i64 e.2.1.length, none)
  | .clr, [m] => (ments h m).map fun e => (.tup [], e.1.map fun id => (id, .map [] e.2.2))
  | _, _ => none

def after (h : AHeap) : Option (Nat × AObj) → AHeap
  | none => h
  | some (id, o) => upd h id o

def mapA (h : AHeap) (mo : MapOp) (xs : List AV) (K : AV → AHeap → Prop) : Prop := ∃ r, mapF h mo xs = some r ∧ K r.1 (after h r.2)

def aw (P : Program) (o : AOp) (K : AV → AHeap → Prop) (s : List AV) (h : AHeap) : Prop :=
  match o with
  | .alloc z => ∀ id, h id = none → K (.ptr id 0) (upd h id (.cells z z.length))
  | .box x => ∃ l, cellsOf (ev s x) = some l ∧ ∀ id, h id = none → K (.ptr id 0) (upd h id (.cells l l.length))
  | .buildSlice esz ps => ∃ l, catA s esz ps = some l ∧ ∀ id, h id = none → K (.sl id 0 ps.length ps.length) (upd h id (.cells l l.length))
  | .load g n x => ∃ v, (if g then (aloads h n (ev s x)).map .agg else aload h (ev s x)) = some v ∧ K v h
  | .loadG _ k => ∀ n, K (.int k n) h
  | .b2s x => ∃ cs xs, acells h 1 (ev s x) = some cs ∧ u8s cs = some xs ∧ K (.str (strOfNums xs)) h
  | .store n x v => ∃ l h', cellsOf (ev s v) = some l ∧ l.length = n ∧ l.all scalar = true ∧ awrite h (ev s x) l = some h' ∧ K .undef h'
  | .storeF n x v => ∃ id cs tot l, ev s x = .ptr id 0 ∧ h id = some (.cells cs tot) ∧ cellsOf (ev s v) = some l ∧ l.length = n ∧ l.all scalar = true ∧ cs.length = n ∧ K (.rp l) (del h id)
  | .makeSlice bytes z l c => ∃ n m : Nat, ev s l = .int .i64 n ∧ ev s c = .int .i64 m ∧ n ≤ m ∧ bytes * m ≤ 70368744177664 ∧ m < 9223372036854775807 ∧
      ∀ id, h id = none → K (.sl id 0 n m) (upd h id (.cells (zrep z m) (m * z.length)))
  | .call f args => match ev s f with
    | .fn g cap => callF P g (args.map (ev s) ++ cap) h K
    | .bd g first => callF P g (first ++ args.map (ev s)) h K
    | _ => False
  | .append esz bytes x y => appendA h esz bytes (ev s x) (ev s y) K
  | .appendN esz bytes z x n => appendNA h esz bytes z (ev s x) (ev s n) K
  | .copy esz x y => copyA h esz (ev s x) (ev s y) K
  | .clear z x => clearA h z (ev s x) K
  | .mkMap => ∀ id, h id = none → K (.map id) (upd h id (.map [] 0))
  | .mapOp mo xs => mapA h mo (xs.map (ev s)) K
  | o => ∃ v, pv s o = some v ∧ K v h

section
variable {P : Program} {W0 : World} {s : List AV} {a : Act}

theorem alloc_rel {h : AHeap} {w : World} (r : Rel W0 h w) {o : AObj} {obj : Obj} (ho : OR W0 o obj) :
    Rel W0 (upd h w.heap.size o) { w with heap := w.heap.push obj } ∧ Fr W0 h w W0 (upd h w.heap.size o) { w with heap := w.heap.push obj } := by
  refine ⟨⟨fun p v e => ?_, fun x o' hx => ?_, r.glob, r.fix.kept ?k⟩, ⟨rfl, rfl, rfl, Nat.le_refl _, by simp, ?k, fun b hb hn => ?_, fun p v e => e, fun p v e => .inl e⟩⟩
  · have e2 := r.base p v e
    have hlt := cell_lt e2
    rw [← e2]
    simp only [World.cell?]
    rw [Array.getElem?_push_lt hlt, Array.getElem?_eq_getElem hlt]
  · unfold upd at hx
    split at hx
    · rename_i e; cases hx; subst e
      refine ⟨fun p hp => ?_, obj, by simp, ho⟩
      cases e : W0.cell? p with
      | none => rfl
      | some v => have := cell_lt (r.base p v e); omega
    · obtain ⟨h1, obj', h2, h3⟩ := r.live x o' hx
      have hlt := r.lt hx
      refine ⟨h1, obj', ?_, h3⟩
      show (w.heap.push obj)[x]? = _
      rw [Array.getElem?_push_lt hlt, ← h2, Array.getElem?_eq_getElem hlt]
  · intro b hb hn
    refine ⟨?_, ?_⟩
    · show (w.heap.push obj)[b]? = _
      rw [Array.getElem?_push_lt hb, Array.getElem?_eq_getElem hb]
    · unfold upd; rw [if_neg (by omega)]; exact hn
  · unfold upd at hn; rw [if_neg (by omega)] at hn; exact hn

theorem fresh_ok {h : AHeap} {w : World} (r : Rel W0 h w) : h w.heap.size = none := r.none_of_ge (Nat.le_refl _)

theorem OR_new {l : List AV} {us : List Value} (h : VRs W0 l us) (t : TypeId) : OR W0 (.cells l l.length) (.cells us.toArray t) := by
  simp only [OR]; exact ⟨us, [], t, by simp, by simp [VRs_length h], h⟩

/-- Cells that are stored, one behind the other. -/
theorem storeCells_run : ∀ (vs : List Value) (x off i : Nat) (w : World) (c : Array Value) (t : TypeId), w.heap[x]? = some (.cells c t (0, 0)) → off + i + vs.length ≤ c.size → (∀ v ∈ vs, v.oneCell' = true) →
    ∃ w', (storeCells ⟨x, off, none⟩ vs i).run P w = .ok () w' ∧ (w'.os = w.os ∧ w'.tape = w.tape ∧ w'.output = w.output ∧ w'.drawn = w.drawn) ∧ w'.heap.size = w.heap.size ∧ (∀ b, b ≠ x → w'.heap[b]? = w.heap[b]?) ∧
      w'.heap[x]? = some (.cells (c.toList.take (off + i) ++ vs ++ c.toList.drop (off + i + vs.length)).toArray t (0, 0))
  | [], x, off, i, w, c, t, h, hl, hv => ⟨w, by simp [storeCells], ⟨rfl, rfl, rfl, rfl⟩, rfl, fun _ _ => rfl, by simpa using h⟩
  | v :: vs, x, off, i, w, c, t, h, hl, hv => by
    simp only [List.length_cons] at hl
    have hx : x < w.heap.size := by
      rcases Nat.lt_or_ge x w.heap.size with h' | h'
      · exact h'
      · simp [Array.getElem?_eq_none h'] at h
    have hc : w.cell? ⟨x, off + i, none⟩ = c[off + i]? := by simp [World.cell?, h]
    have hcs : c[off + i]? = some c[off + i] := Array.getElem?_eq_getElem (by omega)
    have hf : w.frozen? ⟨x, off + i, none⟩ = false := by simp [World.frozen?, h]
    have hst : (store ⟨x, off + i, none⟩ v).run P w = .ok () (w.setCell ⟨x, off + i, none⟩ v) := by
      rw [run_store P w _ v .plain (hv v (by simp)), hc, hcs]; simp [hf]
    have h1 : (w.setCell ⟨x, off + i, none⟩ v).heap[x]? = some (.cells (c.setIfInBounds (off + i) v) t (0, 0)) := by
      simp only [World.setCell]; rw [Array.getElem?_modify]; simp [h]
    obtain ⟨w', e1, e0, e2, e3, e4⟩ := storeCells_run vs x off (i + 1) (w.setCell ⟨x, off + i, none⟩ v) (c.setIfInBounds (off + i) v) t h1 (by simp; omega) (fun u hu => hv u (by simp [hu]))
    refine ⟨w', ?_, e0, ?_, fun b hb => ?_, ?_⟩
    · simp only [storeCells, Sem.run_bind, addr_add, hst, Result.andThen_ok]; exact e1
    · rw [e2]; simp
    · rw [e3 b hb]; simp only [World.setCell]; rw [Array.getElem?_modify]; simp [Ne.symm hb]
    · rw [e4]
      congr 3
      simp only [Array.toList_setIfInBounds, List.length_cons]
      have t1 : (c.toList.set (off + i) v).take (off + (i + 1)) = c.toList.take (off + i) ++ [v] := by
        rw [show off + (i + 1) = off + i + 1 by omega, List.take_succ_eq_append_getElem (by simp; omega)]
        simp [List.take_set_of_le]
      have t2 : (c.toList.set (off + i) v).drop (off + (i + 1) + vs.length) = c.toList.drop (off + i + (vs.length + 1)) := by
        rw [List.drop_set_of_lt (by omega)]; congr 1; omega
      rw [t1, t2]; simp

theorem all_scalar {l : List AV} {us : List Value} (h : VRs W0 l us) (hs : l.all scalar = true) : ∀ v ∈ us, v.oneCell' = true := by
  intro v hv
  obtain ⟨i, hi⟩ := List.mem_iff_getElem?.1 hv
  have hlen := VRs_length h
  have hlt := (List.getElem?_eq_some_iff.1 hi).1
  obtain ⟨u, hu, hr⟩ := VRs_get h i l[i] (List.getElem?_eq_getElem (by omega))
  rw [hi] at hu; cases hu
  exact scalar_sound (List.all_eq_true.1 hs _ (List.getElem_mem _)) hr

/-- Cells stored into a block that is held. The known cells may end within what is stored. -/
theorem write_rel {h : AHeap} {w : World} (r : Rel W0 h w) {x off tot : Nat} {cs l : List AV} {us : List Value} (hx : h x = some (.cells cs tot)) (hl : VRs W0 l us) (hs : l.all scalar = true)
    (hoff : off ≤ cs.length) (htot : off + l.length ≤ tot) :
    ∃ w', (storeCells ⟨x, off, none⟩ us).run P w = .ok () w' ∧ Rel W0 (upd h x (.cells (splice cs off l) tot)) w' ∧ Fr W0 h w W0 (upd h x (.cells (splice cs off l) tot)) w' := by
  obtain ⟨cl, rest, t, ho, ht, hcl, hlt, hge⟩ := r.cells hx
  have hlen := VRs_length hl
  have hcll := VRs_length hcl
  obtain ⟨w', e1, e0, e2, e3, e4⟩ := storeCells_run (P := P) us x off 0 w _ t ho (by simp; omega) (all_scalar hl hs)
  refine ⟨w', e1, ⟨fun p v e => ?_, fun y o hy => ?_, r.glob, r.fix.kept ?k⟩, ⟨e0.1, e0.2.1, e0.2.2.1, dr_le (Nat.le_of_eq e0.2.2.2.symm), by omega, ?k, fun b hb hn => ?_, fun p v e => e, fun p v e => .inl e⟩⟩
  · have hne : p.block ≠ x := fun hp => by rw [hge p hp] at e; cases e
    rw [← r.base p v e]
    simp only [World.cell?, e3 _ hne]
  · unfold upd at hy
    split at hy
    · rename_i e; cases hy; subst e
      refine ⟨hge, _, e4, ?_⟩
      simp only [OR, Nat.add_zero]
      refine ⟨cl.take off ++ us ++ cl.drop (off + us.length), if off + us.length ≤ cl.length then rest else rest.drop (off + us.length - cl.length), t, ?_, ?_, ?_⟩
      · congr 2
        simp only [List.take_append, List.drop_append]
        have : off - cl.length = 0 := by omega
        rw [this]
        split
        · rename_i hle; rw [show off + us.length - cl.length = 0 by omega]; simp
        · simp
      · simp only [List.length_append, List.length_take, List.length_drop]
        split
        · omega
        · simp only [List.length_drop]; omega
      · unfold splice; rw [← hlen]
        exact VRs_append (VRs_append (VRs_take hcl _) hl) (VRs_drop hcl _)
    · rename_i hne
      obtain ⟨h1, obj, h2, h3⟩ := r.live y o hy
      exact ⟨h1, obj, by rw [e3 y hne]; exact h2, h3⟩
  · intro b hb hn
    have : b ≠ x := by rintro rfl; rw [hx] at hn; cases hn
    refine ⟨e3 b this, ?_⟩
    unfold upd; rw [if_neg this]; exact hn
  · unfold upd at hn
    split at hn
    · rename_i e; subst e; rw [hx]; simp
    · exact hn

theorem cat_fill (hs : VRs W0 s a.tmps.toList) {esz : Nat} : ∀ (ps : List (Nat × Operand)) (k : Nat) (ys : List AArg) (l : List AV) (pre post : List Value), cElems k ps = some ys → catA s esz ys = some l →
    pre.length = k * esz → post.length = ys.length * esz →
      ∃ us, VRs W0 l us ∧ Instr.fill (fun i => some (i * esz, esz)) (pre ++ post).toArray (ps.map fun p => (p.1, a.eval p.2)) = some (pre ++ us).toArray
  | [], k, ys, l, pre, post, hq, hc, h1, h2 => by
    simp [cElems] at hq; subst hq; simp [catA] at hc; subst hc
    simp at h2; subst h2
    exact ⟨[], VRs_nil, by simp [Instr.fill]⟩
  | (i, x) :: ps, k, ys, l, pre, post, hq, hc, h1, h2 => by
    simp only [cElems] at hq
    split at hq
    · rename_i hik
      subst hik
      split at hq
      · rename_i y ys' hy hys
        cases hq
        simp only [catA] at hc
        split at hc
        · rename_i l1 l2 e1 e2
          split at hc
          · rename_i hlen
            cases hc
            have hcs := cellsOf_sound e1 (cArg_sound hs hy)
            have hsz : (a.eval x).cells.size = esz := by have := VRs_length hcs; simp at this; omega
            simp only [List.length_cons, Nat.succ_mul] at h2
            obtain ⟨us, hus, hf⟩ := cat_fill hs ps (i + 1) ys' l2 (pre ++ (a.eval x).cells.toList) (post.drop esz) hys e2 (by simp [h1, hsz, Nat.succ_mul]) (by simp; omega)
            refine ⟨(a.eval x).cells.toList ++ us, VRs_append hcs hus, ?_⟩
            simp only [List.map_cons, Instr.fill, hsz]
            have hc : ¬ (decide (esz ≠ esz) || decide (i * esz + esz > (pre ++ post).toArray.size)) = true := by simp; omega
            rw [if_neg hc]
            have sf := set_fold (a.eval x).cells.toList (i * esz) 0 (pre ++ post).toArray (by simp; omega)
            have hfold : (Array.foldl (fun cs (c : Value × Nat) => cs.setIfInBounds (i * esz + c.2) c.1) (pre ++ post).toArray (a.eval x).cells.zipIdx) = (pre ++ (a.eval x).cells.toList ++ post.drop esz).toArray := by
              apply Array.ext'
              rw [← Array.foldl_toList, Array.toList_zipIdx, sf]
              simp only [Nat.add_zero, ← h1, List.take_left]
              have : (a.eval x).cells.toList.length = esz := by simpa using hsz
              rw [this, List.drop_append]
              simp [List.drop_of_length_le]
            have : (fun cs (x_1 : Value × Nat) => match x_1 with | (c, j) => cs.setIfInBounds (i * esz + j) c) = (fun (cs : Array Value) (c : Value × Nat) => cs.setIfInBounds (i * esz + c.2) c.1) := rfl
            rw [this, hfold]
            rw [hf]; simp
          · cases hc
        · cases hc
      · cases hq
    · cases hq

end
end Go.Proofs.YteijaibggalapaaGreatDoor.E
