/-
  Code on abstract states: 'exec' is a proposition that the machine's run follows.
-/
import Derived.Test.YteijaibggalapaaGreatDoorEI
namespace Go.Proofs.YteijaibggalapaaGreatDoor.E
open Go
set_option linter.unusedVariables false
set_option linter.unusedSimpArgs false

inductive ACode where
  | skip
  | reg (ops : List AOper)
  | regD (ops : List DOper)
  | seq (a b : ACode)
  | cond (c : AArg) (x y : ACode)
  | block (id : Nat) (c : ACode)
  | loop (c : ACode)
  | exit (id : Nat)
  | ret
  | regX (ops : List AOper)
  | rangeF (g : AArg) (ps : List Nat) (asg bd : ACode)
  | bad

abbrev PostA := Exit → List AV → AHeap → Prop

def thenA (K : List AV → AHeap → Prop) (Q : PostA) : PostA
  | .normal, s, h => K s h
  | e, s, h => Q e s h
def blockA (id : Nat) (Q : PostA) : PostA
  | .exit i, s, h => if i = id then Q .normal s h else Q (.exit i) s h
  | e, s, h => Q e s h

/-- Blocks of one's own may be laid still here. -/
def frzA (K : List AV → AHeap → Prop) (s : List AV) (h : AHeap) : Prop := ∃ s' h', FzH h h' ∧ FzL h h' s s' ∧ K s' h'

/-- A loop's end. -/
def blockF (id : Nat) (Q : PostA) : PostA
  | .exit i, s, h => if i = id then frzA (Q .normal) s h else Q (.exit i) s h
  | e, s, h => Q e s h

/-- What is asked at a block's end: behind a loop blocks of one's own may be laid still. -/
def blockQ : ACode → Nat → PostA → PostA
  | .loop _, id, Q => blockF id Q
  | _, id, Q => blockA id Q

/-- Slots that nobody reads any more. -/
def kill (ds : List Nat) (s : List AV) : List AV := ds.foldl (fun s d => s.set d .undef) s

/-- A loop: a relation with a number that every round lowers; the slots 'ds' are forgotten at its head; ahead of it blocks of one's own may be laid still. -/
def loopA (body : PostA → List AV → AHeap → Prop) (Q : PostA) (s : List AV) (h : AHeap) : Prop :=
  ∃ (J : Nat → List AV → AHeap → Prop) (n₀ : Nat) (ds : List Nat) (s₀ : List AV) (h₀ : AHeap), FzH h h₀ ∧ FzL h h₀ (kill ds s) s₀ ∧ J n₀ s₀ h₀ ∧
    ∀ n s h, J n s h → body (thenA (fun s' h' => ∃ n' s₁ h₁, n' < n ∧ FzH h' h₁ ∧ FzL h' h₁ (kill ds s') s₁ ∧ J n' s₁ h₁) Q) s h

def condA (x y : PostA → List AV → AHeap → Prop) (Q : PostA) (s : List AV) (h : AHeap) (t : Bool) : Prop := (t = true → x Q s h) ∧ (t = false → y Q s h)

def awOperX (P : Program) (o : AOper) (K : List AV → AHeap → Prop) (s : List AV) (h : AHeap) : Prop :=
  match o.guard with
  | none => awX P o.op (kput K s o.dst) s h
  | some (t, want) => match s.getD t .undef with
    | .bool b => (b = want → awX P o.op (kput K s o.dst) s h) ∧ (b = !want → K (put s o.dst (.tup [])) h)
    | .tup [] => K (put s o.dst (.tup [])) h
    | _ => False
def awOpsX (P : Program) : List AOper → (List AV → AHeap → Prop) → List AV → AHeap → Prop
  | [], K, s, h => K s h
  | o :: l, K, s, h => awOperX P o (awOpsX P l K) s h

def setps : List Nat → List AV → List AV → List AV
  | [], _, s => s
  | _, [], s => s
  | p :: ps, x :: xs, s => setps ps xs (s.set p x)

/-- A loop over a function: a block of one's own holds its record; each round goes to its end. -/
def rangeA (P : Program) (f : FuncId) (cap : List AV) (ps : List Nat) (as bs : PostA → List AV → AHeap → Prop) (Q : PostA) (s : List AV) (h : AHeap) : Prop :=
  ∀ (l : Nat) (m1 m2 : Array Value → Obj), h l = none →
    (∀ (xs : List AV) (h1 : AHeap) (R : AHeap → Prop), xs.length = ps.length → h1 l = some (.lp s m1) →
      as (thenA (fun s1 h2 => h2 l = some (.lp s m1) ∧ bs (thenA (fun _ h3 => h3 l = some (.lp s m2) ∧ R (upd h3 l (.lp s m1))) (fun _ _ _ => False)) s1 (upd h2 l (.lp s m2))) (fun _ _ _ => False)) (setps ps xs s) h1 → YldA P l xs h1 R) →
    callB P f (.yld l :: cap) (upd h l (.lp s m1)) (fun _ h' => h' l = some (.lp s m1) ∧ Q .normal s (del h' l))

def exec (P : Program) : ACode → PostA → List AV → AHeap → Prop
  | .skip, Q, s, h => Q .normal s h
  | .reg ops, Q, s, h => awOps P ops (Q .normal) s h
  | .regD ops, Q, s, h => awD P ops [] (Q .normal) s h
  | .seq a b, Q, s, h => exec P a (thenA (exec P b Q) Q) s h
  | .cond c x y, Q, s, h => match ev s c with
    | .bool t => condA (exec P x) (exec P y) Q s h t
    | _ => False
  | .block id c, Q, s, h => exec P c (blockQ c id Q) s h
  | .loop c, Q, s, h => loopA (exec P c) Q s h
  | .exit id, Q, s, h => Q (.exit id) s h
  | .ret, Q, s, h => Q .ret s h
  | .regX ops, Q, s, h => awOpsX P ops (Q .normal) s h
  | .rangeF g ps as bs, Q, s, h => match ev s g with
    | .fn f cap => rangeA P f cap ps (exec P as) (exec P bs) Q s h
    | _ => False
  | .bad, _, _, _ => False

def noRF : Code → Bool
  | .seq a b | .cond _ a b => noRF a && noRF b
  | .block _ c | .loop c | .scope c => noRF c
  | .rangeFunc .. => false
  | _ => true

def notDefer (o : Oper) : Bool := match o.op with
  | .defer _ => false
  | _ => true

def cCode (P : Program) (F : List Nat) : Code → Option ACode
  | .skip => some .skip
  | .label _ => some .skip
  | .region _ ops false => if hasX F ops then (cOpersX P F ops ops.toList).map .regX else (cOpers P F ops ops.toList).map .reg
  | .region _ ops true => if P.follows .mixedOrders && ops.toList.all notDefer then (cRegD P F ops).map .regD else none
  | .seq a b => match cCode P F a, cCode P F b with | some x, some y => some (.seq x y) | _, _ => none
  | .cond c a b => match cArg c, cCode P F a, cCode P F b with | some c, some x, some y => some (.cond c x y) | _, _, _ => none
  | .block id c => (cCode P F c).map (.block id)
  | .loop c => (cCode P F c).map .loop
  | .exit id => some (.exit id)
  | .scope c => cCode P F c
  | .ret => some .ret
  | .rangeFunc g ps as bs => match cArg g, cCode P F as, cCode P F bs with
    | some g, some x, some y => if noRF as && noRF bs then some (.rangeF g ps.toList x y) else none
    | _, _, _ => none
  | .goto _ | .refuse _ => some .bad

theorem kill_sound {W0 : World} : ∀ (ds : List Nat) {s : List AV} {l : List Value}, VRs W0 s l → VRs W0 (kill ds s) l
  | [], s, l, h => h
  | d :: ds, s, l, h => by
    refine kill_sound ds (s := s.set d .undef) ?_
    cases hv : l[d]? with
    | none =>
      have : l.length ≤ d := by simpa using hv
      rw [List.set_eq_of_length_le (by rw [← VRs_length h]; exact this)]; exact h
    | some v =>
      have e : l.set d v = l := by
        have hlt := (List.getElem?_eq_some_iff.1 hv).1
        rw [← (List.getElem?_eq_some_iff.1 hv).2]; exact List.set_getElem_self hlt
      rw [← e]; exact VRs_set h d (by simp only [VR])

section
variable {P : Program} {F : List Nat} {ro : Option Nat} {b : Nat}

theorem awOps_sound {ops : Array Oper} {Q : Exit → Act → World → Prop} : ∀ (l : List Oper) (al : List AOper) (K : List AV → AHeap → Prop) (W0 : World) (s : List AV) (h : AHeap) (a : Act) (w : World), cOpers P F ops l = some al → awOps P al K s h → L b W0 s h a w →
    (∀ W1 s' h' a' w', L b W1 s' h' a' w' → Fr W0 h w W1 h' w' → K s' h' → Q .normal a' w') → wpListIn (FW ro) 0 P ops Q l a w
  | [], al, K, W0, s, h, a, w, hc, hk, hl, hq => by
    simp [cOpers] at hc; subst hc
    exact hq W0 s h a w hl (Fr.refl _ _ _) hk
  | o :: l, al, K, W0, s, h, a, w, hc, hk, hl, hq => by
    simp only [cOpers] at hc
    split at hc <;> cases hc
    rename_i ao al' h1 h2
    obtain ⟨ao0, hop, hfz, hdst, hg⟩ := guard_spec h1
    have step : aw P ao.op (fun v h' => awOps P al' K (put s ao.dst v) h') s h → o.wpIn (FW ro) 0 P a w (wpListIn (FW ro) 0 P ops Q l) Q := fun k => by
      rw [hfz] at k
      refine plain_sound (q := fzOp F o.dst ao0) (by rw [hop]; rfl) hl.slots hl.rel (aw_awX k) fun W1 v u h' w' hu hr hf kk => ?_
      rw [← hdst] at hu
      exact awOps_sound l al' K W1 _ h' _ w' h2 kk ⟨hu, by rw [put_defers]; exact hl.defers.fr hf, hr⟩ fun W2 s2 h2 a2 w2 l2 f2 k2 => hq W2 s2 h2 a2 w2 l2 (hf.trans f2) k2
    simp only [awOps, awOper] at hk
    unfold wpListIn
    rcases hg with ⟨g1, g2⟩ | ⟨j, want, t, g1, ht, gd, g2⟩
    · rw [g2] at hk
      rw [if_pos (by simp [Region.wanted, g1])]
      exact step hk
    · rw [g2] at hk
      simp only at hk
      split at hk
      · rename_i b hb
        have hy := yielded_of hl.slots ht hb
        by_cases hbw : b = want
        · rw [if_pos (by simp [Region.wanted, g1, hy, hbw])]
          exact step (hk.1 hbw)
        · have hb2 : b = !want := by revert hbw; cases b <;> cases want <;> simp
          rw [if_neg (by simp [Region.wanted, g1, hy, hbw])]
          have kk := hk.2 hb2
          rw [gd] at kk
          exact ⟨fun _ _ => trivial, awOps_sound l al' K W0 _ h _ w h2 kk (hl.skip o.dst) hq⟩
      · rename_i hb
        have hy := yielded_no hl.slots ht hb
        rw [if_neg (by simp [Region.wanted, g1, hy])]
        rw [gd] at hk
        exact ⟨fun _ _ => trivial, awOps_sound l al' K W0 _ h _ w h2 hk (hl.skip o.dst) hq⟩
      · exact hk.elim

theorem awOpsX_sound {ops : Array Oper} {Q : Exit → Act → World → Prop} : ∀ (l : List Oper) (al : List AOper) (K : List AV → AHeap → Prop) (W0 : World) (s : List AV) (h : AHeap) (a : Act) (w : World), cOpersX P F ops l = some al → awOpsX P al K s h → L b W0 s h a w →
    (∀ W1 s' h' a' w', L b W1 s' h' a' w' → Fr W0 h w W1 h' w' → K s' h' → Q .normal a' w') → wpListIn (FW ro) 0 P ops Q l a w
  | [], al, K, W0, s, h, a, w, hc, hk, hl, hq => by
    simp [cOpersX] at hc; subst hc
    exact hq W0 s h a w hl (Fr.refl _ _ _) hk
  | o :: l, al, K, W0, s, h, a, w, hc, hk, hl, hq => by
    simp only [cOpersX] at hc
    split at hc <;> cases hc
    rename_i ao al' h1 h2
    obtain ⟨q, hop, hfz, hdst, hg⟩ := guard_specX h1
    have step : awX P ao.op (fun v h' => awOpsX P al' K (put s ao.dst v) h') s h → o.wpIn (FW ro) 0 P a w (wpListIn (FW ro) 0 P ops Q l) Q := fun k => by
      rw [hfz] at k
      refine awX_sound hop hl.slots hl.rel k fun W1 v u h' w' hu hr hf kk => ?_
      rw [← hdst] at hu
      exact awOpsX_sound l al' K W1 _ h' _ w' h2 kk ⟨hu, by rw [put_defers]; exact hl.defers.fr hf, hr⟩ fun W2 s2 h2 a2 w2 l2 f2 k2 => hq W2 s2 h2 a2 w2 l2 (hf.trans f2) k2
    simp only [awOpsX, awOperX] at hk
    unfold wpListIn
    rcases hg with ⟨g1, g2⟩ | ⟨j, want, t, g1, ht, gd, g2⟩
    · rw [g2] at hk
      rw [if_pos (by simp [Region.wanted, g1])]
      exact step hk
    · rw [g2] at hk
      simp only at hk
      split at hk
      · rename_i b hb
        have hy := yielded_of hl.slots ht hb
        by_cases hbw : b = want
        · rw [if_pos (by simp [Region.wanted, g1, hy, hbw])]
          exact step (hk.1 hbw)
        · have hb2 : b = !want := by revert hbw; cases b <;> cases want <;> simp
          rw [if_neg (by simp [Region.wanted, g1, hy, hbw])]
          have kk := hk.2 hb2
          rw [gd] at kk
          exact ⟨fun _ _ => trivial, awOpsX_sound l al' K W0 _ h _ w h2 kk (hl.skip o.dst) hq⟩
      · rename_i hb
        have hy := yielded_no hl.slots ht hb
        rw [if_neg (by simp [Region.wanted, g1, hy])]
        rw [gd] at hk
        exact ⟨fun _ _ => trivial, awOpsX_sound l al' K W0 _ h _ w h2 hk (hl.skip o.dst) hq⟩
      · exact hk.elim

def noG : Exit → Prop
  | .goto _ | .outgrown => False
  | _ => True

/-- What the machine's exits are asked. -/
def lift (b : Nat) (W0 : World) (h : AHeap) (w : World) (Q : PostA) : Exit → Act → World → Prop := fun e a' w' => ∃ W1 s' h', L b W1 s' h' a' w' ∧ Fr W0 h w W1 h' w' ∧ Q e s' h' ∧ noG e

theorem wpIn_scope_straight {c : Code} {Q : Exit → Act → World → Prop} {a : Act} {w : World} {FF : Fence} {n : Nat} (h : c.wpIn FF n P (Exit.noGoto Q) a w) : (Code.scope c).wpIn FF n P Q a w := by
  intro b k cs hro hb hr
  have s1 : step P (lone (b.atR a (.code (.scope c) :: k)) cs w) = .next (lone (b.atR a (.code c :: .inScope c :: k)) cs w) := step_lone_go (by simp [stepG, stepG.exec, Frame.atR])
  have s2 : ∀ a w, step P (lone (b.atR a (.inScope c :: k)) cs w) = .next (lone (b.atR a k) cs w) := fun a w => step_lone_go (by simp [stepG, stepG.exec, Frame.atR])
  have st1 : StepsIn (Machine.fenced P FF) P (lone (b.atR a (.code (.scope c) :: k)) cs w) (lone (b.atR a (.code c :: .inScope c :: k)) cs w) := .one (fenced_calm hb hr rfl) s1
  obtain ⟨e, a₁, w₁, hq, harr⟩ := h b (.inScope c :: k) cs hro hb hr
  cases e with
  | normal => exact ⟨.normal, a₁, w₁, hq, StepsIn.trans st1 (StepsIn.trans harr (.one (fenced_calm hb hr rfl) (s2 a₁ w₁)))⟩
  | goto l => exact hq.elim
  | exit id => exact ⟨.exit id, a₁, w₁, hq, .of_steps st1 ⟨fun k' hk => harr.1 k' (by simp [exitTo, hk]), fun hr hk => by
      obtain ⟨k1, e1, e2⟩ := harr.2 hr (by simp [exitTo, hk])
      exact ⟨k1, e1, e2⟩⟩⟩
  | ret => exact ⟨_, a₁, w₁, hq, .of_steps st1 harr⟩
  | panic ch => exact ⟨_, a₁, w₁, hq, .of_steps st1 harr⟩
  | outgrown => exact ⟨_, a₁, w₁, hq, .of_steps st1 harr⟩

theorem lets_no {W0 : World} {h : AHeap} {w : World} {Q : PostA} : ¬ LetsOut (lift b W0 h w Q) := fun ⟨_, _, _, _, _, _, _, _, e⟩ => e

theorem VRs_setps {W0 : World} : ∀ (ps : List Nat) {xs s : List AV} {vs l : List Value}, VRs W0 xs vs → VRs W0 s l → VRs W0 (setps ps xs s) ((ps.zip vs).foldl (fun l p => l.set p.1 p.2) l)
  | [], xs, s, vs, l, h1, h2 => by simpa [setps] using h2
  | p :: ps, [], s, vs, l, h1, h2 => by
    simp only [VRs] at h1; subst h1
    simpa [setps] using h2
  | p :: ps, x :: xs, s, vs, l, h1, h2 => by
    simp only [VRs] at h1
    obtain ⟨v, vs', rfl, h3, h4⟩ := h1
    simp only [setps, List.zip_cons_cons, List.foldl_cons]
    exact VRs_setps ps h4 (VRs_set h2 p h3)

theorem fold_toList : ∀ (q : List (Tmp × Value)) (tl : List Value), (q.foldl (fun t (x : Tmp × Value) => t.setIfInBounds x.1 x.2) tl.toArray).toList = q.foldl (fun l p => l.set p.1 p.2) tl
  | [], tl => rfl
  | p :: q, tl => by
    have := fold_toList q (tl.set p.1 p.2)
    simp only [List.foldl_cons]
    rw [← this]; congr 2; simp

theorem alloc_out {W0 : World} {h : AHeap} {w : World} (r : Rel W0 h w) (o : Obj) : Rel W0 h (w.alloc o) ∧ Fr W0 h w W0 h (w.alloc o) := by
  obtain ⟨r1, f1⟩ := alloc_rel r (o := .raw o) (obj := o) (by simp only [OR])
  refine ⟨r1.sub fun x q e => ?_, ⟨f1.os, f1.tape, f1.output, f1.drawn, f1.size, fun b hb hn => ⟨(f1.kept b hb hn).1, hn⟩, fun _ _ e => e, fun _ _ e => e, fun _ _ e => .inl e⟩⟩
  have : x ≠ w.heap.size := by rintro rfl; rw [fresh_ok r] at e; cases e
  simp only [upd, if_neg this]; exact e

/-- A block of one's own that is let go, and then written to. -/
theorem put_out {W0 W1 : World} {h h' : AHeap} {w w' : World} (r : Rel W1 h' w') (f : Fr W0 h w W1 h' w') {l : Nat} {o : AObj} (hl : h' l = some o) (hge : w.heap.size ≤ l) (q : Obj) : Rel W1 (del h' l) (w'.putObj l q) ∧ Fr W0 h w W1 (del h' l) (w'.putObj l q) := by
  have hne : ∀ b, b ≠ l → (w'.putObj l q).heap[b]? = w'.heap[b]? := fun b hb => World.putObj_heap_other hb
  obtain ⟨h1, _⟩ := r.live l o hl
  refine ⟨⟨fun p v e => ?_, fun x p hx => ?_, r.glob, r.fix.kept fun b hb hn => ⟨hne b (by rintro rfl; rw [hl] at hn; cases hn), by unfold del; split <;> first | rfl | exact hn⟩⟩, ⟨f.os, f.tape, f.output, f.drawn, by simp only [World.putObj, Array.size_setIfInBounds]; exact f.size, fun b hb hn => ?_, fun b hb hn => ?_, f.le, f.gr⟩⟩
  · have hp : p.block ≠ l := fun hp => by rw [h1 p hp] at e; cases e
    rw [← r.base p v e]
    simp only [World.cell?, hne _ hp]
  · unfold del at hx
    split at hx
    · cases hx
    · rename_i hx2
      obtain ⟨g1, g2, g3, g4⟩ := r.live x p hx
      exact ⟨g1, g2, by rw [hne _ hx2]; exact g3, g4⟩
  · have hb2 : b ≠ l := by omega
    obtain ⟨k1, k2⟩ := f.kept b hb hn
    exact ⟨by rw [hne _ hb2]; exact k1, by unfold del; rw [if_neg hb2]; exact k2⟩
  · refine f.new b hb fun e => hn ?_
    unfold del; split
    · rfl
    · exact e

theorem exec_sound : ∀ (c : Code) (b : Nat) (ac : ACode) (Q : PostA) (W0 : World) (s : List AV) (h : AHeap) (a : Act) (w : World) (ro : Option Nat), (ro = none ∨ noRF c = true) → cCode P F c = some ac → exec P ac Q s h → L b W0 s h a w → c.wpIn (FW ro) 0 P (lift b W0 h w Q) a w
  | .skip, b, ac, Q, W0, s, h, a, w, ro, hro, hc, hk, hl => by
    simp only [cCode] at hc; cases hc
    exact wpIn_skip ⟨W0, s, h, hl, Fr.refl _ _ _, hk, trivial⟩
  | .label l, b, ac, Q, W0, s, h, a, w, ro, hro, hc, hk, hl => by
    simp only [cCode] at hc; cases hc
    exact wpIn_label ⟨W0, s, h, hl, Fr.refl _ _ _, hk, trivial⟩
  | .region id ops d, b, ac, Q, W0, s, h, a, w, ro, hro, hc, hk, hl => by
    cases d
    · simp only [cCode] at hc
      split at hc
      · simp only [Option.map_eq_some_iff] at hc
        obtain ⟨al, hal, rfl⟩ := hc
        exact wpIn_region_list (awOpsX_sound ops.toList al _ W0 s h a w hal hk hl fun W1 s' h' a' w' l' f' k' => ⟨W1, s', h', l', f', k', trivial⟩)
      · simp only [Option.map_eq_some_iff] at hc
        obtain ⟨al, hal, rfl⟩ := hc
        exact wpIn_region_list (awOps_sound ops.toList al _ W0 s h a w hal hk hl fun W1 s' h' a' w' l' f' k' => ⟨W1, s', h', l', f', k', trivial⟩)
    · simp only [cCode] at hc
      split at hc
      · rename_i hm
        simp only [Bool.and_eq_true] at hm
        simp only [Option.map_eq_some_iff] at hc
        obtain ⟨D, hD, rfl⟩ := hc
        have hd := drew_rel (w' := { w with drawn := w.drawn + 1 }) hl.rel rfl rfl rfl rfl (Nat.le_succ _)
        have hnd : ∀ o ∈ ops, ∀ c, o.op ≠ .defer c := fun o ho c e => by
          have := List.all_eq_true.1 hm.2 o (by simpa using ho)
          simp [notDefer, e] at this
        refine wpIn_region_draw fun t => ?_
        simp only [Region.schedule, hm.1, Bool.true_or, if_true]
        exact wpOpsIn_of lets_no hnd _ _ _ (wpAny_sound ops.size t _ a _ (regD_sound (W0 := W0) hD (K := Q .normal) ⟨hl.slots, hl.defers.fr hd.2, hd.1⟩ hk fun W1 s' h' a' w' l' f' k' => ⟨W1, s', h', l', hd.2.trans f', k', trivial⟩))
      · cases hc
  | .seq x y, b, ac, Q, W0, s, h, a, w, ro, hro, hc, hk, hl => by
    simp only [cCode] at hc
    split at hc <;> cases hc
    rename_i ax ay hx hy
    simp only [noRF, Bool.and_eq_true] at hro
    refine wpIn_seq (wpIn_mono (exec_sound x b ax _ W0 s h a w ro (hro.imp id (·.1)) hx hk hl) ?_)
    rintro e a' w' ⟨W1, s', h', l', f', k', g'⟩
    cases e with
    | normal =>
      refine wpIn_mono (exec_sound y b ay Q W1 s' h' a' w' ro (hro.imp id (·.2)) hy k' l') ?_
      rintro e a2 w2 ⟨W2, s2, h2, l2, f2, k2, g2⟩
      exact ⟨W2, s2, h2, l2, f'.trans f2, k2, g2⟩
    | _ => exact ⟨W1, s', h', l', f', k', g'⟩
  | .cond c x y, b, ac, Q, W0, s, h, a, w, ro, hro, hc, hk, hl => by
    simp only [cCode] at hc
    split at hc <;> cases hc
    rename_i c' ax ay h1 hx hy
    simp only [exec] at hk
    simp only [noRF, Bool.and_eq_true] at hro
    split at hk
    · rename_i t ht
      have hv := cArg_sound hl.slots h1
      rw [ht] at hv; simp only [VR] at hv
      exact wpIn_cond_split hv (fun e => exec_sound x b ax Q W0 s h a w ro (hro.imp id (·.1)) hx (hk.1 e) hl) (fun e => exec_sound y b ay Q W0 s h a w ro (hro.imp id (·.2)) hy (hk.2 e) hl)
    · exact hk.elim
  | .block id c, b, ac, Q, W0, s, h, a, w, ro, hro, hc, hk, hl => by
    simp only [cCode, Option.map_eq_some_iff] at hc
    obtain ⟨ax, hx, rfl⟩ := hc
    simp only [noRF] at hro
    refine wpIn_block (wpIn_mono (exec_sound c b ax _ W0 s h a w ro hro hx hk hl) ?_)
    rintro e a' w' ⟨W1, s', h', l', f', k', g'⟩
    cases e with
    | exit i =>
      simp only [Exit.inBlock]
      have k2 : if i = id then (frzA (Q .normal) s' h' ∨ Q .normal s' h') else Q (.exit i) s' h' := by
        cases ax <;> simp only [blockQ, blockF, blockA] at k' <;> (split at k' <;> rename_i hi <;> simp only [hi, if_true, if_false]) <;> first | exact .inl k' | exact .inr k' | exact k'
      split
      · rename_i hi; rw [if_pos hi] at k2
        rcases k2 with ⟨s2, h2, z0, z1, k2⟩ | k2
        · obtain ⟨r1, f1⟩ := l'.rel.still z0
          exact ⟨_, s2, h2, ⟨FzL_sound l'.rel z1 _ l'.slots, l'.defers.fr f1, r1⟩, f'.trans f1, k2, trivial⟩
        · exact ⟨W1, s', h', l', f', k2, trivial⟩
      · rename_i hi; rw [if_neg hi] at k2; exact ⟨W1, s', h', l', f', k2, trivial⟩
    | _ => refine ⟨W1, s', h', l', f', ?_, g'⟩; cases ax <;> exact k'
  | .loop c, b, ac, Q, W0, s, h, a, w, ro, hro, hc, hk, hl => by
    simp only [cCode, Option.map_eq_some_iff] at hc
    obtain ⟨ax, hx, rfl⟩ := hc
    simp only [noRF] at hro
    obtain ⟨J, n₀, ds, s₀, h₀, z0, z1, h0, round⟩ := hk
    have enter : ∀ {W1 : World} {s' : List AV} {h' : AHeap} {a' : Act} {w' : World} {s₁ : List AV} {h₁ : AHeap}, L b W1 s' h' a' w' → Fr W0 h w W1 h' w' → FzH h' h₁ → FzL h' h₁ (kill ds s') s₁ → ∃ W2, L b W2 s₁ h₁ a' w' ∧ Fr W0 h w W2 h₁ w' := by
      intro W1 s' h' a' w' s₁ h₁ l' f' y0 y1
      obtain ⟨r1, f1⟩ := l'.rel.still y0
      exact ⟨_, ⟨FzL_sound l'.rel y1 _ (kill_sound ds l'.slots), l'.defers.fr f1, r1⟩, f'.trans f1⟩
    refine wpIn_loop_ghost (fun n a' w' => ∃ W1 s' h', L b W1 s' h' a' w' ∧ Fr W0 h w W1 h' w' ∧ J n s' h') n₀ ?_ ?_
    · obtain ⟨W2, l2, f2⟩ := enter hl (Fr.refl _ _ _) z0 z1
      exact ⟨W2, s₀, h₀, l2, f2, h0⟩
    rintro n a' w' ⟨W1, s', h', l', f', hj⟩
    refine wpIn_mono (exec_sound c b ax _ W1 s' h' a' w' ro hro hx (round n s' h' hj) l') ?_
    rintro e a2 w2 ⟨W2, s2, h2, l2, f2, k2, g2⟩
    cases e with
    | normal =>
      obtain ⟨n', s₁, h₁, hlt, y0, y1, hj'⟩ := k2
      obtain ⟨W3, l3, f3⟩ := enter l2 (f'.trans f2) y0 y1
      exact ⟨n', hlt, W3, s₁, h₁, l3, f3, hj'⟩
    | _ => exact ⟨W2, s2, h2, l2, f'.trans f2, k2, g2⟩
  | .exit id, b, ac, Q, W0, s, h, a, w, ro, hro, hc, hk, hl => by
    simp only [cCode] at hc; cases hc
    exact wpIn_exit ⟨W0, s, h, hl, Fr.refl _ _ _, hk, trivial⟩
  | .scope c, b, ac, Q, W0, s, h, a, w, ro, hro, hc, hk, hl => by
    simp only [cCode] at hc
    simp only [noRF] at hro
    refine wpIn_scope_straight (wpIn_mono (exec_sound c b ac _ W0 s h a w ro hro hc hk hl) ?_)
    rintro e a' w' ⟨W1, s', h', l', f', k', g'⟩
    cases e with
    | goto l => exact g'.elim
    | _ => exact ⟨W1, s', h', l', f', k', g'⟩
  | .ret, b, ac, Q, W0, s, h, a, w, ro, hro, hc, hk, hl => by
    simp only [cCode] at hc; cases hc
    exact wpIn_ret ⟨W0, s, h, hl, Fr.refl _ _ _, hk, trivial⟩
  | .rangeFunc g ps asg bd, b, ac, Q, W0, s, h, a, w, ro, hro, hc, hk, hl => by
    simp only [cCode] at hc
    split at hc
    rotate_left
    · cases hc
    rename_i g' ax ay h1 hx hy
    split at hc <;> cases hc
    rename_i hnr
    simp only [Bool.and_eq_true] at hnr
    have hro' : ro = none := hro.resolve_right (by simp [noRF])
    subst hro'
    simp only [exec] at hk
    split at hk
    rotate_left
    · exact hk.elim
    rename_i f cap e0
    have hv := cArg_sound hl.slots h1
    rw [e0] at hv; simp only [VR] at hv
    obtain ⟨lb, hg, hcap⟩ := hv
    refine wpIn_rangeFunc fun fn _ => ?_
    obtain ⟨mk, hmk⟩ : ∃ mk : LoopState → Array Value → Obj, mk = fun st tmps => .loop { state := st, pending := none, fn, tmps, params := ps, assign := asg, body := bd, defers := w.heap.size } := ⟨_, rfl⟩
    obtain ⟨W1, hW1⟩ : ∃ W1, (w.alloc (.deferred (some []))).alloc (mk .ready a.tmps) = W1 := ⟨_, rfl⟩
    obtain ⟨r1, f1⟩ := alloc_out hl.rel (.deferred (some []))
    have hsz : (w.alloc (.deferred (some []))).heap.size = w.heap.size + 1 := by simp
    obtain ⟨r2, f2⟩ := alloc_rel r1 (o := .lp s (mk .ready)) (obj := mk .ready a.tmps) (by simp only [OR]; exact ⟨a.tmps.toList, by simp, hl.slots⟩)
    have hW1' : ({ (w.alloc (.deferred (some []))) with heap := (w.alloc (.deferred (some []))).heap.push (mk .ready a.tmps) } : World) = W1 := hW1
    rw [hsz, hW1'] at r2 f2
    have f12 := f1.trans f2
    have hlN : h (w.heap.size + 1) = none := hl.rel.none_of_ge (by omega)
    have hD1 : W1.heap[w.heap.size]? = some (.deferred (some [])) := by
      have := (f2.kept w.heap.size (by rw [hsz]; omega) (hl.rel.none_of_ge (Nat.le_refl _))).1
      rw [this]; exact World.alloc_heap_new w _
    obtain ⟨hz, args', z1, z2, ⟨⟨fnn, hfn, hb, hname⟩, hcall⟩⟩ := hk (w.heap.size + 1) (mk .ready) (mk .busy) hlN (by
      intro xs h1' R hlen hlp he W0' w2 vs r2' hvs
      obtain ⟨_, obj, g2, g3⟩ := r2'.live _ _ hlp
      simp only [OR] at g3
      obtain ⟨tl, rfl, htl⟩ := g3
      rw [hmk] at g2
      have hps : vs.size = ps.size := by have := VRs_length hvs; simp at this hlen; omega
      have hyr := run_yield (P := P) (args := vs) g2 hps
      refine ⟨fn, _, asg, bd, hyr, roundIn_of_wpIn trivial ?_⟩
      have hfold : ((ps.zip vs).foldl (fun t (x : Tmp × Value) => t.setIfInBounds x.1 x.2) tl.toArray).toList = (ps.toList.zip vs.toList).foldl (fun l p => l.set p.1 p.2) tl := by
        rw [← Array.foldl_toList, Array.toList_zip]
        exact fold_toList _ _
      refine wpIn_mono (exec_sound asg 0 ax _ W0' _ h1' _ w2 (some (w.heap.size + 1)) (.inr hnr.1) hx he ⟨?_, ⟨Nat.zero_le _, trivial⟩, r2'⟩) ?_
      · show VRs W0' _ (Array.toList _)
        rw [hfold]; exact VRs_setps ps.toList hvs htl
      rintro e a1 w3 ⟨W3, s3, h3, l3, f3, k3, _⟩
      cases e with
      | normal =>
        obtain ⟨k4, k5⟩ := k3
        obtain ⟨_, obj3, q2, q3⟩ := l3.rel.live _ _ k4
        simp only [OR] at q3
        obtain ⟨tl3, rfl, htl3⟩ := q3
        have q2' := q2
        rw [hmk] at q2'
        obtain ⟨r4, f4⟩ := obj_rel l3.rel (o' := .lp s (mk .busy)) (obj := mk .busy tl3.toArray) k4 (by simp only [OR]; exact ⟨tl3, rfl, htl3⟩)
        have hbeg : (Instr.beginRound (w.heap.size + 1)).run P w3 = .ok () (w3.putObj (w.heap.size + 1) (mk .busy tl3.toArray)) := by
          have := run_beginRound (P := P) q2' rfl
          rw [hmk]; exact this
        refine ⟨_, hbeg, ?_⟩
        have r4' : Rel W3 (upd h3 (w.heap.size + 1) (.lp s (mk .busy))) (w3.putObj (w.heap.size + 1) (mk .busy tl3.toArray)) := r4
        have f4' : Fr W3 h3 w3 W3 (upd h3 (w.heap.size + 1) (.lp s (mk .busy))) (w3.putObj (w.heap.size + 1) (mk .busy tl3.toArray)) := f4
        refine wpIn_mono (exec_sound bd 0 ay _ W3 _ _ _ _ (some (w.heap.size + 1)) (.inr hnr.2) hy k5 ⟨l3.slots, l3.defers.fr f4', r4'⟩) ?_
        rintro e a5 w5 ⟨W5, s5, h5, l5, f5, k5, _⟩
        cases e with
        | normal =>
          obtain ⟨k6, k7⟩ := k5
          obtain ⟨_, obj5, p2, p3⟩ := l5.rel.live _ _ k6
          simp only [OR] at p3
          obtain ⟨tl5, rfl, htl5⟩ := p3
          have p2' := p2
          rw [hmk] at p2'
          obtain ⟨r6, f6⟩ := obj_rel l5.rel (o' := .lp s (mk .ready)) (obj := mk .ready tl5.toArray) k6 (by simp only [OR]; exact ⟨tl5, rfl, htl5⟩)
          have hend : (Instr.endRound (w.heap.size + 1) none).run P w5 = .ok (.bool true) (w5.putObj (w.heap.size + 1) (mk .ready tl5.toArray)) := by
            have := run_endRound (P := P) none p2'
            rw [hmk]; exact this
          exact ⟨_, _, hend, W5, _, rfl, r6, f3.trans (f4'.trans (f5.trans f6)), k7⟩
        | _ => exact k5.elim
      | _ => exact k3.elim)
    have he : ∀ args w, (callFunc f args).run P w = .ok (.enter f args) w := fun args w => by
      have hbn2 : fnn.body.isNone = false := by cases hh : fnn.body <;> simp_all
      simp only [callFunc, hfn, Sem.run_bind, run_program, Sem.run_pure, Result.andThen_ok, hname, Bool.false_eq_true, if_false]
      simp [hbn2]
    have hrun := run_enterLoop_outer (P := P) (w := w) fn a.tmps ps asg bd
    have hW1'' : ((w.alloc (.deferred (some []))).alloc (.loop { state := .ready, pending := none, fn, tmps := a.tmps, params := ps, assign := asg, body := bd, defers := w.heap.size })) = W1 := by rw [← hW1, hmk]
    rw [hW1''] at hrun
    obtain ⟨r3, f3⟩ := r2.still z1
    refine ⟨w.heap.size + 1, [{ target := .collected w.heap.size, args := #[] }], W1, { target := .fn (.func f) lb.toArray, args := #[.func (.yield (w.heap.size + 1)) #[] #[]] }, W1, f,
      #[.func (.yield (w.heap.size + 1)) #[] #[]] ++ lb.toArray, W1, hrun, ?_, fun _ _ => trivial, ?_, fun e => (by cases e), ?_⟩
    · simp only [resolve, hg]
      simp [go_sem]
    · simp [invoke, go_sem, he]
    · have hc2 := hcall _ W1 (#[.func (.yield (w.heap.size + 1)) #[] #[]] ++ lb.toArray) r3 (by
        refine FzL_sound r2 z2 _ ?_
        simp only [Array.toList_append]
        exact VRs_cons (by simp only [VR]) (VRs_le f12.le _ _ hcap))
      have hc3 : CallsIn Fence.wide (0 - 1) P f _ W1 _ := callsIn_wide.2 hc2
      have hc4 : CallsIn (FW none) (0 - 1) P f _ W1 _ := hc3
      refine hc4.mono ?_
      rintro e w4 ⟨W4, v4, r4, h4, rfl, _, hr4, hf4, hl4, hq4⟩
      obtain ⟨_, obj, g2, g3⟩ := hr4.live _ _ hl4
      simp only [OR] at g3
      obtain ⟨tl, rfl, htl⟩ := g3
      have g2' := g2
      rw [hmk] at g2'
      have hall := f12.trans (f3.trans hf4)
      refine ⟨none, _, run_endLoop g2' (by simp), ?_⟩
      obtain ⟨r5, f5⟩ := put_out hr4 hall hl4 (by omega) (.loop { state := .exhausted, pending := none, fn, tmps := tl.toArray, params := ps, assign := asg, body := bd, defers := w.heap.size })
      refine ⟨W4, s, _, ⟨VRs_le f5.le _ _ hl.slots, ?_, r5⟩, f5, hq4, trivial⟩
      have hDk := (f3.trans hf4).kept w.heap.size (Array.getElem?_eq_some_iff.1 hD1).1 (by simp only [upd]; rw [if_neg (by omega)]; exact hl.rel.none_of_ge (Nat.le_refl _))
      refine ⟨Nat.le_trans hl.defers.1 f5.size, ⟨w.heap.size, rfl, hl.defers.1, ?_, ?_⟩, ?_, hl.defers.2.fr f5⟩
      · rw [World.putObj_heap_other (by omega), hDk.1]; exact hD1
      · unfold del; rw [if_neg (by omega)]; exact hDk.2
      · exact Mk.notin hl.defers.2
  | .goto _, b, ac, Q, W0, s, h, a, w, ro, hro, hc, hk, hl => by simp only [cCode] at hc; cases hc; exact hk.elim
  | .refuse _, b, ac, Q, W0, s, h, a, w, ro, hro, hc, hk, hl => by simp only [cCode] at hc; cases hc; exact hk.elim

end

/-! ### A function's contract from its body -/

inductive RV where
  | t (n : Nat)
  | m (a : Nat) (g : Bool) (n : Nat)

def cRes (P : Program) : List ResultVar → Option (List RV)
  | [] => some []
  | .tmp t :: l => (cRes P l).map (.t t :: ·)
  | .cell a t :: l => match tAgg P t, tSize P t, cRes P l with
    | some g, some n, some r => some (.m a g n :: r)
    | _, _, _ => none

def resOne (s : List AV) (h : AHeap) : RV → Option AV
  | .t n => some (s.getD n .undef)
  | .m a g n => if g then (aloads h n (s.getD a .undef)).map .agg else aload h (s.getD a .undef)

def resAll (s : List AV) (h : AHeap) : List RV → Option (List AV)
  | [] => some []
  | r :: l => match resOne s h r, resAll s h l with
    | some v, some vs => some (v :: vs)
    | _, _ => none

def tupA : List AV → AV
  | [v] => v
  | vs => .tup vs

def retA (rs : List RV) (R : AV → AHeap → Prop) : PostA := fun e s h =>
  (e = .normal ∨ e = .ret) ∧ ∃ vs vs' h', resAll s h rs = some vs ∧ FzH h h' ∧ FzL h h' vs vs' ∧ R (tupA vs') h'

section
variable {P : Program} {W0 : World} {F : List Nat}

theorem resAll_sound {s : List AV} {h : AHeap} {a : Act} {w : World} (hs : VRs W0 s a.tmps.toList) (hr0 : Rel W0 h w) : ∀ (rs : List ResultVar) (cs : List RV) (vs : List AV), cRes P rs = some cs → resAll s h cs = some vs →
    ∃ us, VRs W0 vs us ∧ ((rs.mapM fun r => match r with | .tmp t => pure (a.tmps.getD t undef) | .cell x t => do loadVar t (← asAddr (a.tmps.getD x undef)) : Sem (List Value)).run P w) = .ok us w
  | [], cs, vs, hc, hv => by simp [cRes] at hc; subst hc; simp [resAll] at hv; subst hv; exact ⟨[], VRs_nil, by simp⟩
  | .tmp t :: rs, cs, vs, hc, hv => by
    simp only [cRes, Option.map_eq_some_iff] at hc
    obtain ⟨cs', h1, rfl⟩ := hc
    simp only [resAll, resOne] at hv
    split at hv <;> cases hv
    rename_i v vs' e1 e2
    cases e1
    obtain ⟨us, hu, hr⟩ := resAll_sound hs hr0 rs cs' vs' h1 e2
    exact ⟨_, VRs_cons (getD_sound hs t) hu, by simp only [List.mapM_cons, Sem.run_bind, Sem.run_pure, Result.andThen_ok, hr]⟩
  | .cell x t :: rs, cs, vs, hc, hv => by
    simp only [cRes] at hc
    split at hc <;> cases hc
    rename_i g n cs' hg hn h1
    simp only [resAll, resOne] at hv
    split at hv <;> cases hv
    rename_i v vs' e1 e2
    obtain ⟨us, hu, hr⟩ := resAll_sound hs hr0 rs cs' vs' h1 e2
    have hp := getD_sound hs x
    cases g
    · simp only [Bool.false_eq_true, if_false] at e1
      obtain ⟨q, c, hpv, hcell, hvc⟩ := aload_sound hr0 hp e1
      have hA : (asAddr (a.tmps.getD x undef)).run P w = .ok q w := by rw [hpv]; simp [asAddr]
      have hV : (loadVar t q).run P w = .ok c w := by simp [loadVar, run_isAgg hg, hcell]
      exact ⟨_, VRs_cons hvc hu, by simp only [List.mapM_cons, Sem.run_bind, hA, hV, Result.andThen_ok, hr, Sem.run_pure]⟩
    · simp only [if_true, Option.map_eq_some_iff] at e1
      obtain ⟨l, e1, rfl⟩ := e1
      obtain ⟨q, cv, hpv, hlen, hcell, hvc⟩ := aloads_sound hr0 hp e1
      have := run_loadCells_list (P := P) (w := w) q cv hcell
      rw [hlen] at this
      refine ⟨.agg cv.toArray :: us, VRs_cons (by simp only [VR]; exact ⟨cv, rfl, hvc⟩) hu, ?_⟩
      have hA : (asAddr (a.tmps.getD x undef)).run P w = .ok q w := by rw [hpv]; simp [asAddr]
      have hV : (loadVar t q).run P w = .ok (.agg cv.toArray) w := by simp [loadVar, run_isAgg hg, run_sizeOf hn, this]
      simp only [List.mapM_cons, Sem.run_bind, hA, hV, Result.andThen_ok, hr, Sem.run_pure]

theorem tup_sound {vs : List AV} {us : List Value} (h : VRs W0 vs us) : VR W0 (tupA vs) (if h : us.toArray.size = 1 then us.toArray[0] else .tuple us.toArray) := by
  have hl := VRs_length h
  unfold tupA
  split
  · rename_i v
    simp only [VRs] at h
    obtain ⟨u, l', rfl, hu, rfl⟩ := h
    simpa using hu
  · rename_i hne
    have : ¬ us.toArray.size = 1 := by
      intro e
      have e2 : vs.length = 1 := by rw [← hl]; simpa using e
      obtain ⟨v, rfl⟩ := List.length_eq_one_iff.1 e2
      exact hne v rfl
    rw [dif_neg this]
    simp only [VR]; exact ⟨us, rfl, h⟩

theorem Mk.put {b : Nat} {h : AHeap} {w : World} {D : Nat} {q : Obj} : ∀ {ds : List Deferred}, ({ target := .collected D, args := #[] } : Deferred) ∉ ds → Mk b h w ds → Mk b h (w.putObj D q) ds
  | [], _, _ => trivial
  | d :: ds, hn, ⟨⟨D', e1, e0, e2, e3⟩, e4, e5⟩ => by
    simp only [List.mem_cons, not_or] at hn
    have hne : D' ≠ D := by rintro rfl; exact hn.1 e1.symm
    exact ⟨⟨D', e1, e0, by rw [World.putObj_heap_other hne]; exact e2, e3⟩, e4, Mk.put hn.2 e5⟩

theorem leaves_marks {fn : Func} {tmps : Array Value} {R : Ending → World → Prop} {h h' : AHeap} {w0 W1 : World} : ∀ (ds : List Deferred) (w : World), Mk w0.heap.size h' w ds → Rel W1 h' w → Fr W0 h w0 W1 h' w →
    (∀ w, Rel W1 h' w → Fr W0 h w0 W1 h' w → ∃ v, (results fn tmps).run P w = .ok v w ∧ R (.returned v) w) → LeavesInM (FW none) 0 P fn tmps R ds .returning w
  | [], w, m, r, f, k => k w r f
  | d :: ds, w, ⟨⟨D, e1, e0, e2, e3⟩, e4, e5⟩, r, f, k => by
    subst e1
    refine ⟨by simp, .inl ⟨D, _, rfl, run_takeDeferred e2, ?_⟩⟩
    have hne : ∀ b, b ≠ D → (w.putObj D (.deferred none)).heap[b]? = w.heap[b]? := fun b hb => World.putObj_heap_other hb
    have hcell : ∀ p v, W1.cell? p = some v → p.block ≠ D := fun p v e hp => by
      have := r.base p v e
      simp only [World.cell?, hp, e2] at this
      cases this
    refine leaves_marks ds _ (Mk.put e4 e5) ⟨fun p v e => ?_, fun x o hx => ?_, r.glob, fun g n hg => (by obtain ⟨a, c, t, fr, b1, b2⟩ := r.fix g n hg; have hg2 : g ≠ D := (by rintro rfl; rw [e2] at b1; cases b1); exact ⟨a, c, t, fr, by rw [hne g hg2]; exact b1, b2⟩)⟩ ⟨f.os, f.tape, f.output, f.drawn, by simp only [World.putObj, Array.size_setIfInBounds]; exact f.size, fun b hb hn => ?_, f.new, f.le, f.gr⟩ k
    · rw [← r.base p v e]; simp only [World.cell?, hne _ (hcell p v e)]
    · have hx2 : x ≠ D := by rintro rfl; rw [e3] at hx; cases hx
      obtain ⟨g1, g2, g3, g4⟩ := r.live x o hx
      exact ⟨g1, g2, by rw [hne _ hx2]; exact g3, g4⟩
    · obtain ⟨k1, k2⟩ := f.kept b hb hn
      exact ⟨by rw [hne _ (by omega)]; exact k1, k2⟩

theorem CallsA.enter {f : FuncId} {fn : Func} {c : Code} {ac : ACode} {rs : List RV} {args : List AV} {h : AHeap} {R : AV → AHeap → Prop} (hf : P.funcs[f]? = some fn) (hb : fn.body = some c) (hname : (fn.name == "runtime.NumGoroutine") = false)
    (hc : cCode P F c = some ac) (hr : cRes P fn.results.toList = some rs) (he : exec P ac (retA rs R) (args ++ List.replicate (fn.ntmps - args.length) .undef) h) : CallsA P f args h R := by
  refine ⟨⟨fn, hf, by rw [hb]; rfl, hname⟩, fun W0 w cargs hrel hargs => ?_⟩
  refine (callsIn_wide (n := 0)).1 ?_
  have main : CallsIn (FW none) 0 P f cargs w fun e w' => ∃ W1 v r h', e = .returned v ∧ VR W1 r v ∧ Rel W1 h' w' ∧ Fr W0 h w W1 h' w' ∧ R r h' := ?_
  · exact main
  refine callsIn_of_wp_marks (F := FW none) hf hb trivial (wpIn_mono (exec_sound c w.heap.size ac _ W0 _ h _ w none (.inl rfl) hc he ⟨?_, ⟨Nat.le_refl _, trivial⟩, hrel⟩) ?_) rfl
  · simp only [Array.toList_append, Array.toList_replicate]
    have := VRs_length hargs
    refine VRs_append hargs (VRs_replicate_undef _ _ ?_)
    simp at this ⊢; omega
  · rintro e a' w' ⟨W1, s', h', l', f', ⟨hex, vs, vs', h2, hvs, hz, hzl, hR⟩, _⟩
    have fin : LeavesInM (FW none) 0 P fn a'.tmps (fun e w' => ∃ W1 v r h', e = .returned v ∧ VR W1 r v ∧ Rel W1 h' w' ∧ Fr W0 h w W1 h' w' ∧ R r h') a'.defers .returning w' := by
      refine leaves_marks a'.defers w' l'.defers.2 l'.rel f' fun w2 r3 f3 => ?_
      obtain ⟨us, hus, hrun⟩ := resAll_sound (P := P) l'.slots r3 fn.results.toList rs vs hr hvs
      have hres : (results fn a'.tmps).run P w2 = .ok (if h : us.toArray.size = 1 then us.toArray[0] else .tuple us.toArray) w2 := by
        unfold results
        rw [Array.mapM_eq_mapM_toList]
        simp only [Sem.run_bind, Sem.run_map, Sem.run_pure]
        erw [hrun]
        rfl
      obtain ⟨r2, f2⟩ := r3.still hz
      have hus2 := FzL_sound r3 hzl _ hus
      exact ⟨_, hres, _, _, _, h2, rfl, tup_sound hus2, r2, f3.trans f2, hR⟩
    rcases hex with rfl | rfl
    · exact fin
    · exact fin

end
end Go.Proofs.YteijaibggalapaaGreatDoor.E
