/-
  Code on abstract states: 'exec' is a proposition that the machine's run follows.
-/
import Derived.Test.YtaeppifdbcoipaaEE
namespace Go.Proofs.Ytaeppifdbcoipaa.E
open Go
set_option linter.unusedVariables false
set_option linter.unusedSimpArgs false

inductive ACode where
  | skip
  | reg (ops : List AOper)
  | regD (ops : List DOper)
  | seq (a b : ACode)
  | cond (c : AArg) (x y : ACode)
  | block (id : Nat) (c : ACode)
  | loop (c : ACode)
  | exit (id : Nat)
  | ret

abbrev PostA := Exit → List AV → AHeap → Prop

def thenA (K : List AV → AHeap → Prop) (Q : PostA) : PostA
  | .normal, s, h => K s h
  | e, s, h => Q e s h
def blockA (id : Nat) (Q : PostA) : PostA
  | .exit i, s, h => if i = id then Q .normal s h else Q (.exit i) s h
  | e, s, h => Q e s h

/-- Blocks of one's own may be laid still here. -/
def frzA (K : List AV → AHeap → Prop) (s : List AV) (h : AHeap) : Prop := ∃ s' h', FzH h h' ∧ FzL h h' s s' ∧ K s' h'

/-- A loop's end. -/
def blockF (id : Nat) (Q : PostA) : PostA
  | .exit i, s, h => if i = id then frzA (Q .normal) s h else Q (.exit i) s h
  | e, s, h => Q e s h

/-- What is asked at a block's end: behind a loop blocks of one's own may be laid still. -/
def blockQ : ACode → Nat → PostA → PostA
  | .loop _, id, Q => blockF id Q
  | _, id, Q => blockA id Q

/-- Slots that nobody reads any more. -/
def kill (ds : List Nat) (s : List AV) : List AV := ds.foldl (fun s d => s.set d .undef) s

/-- A loop: a relation with a number that every round lowers; the slots 'ds' are forgotten at its head; ahead of it blocks of one's own may be laid still. -/
def loopA (body : PostA → List AV → AHeap → Prop) (Q : PostA) (s : List AV) (h : AHeap) : Prop :=
  ∃ (J : Nat → List AV → AHeap → Prop) (n₀ : Nat) (ds : List Nat) (s₀ : List AV) (h₀ : AHeap), FzH h h₀ ∧ FzL h h₀ (kill ds s) s₀ ∧ J n₀ s₀ h₀ ∧
    ∀ n s h, J n s h → body (thenA (fun s' h' => ∃ n' s₁ h₁, n' < n ∧ FzH h' h₁ ∧ FzL h' h₁ (kill ds s') s₁ ∧ J n' s₁ h₁) Q) s h

def condA (x y : PostA → List AV → AHeap → Prop) (Q : PostA) (s : List AV) (h : AHeap) (t : Bool) : Prop := (t = true → x Q s h) ∧ (t = false → y Q s h)

def exec (P : Program) : ACode → PostA → List AV → AHeap → Prop
  | .skip, Q, s, h => Q .normal s h
  | .reg ops, Q, s, h => awOps P ops (Q .normal) s h
  | .regD ops, Q, s, h => awD P ops [] (Q .normal) s h
  | .seq a b, Q, s, h => exec P a (thenA (exec P b Q) Q) s h
  | .cond c x y, Q, s, h => match ev s c with
    | .bool t => condA (exec P x) (exec P y) Q s h t
    | _ => False
  | .block id c, Q, s, h => exec P c (blockQ c id Q) s h
  | .loop c, Q, s, h => loopA (exec P c) Q s h
  | .exit id, Q, s, h => Q (.exit id) s h
  | .ret, Q, s, h => Q .ret s h

def cCode (P : Program) (F : List Nat) : Code → Option ACode
  | .skip => some .skip
  | .label _ => some .skip
  | .region _ ops false => (cOpers P F ops ops.toList).map .reg
  | .region _ ops true => if P.follows .mixedOrders then (cRegD P F ops).map .regD else none
  | .seq a b => match cCode P F a, cCode P F b with | some x, some y => some (.seq x y) | _, _ => none
  | .cond c a b => match cArg c, cCode P F a, cCode P F b with | some c, some x, some y => some (.cond c x y) | _, _, _ => none
  | .block id c => (cCode P F c).map (.block id)
  | .loop c => (cCode P F c).map .loop
  | .exit id => some (.exit id)
  | .scope c => cCode P F c
  | .ret => some .ret
  | _ => none

theorem kill_sound {W0 : World} : ∀ (ds : List Nat) {s : List AV} {l : List Value}, VRs W0 s l → VRs W0 (kill ds s) l
  | [], s, l, h => h
  | d :: ds, s, l, h => by
    refine kill_sound ds (s := s.set d .undef) ?_
    cases hv : l[d]? with
    | none =>
      have : l.length ≤ d := by simpa using hv
      rw [List.set_eq_of_length_le (by rw [← VRs_length h]; exact this)]; exact h
    | some v =>
      have e : l.set d v = l := by
        have hlt := (List.getElem?_eq_some_iff.1 hv).1
        rw [← (List.getElem?_eq_some_iff.1 hv).2]; exact List.set_getElem_self hlt
      rw [← e]; exact VRs_set h d (by simp only [VR])

section
variable {P : Program} {F : List Nat}

theorem awOps_sound {ops : Array Oper} {Q : Exit → Act → World → Prop} : ∀ (l : List Oper) (al : List AOper) (K : List AV → AHeap → Prop) (W0 : World) (s : List AV) (h : AHeap) (a : Act) (w : World), cOpers P F ops l = some al → awOps P al K s h → L W0 s h a w →
    (∀ W1 s' h' a' w', L W1 s' h' a' w' → Fr W0 h w W1 h' w' → K s' h' → Q .normal a' w') → wpList P ops Q l a w
  | [], al, K, W0, s, h, a, w, hc, hk, hl, hq => by
    simp [cOpers] at hc; subst hc
    exact hq W0 s h a w hl (Fr.refl _ _ _) hk
  | o :: l, al, K, W0, s, h, a, w, hc, hk, hl, hq => by
    simp only [cOpers] at hc
    split at hc <;> cases hc
    rename_i ao al' h1 h2
    obtain ⟨ao0, hop, hfz, hdst, hg⟩ := guard_spec h1
    have step : aw P ao.op (fun v h' => awOps P al' K (put s ao.dst v) h') s h → o.wp P a w (wpList P ops Q l) Q := fun k => by
      rw [hfz] at k
      refine aw_soundF hop hl.slots hl.rel k fun W1 v u h' w' hu hr hf kk => ?_
      rw [← hdst] at hu
      exact awOps_sound l al' K W1 _ h' _ w' h2 kk ⟨hu, by rw [put_defers]; exact hl.defers, hr⟩ fun W2 s2 h2 a2 w2 l2 f2 k2 => hq W2 s2 h2 a2 w2 l2 (hf.trans f2) k2
    simp only [awOps, awOper] at hk
    unfold wpList
    rcases hg with ⟨g1, g2⟩ | ⟨j, want, t, g1, ht, gd, g2⟩
    · rw [g2] at hk
      rw [if_pos (by simp [Region.wanted, g1])]
      exact .inl (step hk)
    · rw [g2] at hk
      simp only at hk
      split at hk
      · rename_i b hb
        have hy := yielded_of hl.slots ht hb
        by_cases hbw : b = want
        · rw [if_pos (by simp [Region.wanted, g1, hy, hbw])]
          exact .inl (step (hk.1 hbw))
        · have hb2 : b = !want := by revert hbw; cases b <;> cases want <;> simp
          rw [if_neg (by simp [Region.wanted, g1, hy, hbw])]
          have kk := hk.2 hb2
          rw [gd] at kk
          exact awOps_sound l al' K W0 _ h _ w h2 kk (hl.skip o.dst) hq
      · rename_i hb
        have hy := yielded_no hl.slots ht hb
        rw [if_neg (by simp [Region.wanted, g1, hy])]
        rw [gd] at hk
        exact awOps_sound l al' K W0 _ h _ w h2 hk (hl.skip o.dst) hq
      · exact hk.elim

def noG : Exit → Prop
  | .goto _ => False
  | _ => True

/-- What the machine's exits are asked. -/
def lift (W0 : World) (h : AHeap) (w : World) (Q : PostA) : Exit → Act → World → Prop := fun e a' w' => ∃ W1 s' h', L W1 s' h' a' w' ∧ Fr W0 h w W1 h' w' ∧ Q e s' h' ∧ noG e

theorem exec_sound : ∀ (c : Code) (ac : ACode) (Q : PostA) (W0 : World) (s : List AV) (h : AHeap) (a : Act) (w : World), cCode P F c = some ac → exec P ac Q s h → L W0 s h a w → c.wp P (lift W0 h w Q) a w
  | .skip, ac, Q, W0, s, h, a, w, hc, hk, hl => by
    simp only [cCode] at hc; cases hc
    exact wp_skip ⟨W0, s, h, hl, Fr.refl _ _ _, hk, trivial⟩
  | .label l, ac, Q, W0, s, h, a, w, hc, hk, hl => by
    simp only [cCode] at hc; cases hc
    exact wp_label ⟨W0, s, h, hl, Fr.refl _ _ _, hk, trivial⟩
  | .region id ops d, ac, Q, W0, s, h, a, w, hc, hk, hl => by
    cases d
    · simp only [cCode, Option.map_eq_some_iff] at hc
      obtain ⟨al, hal, rfl⟩ := hc
      exact wp_region_list (awOps_sound ops.toList al _ W0 s h a w hal hk hl fun W1 s' h' a' w' l' f' k' => ⟨W1, s', h', l', f', k', trivial⟩)
    · simp only [cCode] at hc
      split at hc
      · rename_i hm
        simp only [Option.map_eq_some_iff] at hc
        obtain ⟨D, hD, rfl⟩ := hc
        have hd := drew_rel (w' := { w with drawn := w.drawn + 1 }) hl.rel rfl rfl rfl rfl
        exact wp_region_any hm (regD_sound (W0 := W0) hD (K := Q .normal) ⟨hl.slots, hl.defers, hd.1⟩ hk fun W1 s' h' a' w' l' f' k' => ⟨W1, s', h', l', hd.2.trans f', k', trivial⟩)
      · cases hc
  | .seq x y, ac, Q, W0, s, h, a, w, hc, hk, hl => by
    simp only [cCode] at hc
    split at hc <;> cases hc
    rename_i ax ay hx hy
    refine wp_seq (wp_mono (exec_sound x ax _ W0 s h a w hx hk hl) ?_)
    rintro e a' w' ⟨W1, s', h', l', f', k', g'⟩
    cases e with
    | normal =>
      refine wp_mono (exec_sound y ay Q W1 s' h' a' w' hy k' l') ?_
      rintro e a2 w2 ⟨W2, s2, h2, l2, f2, k2, g2⟩
      exact ⟨W2, s2, h2, l2, f'.trans f2, k2, g2⟩
    | _ => exact ⟨W1, s', h', l', f', k', g'⟩
  | .cond c x y, ac, Q, W0, s, h, a, w, hc, hk, hl => by
    simp only [cCode] at hc
    split at hc <;> cases hc
    rename_i c' ax ay h1 hx hy
    simp only [exec] at hk
    split at hk
    · rename_i t ht
      have hv := cArg_sound hl.slots h1
      rw [ht] at hv; simp only [VR] at hv
      exact wp_cond_split hv (fun e => exec_sound x ax Q W0 s h a w hx (hk.1 e) hl) (fun e => exec_sound y ay Q W0 s h a w hy (hk.2 e) hl)
    · exact hk.elim
  | .block id c, ac, Q, W0, s, h, a, w, hc, hk, hl => by
    simp only [cCode, Option.map_eq_some_iff] at hc
    obtain ⟨ax, hx, rfl⟩ := hc
    refine wp_block (wp_mono (exec_sound c ax _ W0 s h a w hx hk hl) ?_)
    rintro e a' w' ⟨W1, s', h', l', f', k', g'⟩
    cases e with
    | exit i =>
      simp only [Exit.inBlock]
      have k2 : if i = id then (frzA (Q .normal) s' h' ∨ Q .normal s' h') else Q (.exit i) s' h' := by
        cases ax <;> simp only [blockQ, blockF, blockA] at k' <;> (split at k' <;> rename_i hi <;> simp only [hi, if_true, if_false]) <;> first | exact .inl k' | exact .inr k' | exact k'
      split
      · rename_i hi; rw [if_pos hi] at k2
        rcases k2 with ⟨s2, h2, z0, z1, k2⟩ | k2
        · obtain ⟨r1, f1⟩ := l'.rel.still z0
          exact ⟨_, s2, h2, ⟨FzL_sound l'.rel z1 _ l'.slots, l'.defers, r1⟩, f'.trans f1, k2, trivial⟩
        · exact ⟨W1, s', h', l', f', k2, trivial⟩
      · rename_i hi; rw [if_neg hi] at k2; exact ⟨W1, s', h', l', f', k2, trivial⟩
    | _ => refine ⟨W1, s', h', l', f', ?_, g'⟩; cases ax <;> exact k'
  | .loop c, ac, Q, W0, s, h, a, w, hc, hk, hl => by
    simp only [cCode, Option.map_eq_some_iff] at hc
    obtain ⟨ax, hx, rfl⟩ := hc
    obtain ⟨J, n₀, ds, s₀, h₀, z0, z1, h0, round⟩ := hk
    have enter : ∀ {W1 : World} {s' : List AV} {h' : AHeap} {a' : Act} {w' : World} {s₁ : List AV} {h₁ : AHeap}, L W1 s' h' a' w' → Fr W0 h w W1 h' w' → FzH h' h₁ → FzL h' h₁ (kill ds s') s₁ → ∃ W2, L W2 s₁ h₁ a' w' ∧ Fr W0 h w W2 h₁ w' := by
      intro W1 s' h' a' w' s₁ h₁ l' f' y0 y1
      obtain ⟨r1, f1⟩ := l'.rel.still y0
      exact ⟨_, ⟨FzL_sound l'.rel y1 _ (kill_sound ds l'.slots), l'.defers, r1⟩, f'.trans f1⟩
    refine wp_loop_ghost (fun n a' w' => ∃ W1 s' h', L W1 s' h' a' w' ∧ Fr W0 h w W1 h' w' ∧ J n s' h') n₀ ?_ ?_
    · obtain ⟨W2, l2, f2⟩ := enter hl (Fr.refl _ _ _) z0 z1
      exact ⟨W2, s₀, h₀, l2, f2, h0⟩
    rintro n a' w' ⟨W1, s', h', l', f', hj⟩
    refine wp_mono (exec_sound c ax _ W1 s' h' a' w' hx (round n s' h' hj) l') ?_
    rintro e a2 w2 ⟨W2, s2, h2, l2, f2, k2, g2⟩
    cases e with
    | normal =>
      obtain ⟨n', s₁, h₁, hlt, y0, y1, hj'⟩ := k2
      obtain ⟨W3, l3, f3⟩ := enter l2 (f'.trans f2) y0 y1
      exact ⟨n', hlt, W3, s₁, h₁, l3, f3, hj'⟩
    | _ => exact ⟨W2, s2, h2, l2, f'.trans f2, k2, g2⟩
  | .exit id, ac, Q, W0, s, h, a, w, hc, hk, hl => by
    simp only [cCode] at hc; cases hc
    exact wp_exit ⟨W0, s, h, hl, Fr.refl _ _ _, hk, trivial⟩
  | .scope c, ac, Q, W0, s, h, a, w, hc, hk, hl => by
    simp only [cCode] at hc
    refine wp_scope_straight (wp_mono (exec_sound c ac _ W0 s h a w hc hk hl) ?_)
    rintro e a' w' ⟨W1, s', h', l', f', k', g'⟩
    cases e with
    | goto l => exact g'.elim
    | _ => exact ⟨W1, s', h', l', f', k', trivial⟩
  | .ret, ac, Q, W0, s, h, a, w, hc, hk, hl => by
    simp only [cCode] at hc; cases hc
    exact wp_ret ⟨W0, s, h, hl, Fr.refl _ _ _, hk, trivial⟩
  | .rangeFunc .., ac, Q, W0, s, h, a, w, hc, hk, hl => by simp only [cCode] at hc; cases hc
  | .goto _, ac, Q, W0, s, h, a, w, hc, hk, hl => by simp only [cCode] at hc; cases hc
  | .refuse _, ac, Q, W0, s, h, a, w, hc, hk, hl => by simp only [cCode] at hc; cases hc

end

/-! ### A function's contract from its body -/

inductive RV where
  | t (n : Nat)
  | m (a : Nat) (g : Bool) (n : Nat)

def cRes (P : Program) : List ResultVar → Option (List RV)
  | [] => some []
  | .tmp t :: l => (cRes P l).map (.t t :: ·)
  | .cell a t :: l => match tAgg P t, tSize P t, cRes P l with
    | some g, some n, some r => some (.m a g n :: r)
    | _, _, _ => none

def resOne (s : List AV) (h : AHeap) : RV → Option AV
  | .t n => some (s.getD n .undef)
  | .m a g n => if g then (aloads h n (s.getD a .undef)).map .agg else aload h (s.getD a .undef)

def resAll (s : List AV) (h : AHeap) : List RV → Option (List AV)
  | [] => some []
  | r :: l => match resOne s h r, resAll s h l with
    | some v, some vs => some (v :: vs)
    | _, _ => none

def tupA : List AV → AV
  | [v] => v
  | vs => .tup vs

def retA (rs : List RV) (R : AV → AHeap → Prop) : PostA := fun e s h =>
  (e = .normal ∨ e = .ret) ∧ ∃ vs vs' h', resAll s h rs = some vs ∧ FzH h h' ∧ FzL h h' vs vs' ∧ R (tupA vs') h'

section
variable {P : Program} {W0 : World} {F : List Nat}

theorem resAll_sound {s : List AV} {h : AHeap} {a : Act} {w : World} (hl : L W0 s h a w) : ∀ (rs : List ResultVar) (cs : List RV) (vs : List AV), cRes P rs = some cs → resAll s h cs = some vs →
    ∃ us, VRs W0 vs us ∧ ((rs.mapM fun r => match r with | .tmp t => pure (a.tmps.getD t undef) | .cell x t => do loadVar t (← asAddr (a.tmps.getD x undef)) : Sem (List Value)).run P w) = .ok us w
  | [], cs, vs, hc, hv => by simp [cRes] at hc; subst hc; simp [resAll] at hv; subst hv; exact ⟨[], VRs_nil, by simp⟩
  | .tmp t :: rs, cs, vs, hc, hv => by
    simp only [cRes, Option.map_eq_some_iff] at hc
    obtain ⟨cs', h1, rfl⟩ := hc
    simp only [resAll, resOne] at hv
    split at hv <;> cases hv
    rename_i v vs' e1 e2
    cases e1
    obtain ⟨us, hu, hr⟩ := resAll_sound hl rs cs' vs' h1 e2
    exact ⟨_, VRs_cons (getD_sound hl.slots t) hu, by simp only [List.mapM_cons, Sem.run_bind, Sem.run_pure, Result.andThen_ok, hr]⟩
  | .cell x t :: rs, cs, vs, hc, hv => by
    simp only [cRes] at hc
    split at hc <;> cases hc
    rename_i g n cs' hg hn h1
    simp only [resAll, resOne] at hv
    split at hv <;> cases hv
    rename_i v vs' e1 e2
    obtain ⟨us, hu, hr⟩ := resAll_sound hl rs cs' vs' h1 e2
    have hp := getD_sound hl.slots x
    cases g
    · simp only [Bool.false_eq_true, if_false] at e1
      obtain ⟨q, c, hpv, hcell, hvc⟩ := aload_sound hl.rel hp e1
      have hA : (asAddr (a.tmps.getD x undef)).run P w = .ok q w := by rw [hpv]; simp [asAddr]
      have hV : (loadVar t q).run P w = .ok c w := by simp [loadVar, run_isAgg hg, hcell]
      exact ⟨_, VRs_cons hvc hu, by simp only [List.mapM_cons, Sem.run_bind, hA, hV, Result.andThen_ok, hr, Sem.run_pure]⟩
    · simp only [if_true, Option.map_eq_some_iff] at e1
      obtain ⟨l, e1, rfl⟩ := e1
      obtain ⟨q, cv, hpv, hlen, hcell, hvc⟩ := aloads_sound hl.rel hp e1
      have := run_loadCells_list (P := P) (w := w) q cv hcell
      rw [hlen] at this
      refine ⟨.agg cv.toArray :: us, VRs_cons (by simp only [VR]; exact ⟨cv, rfl, hvc⟩) hu, ?_⟩
      have hA : (asAddr (a.tmps.getD x undef)).run P w = .ok q w := by rw [hpv]; simp [asAddr]
      have hV : (loadVar t q).run P w = .ok (.agg cv.toArray) w := by simp [loadVar, run_isAgg hg, run_sizeOf hn, this]
      simp only [List.mapM_cons, Sem.run_bind, hA, hV, Result.andThen_ok, hr, Sem.run_pure]

theorem tup_sound {vs : List AV} {us : List Value} (h : VRs W0 vs us) : VR W0 (tupA vs) (if h : us.toArray.size = 1 then us.toArray[0] else .tuple us.toArray) := by
  have hl := VRs_length h
  unfold tupA
  split
  · rename_i v
    simp only [VRs] at h
    obtain ⟨u, l', rfl, hu, rfl⟩ := h
    simpa using hu
  · rename_i hne
    have : ¬ us.toArray.size = 1 := by
      intro e
      have e2 : vs.length = 1 := by rw [← hl]; simpa using e
      obtain ⟨v, rfl⟩ := List.length_eq_one_iff.1 e2
      exact hne v rfl
    rw [dif_neg this]
    simp only [VR]; exact ⟨us, rfl, h⟩

theorem CallsA.enter {f : FuncId} {fn : Func} {c : Code} {ac : ACode} {rs : List RV} {args : List AV} {h : AHeap} {R : AV → AHeap → Prop} (hf : P.funcs[f]? = some fn) (hb : fn.body = some c) (hname : (fn.name == "runtime.NumGoroutine") = false)
    (hc : cCode P F c = some ac) (hr : cRes P fn.results.toList = some rs) (he : exec P ac (retA rs R) (args ++ List.replicate (fn.ntmps - args.length) .undef) h) : CallsA P f args h R := by
  refine ⟨⟨fn, hf, by rw [hb]; rfl, hname⟩, fun W0 w cargs hrel hargs => ?_⟩
  refine calls_of_wp hf hb (wp_mono (exec_sound c ac _ W0 _ h _ w hc he ⟨?_, rfl, hrel⟩) ?_)
  · simp only [Array.toList_append, Array.toList_replicate]
    have := VRs_length hargs
    refine VRs_append hargs (VRs_replicate_undef _ _ ?_)
    simp at this ⊢; omega
  · rintro e a' w' ⟨W1, s', h', l', f', ⟨hex, vs, vs', h2, hvs, hz, hzl, hR⟩, _⟩
    obtain ⟨us, hus, hrun⟩ := resAll_sound (P := P) l' fn.results.toList rs vs hr hvs
    have hres : (results fn a'.tmps).run P w' = .ok (if h : us.toArray.size = 1 then us.toArray[0] else .tuple us.toArray) w' := by
      unfold results
      rw [Array.mapM_eq_mapM_toList]
      simp only [Sem.run_bind, Sem.run_map, Sem.run_pure]
      erw [hrun]
      rfl
    obtain ⟨r2, f2⟩ := l'.rel.still hz
    have hus2 := FzL_sound l'.rel hzl _ hus
    have fin : a'.defers = [] ∧ ∃ v, (results fn a'.tmps).run P w' = .ok v w' ∧ ∃ W1 v' r h', Ending.returned v = .returned v' ∧ VR W1 r v' ∧ Rel W1 h' w' ∧ Fr W0 h w W1 h' w' ∧ R r h' :=
      ⟨l'.defers, _, hres, _, _, _, h2, rfl, tup_sound hus2, r2, f'.trans f2, hR⟩
    rcases hex with rfl | rfl
    · exact fin
    · exact fin

end
end Go.Proofs.Ytaeppifdbcoipaa.E
