/-
  Regions that draw their order: one order serves for all.
-/
import Derived.Test.YteijaibggalapaaGreatDoorEB
import Derived.Orders
namespace Go.Proofs.YteijaibggalapaaGreatDoor.E
open Go
set_option linter.unusedVariables false
set_option linter.unusedSimpArgs false

/-! ### Monotone; what an operation looks at -/

section
variable {P : Program}

theorem grows_mono {h : AHeap} {esz need : Nat} {cells : List AV} {K K' : AV → AHeap → Prop} (hk : ∀ v h', K v h' → K' v h') (g : grows h esz need cells K) : grows h esz need cells K' :=
  fun id cap h1 h2 => hk _ _ (g id cap h1 h2)

theorem append_mono {h : AHeap} {esz b : Nat} {x y : AV} {K K' : AV → AHeap → Prop} (hk : ∀ v h', K v h' → K' v h') (g : appendA h esz b x y K) : appendA h esz b x y K' := by
  obtain ⟨old, new, h1, h2, h3, h4, h5⟩ := g
  refine ⟨old, new, h1, h2, h3, fun e => hk _ _ (h4 e), fun e => ?_⟩
  have h6 := h5 e
  split at h6
  · exact grows_mono hk h6
  · exact grows_mono hk h6
  · obtain ⟨cs, tot, g1, g2, g3, g4⟩ := h6
    exact ⟨cs, tot, g1, g2, fun e => ⟨(g3 e).1, hk _ _ (g3 e).2⟩, fun e => (g4 e).imp (grows_mono hk) (grows_mono hk)⟩
  · exact h6.elim

theorem copy_mono {h : AHeap} {esz : Nat} {x y : AV} {K K' : AV → AHeap → Prop} (hk : ∀ v h', K v h' → K' v h') (g : copyA h esz x y K) : copyA h esz x y K' := by
  obtain ⟨new, h1, h2⟩ := g
  refine ⟨new, h1, ?_⟩
  split at h2
  · exact hk _ _ h2
  · obtain ⟨cs, tot, g1, g2, g3, g4⟩ := h2; exact ⟨cs, tot, g1, g2, g3, hk _ _ g4⟩
  · exact h2.elim

theorem clear_mono {h : AHeap} {z : List AV} {x : AV} {K K' : AV → AHeap → Prop} (hk : ∀ v h', K v h' → K' v h') (g : clearA h z x K) : clearA h z x K' := by
  unfold clearA at g ⊢
  split at g
  · exact hk _ _ g
  · obtain ⟨cs, tot, g1, g2, g3, g4⟩ := g; exact ⟨cs, tot, g1, g2, g3, hk _ _ g4⟩
  · exact g.elim

theorem aw_mono {o : AOp} {K K' : AV → AHeap → Prop} {s : List AV} {h : AHeap} (hk : ∀ v h', K v h' → K' v h') (g : aw P o K s h) : aw P o K' s h := by
  cases o with
  | alloc z => exact fun id e => hk _ _ (g id e)
  | box x => obtain ⟨l, h1, h2⟩ := g; exact ⟨l, h1, fun id e => hk _ _ (h2 id e)⟩
  | buildSlice n ps => obtain ⟨l, h1, h2⟩ := g; exact ⟨l, h1, fun id e => hk _ _ (h2 id e)⟩
  | loadG g' k => exact fun n => hk _ _ (g n)
  | b2s x => obtain ⟨cs, xs, h1, h2, h3⟩ := g; exact ⟨cs, xs, h1, h2, hk _ _ h3⟩
  | load g' n x => obtain ⟨v, h1, h2⟩ := g; exact ⟨v, h1, hk _ _ h2⟩
  | store n x v => obtain ⟨l, h', h1, h2, h3, h4, h5⟩ := g; exact ⟨l, h', h1, h2, h3, h4, hk _ _ h5⟩
  | storeF n x v => obtain ⟨id, cs, tot, l, h1, h2, h3, h4, h5, h6, h7⟩ := g; exact ⟨id, cs, tot, l, h1, h2, h3, h4, h5, h6, hk _ _ h7⟩
  | makeSlice b z l c => obtain ⟨n, m, h1, h2, h3, h4, h5, h6⟩ := g; exact ⟨n, m, h1, h2, h3, h4, h5, fun id e => hk _ _ (h6 id e)⟩
  | call f args =>
    simp only [aw] at g ⊢
    split at g
    · obtain ⟨h', args', g1, g2, g3⟩ := g; exact ⟨h', args', g1, g2, g3.mono hk⟩
    · obtain ⟨h', args', g1, g2, g3⟩ := g; exact ⟨h', args', g1, g2, g3.mono hk⟩
    · exact g.elim
  | append n b x y => exact append_mono hk g
  | appendN n b z x y =>
    simp only [aw, appendNA] at g ⊢
    split at g
    · obtain ⟨old, g1, g2, g3, g4⟩ := g
      refine ⟨old, g1, g2, g3, ?_⟩
      split at g4
      · exact ⟨fun e => hk _ _ (g4.1 e), fun e => grows_mono hk (g4.2 e)⟩
      · obtain ⟨cs, tot, q1, q2, q3, q4⟩ := g4
        exact ⟨cs, tot, q1, q2, fun e => ⟨(q3 e).1, hk _ _ (q3 e).2⟩, fun e => (q4 e).imp (grows_mono hk) (grows_mono hk)⟩
      · exact g4.elim
    · exact g.elim
  | copy n x y => exact copy_mono hk g
  | clear z x => exact clear_mono hk g
  | mkMap => exact fun id e => hk _ _ (g id e)
  | mapOp mo xs => obtain ⟨r, h1, h2⟩ := g; exact ⟨r, h1, hk _ _ h2⟩
  | _ => obtain ⟨v, h1, h2⟩ := g; exact ⟨v, h1, hk _ _ h2⟩

theorem awOper_mono {o : AOper} {K K' : List AV → AHeap → Prop} {s : List AV} {h : AHeap} (hk : ∀ s' h', K s' h' → K' s' h') (g : awOper P o K s h) : awOper P o K' s h := by
  unfold awOper at g ⊢
  split
  · rename_i e; rw [e] at g
    exact aw_mono (fun v h' k => hk _ _ k) g
  · rename_i t w e; rw [e] at g
    simp only at g
    split at g
    · exact ⟨fun e => aw_mono (fun v h' k => hk _ _ k) (g.1 e), fun e => hk _ _ (g.2 e)⟩
    · exact hk _ _ g
    · exact g.elim

def argsOf : AOp → List AArg
  | .mv x | .box x | .boxF x | .load _ _ x | .nilCheck x | .un _ x | .conv _ x | .field _ _ _ x | .fieldAddr _ x | .extract x _ | .len _ x | .cap x | .clear _ x | .sap _ x | .b2s x | .s2b x | .eqi _ x | .mki _ x => [x]
  | .pick a b c => [a, b, c]
  | .alloc _ | .mkMap | .loadG .. => []
  | .mapOp _ l => l
  | .build _ ps => ps.map (·.2.2)
  | .buildSlice _ ps | .lit _ ps => ps
  | .store _ x y | .storeF _ x y | .bin _ x y | .eqb _ x y | .eqn _ _ x y | .eqs _ _ x y | .makeSlice _ _ x y | .indexAddr _ x y | .indexArr _ _ x y | .append _ _ x y | .appendN _ _ _ x y | .copy _ x y | .idxS x y | .idxV _ _ _ x y => [x, y]
  | .makeFunc _ l | .bindF _ l | .min l | .max l => l
  | .slice _ x lo hi mx | .sliceP _ _ x lo hi mx => x :: (lo.toList ++ hi.toList ++ mx.toList)
  | .sliceS x lo hi => x :: (lo.toList ++ hi.toList)
  | .call f l | .callY f l => f :: l
  | .rng x | .nxt x | .ent x => [x]
  | .bad => []

theorem catA_congr {s s' : List AV} {n : Nat} : ∀ {l : List AArg}, (∀ x ∈ l, ev s x = ev s' x) → catA s n l = catA s' n l
  | [], _ => rfl
  | x :: l, h => by simp only [catA, h x (by simp), catA_congr (l := l) fun y hy => h y (by simp [hy])]

theorem fillA_congr {s s' : List AV} : ∀ {l : List (Nat × Nat × AArg)} {cs : List AV}, (∀ x ∈ l.map (·.2.2), ev s x = ev s' x) → fillA s cs l = fillA s' cs l
  | [], _, _ => rfl
  | (o, n, x) :: l, cs, h => by
    simp only [fillA, h x (by simp)]
    split
    · split
      · exact fillA_congr fun y hy => h y (by simp at hy ⊢; exact .inr hy)
      · rfl
    · rfl

theorem opt_congr {s s' : List AV} {o : Option AArg} (h : ∀ x ∈ o.toList, ev s x = ev s' x) : o.map (ev s) = o.map (ev s') := by
  cases o with
  | none => rfl
  | some x => simp [h x (by simp)]

theorem aw_congr {o : AOp} {K : AV → AHeap → Prop} {s s' : List AV} {h : AHeap} (he : ∀ x ∈ argsOf o, ev s x = ev s' x) : aw P o K s h = aw P o K s' h := by
  cases o <;> simp only [argsOf, List.mem_cons, List.mem_nil_iff, or_false, forall_eq_or_imp, forall_eq] at he <;> simp only [aw, pv]
  case build z ps => rw [fillA_congr he]
  case buildSlice n ps => rw [catA_congr he]
  case lit n ps => rw [catA_congr he]
  case makeFunc f l => rw [List.map_congr_left he]
  case bindF f l => rw [List.map_congr_left he]
  case min l => rw [List.map_congr_left he]
  case mapOp mo l => rw [List.map_congr_left he]
  case max l => rw [List.map_congr_left he]
  case call f l => rw [he.1, List.map_congr_left he.2]
  case slice n x lo hi mx =>
    rw [he.1, opt_congr fun x hx => he.2 x (by simp [hx]), opt_congr (o := hi) fun x hx => he.2 x (by simp [hx]), opt_congr (o := mx) fun x hx => he.2 x (by simp [hx])]
  case sliceP m n x lo hi mx =>
    rw [he.1, opt_congr fun x hx => he.2 x (by simp [hx]), opt_congr (o := hi) fun x hx => he.2 x (by simp [hx]), opt_congr (o := mx) fun x hx => he.2 x (by simp [hx])]
  case sliceS x lo hi =>
    rw [he.1, opt_congr fun x hx => he.2 x (by simp [hx]), opt_congr (o := hi) fun x hx => he.2 x (by simp [hx])]
  all_goals simp_all

def slotOf : AArg → List Nat
  | .t n => [n]
  | .c _ => []

/-- The slots that an operation looks at, its guard's too. -/
def looks (o : AOper) : List Nat := (argsOf o.op).flatMap slotOf ++ (match o.guard with | some (t, _) => [t] | none => [])

theorem ev_put {s : List AV} {d : Option Nat} {v : AV} {x : AArg} (h : ∀ n, d = some n → n ∉ slotOf x) : ev (put s d v) x = ev s x := by
  cases d with
  | none => rfl
  | some n =>
    cases x with
    | t m =>
      have : n ≠ m := by have := h n rfl; simp [slotOf] at this; exact this
      simp [ev, put, List.getD_eq_getElem?_getD, List.getElem?_set_ne this]
    | c v => rfl

theorem args_put {o : AOper} {s : List AV} {d : Option Nat} {v : AV} (h : ∀ n, d = some n → n ∉ looks o) : ∀ x ∈ argsOf o.op, ev (put s d v) x = ev s x := fun x hx =>
  ev_put fun n hn hm => h n hn (List.mem_append_left _ (List.mem_flatMap.2 ⟨x, hx, hm⟩))

theorem guard_put {o : AOper} {s : List AV} {d : Option Nat} {v : AV} (h : ∀ n, d = some n → n ∉ looks o) {t : Nat} {w : Bool} (hg : o.guard = some (t, w)) : (put s d v).getD t .undef = s.getD t .undef := by
  have := ev_put (s := s) (d := d) (v := v) (x := .t t) (fun n hn hm => h n hn (by
    simp [slotOf] at hm
    subst hm
    simp [looks, hg]))
  exact this

theorem put_comm {s : List AV} {d e : Option Nat} {v u : AV} (h : ∀ n, d = some n → e ≠ some n) : put (put s d v) e u = put (put s e u) d v := by
  cases d with
  | none => rfl
  | some n =>
    cases e with
    | none => rfl
    | some m =>
      have : n ≠ m := fun hh => h n rfl (by rw [hh])
      simp only [put]
      exact List.set_comm _ _ this

/-- Whether the guard lets it be done; none: the guard cannot be told. -/
def active (o : AOper) (s : List AV) : Option Bool :=
  match o.guard with
  | none => some true
  | some (t, w) => match s.getD t .undef with
    | .bool b => some (b == w)
    | .tup [] => some false
    | _ => none

theorem active_put {o : AOper} {s : List AV} {d : Option Nat} {v : AV} (h : ∀ n, d = some n → n ∉ looks o) : active o (put s d v) = active o s := by
  unfold active
  split
  · rfl
  · rename_i t w hg; rw [guard_put h hg]

theorem awOper_iff {o : AOper} {K : List AV → AHeap → Prop} {s : List AV} {h : AHeap} : awOper P o K s h ↔
    (active o s = some true ∧ aw P o.op (fun v h' => K (put s o.dst v) h') s h) ∨ (active o s = some false ∧ K (put s o.dst (.tup [])) h) := by
  rcases hg : o.guard with _ | ⟨t, w⟩
  · have ea : active o s = some true := by unfold active; rw [hg]
    have eo : awOper P o K s h = aw P o.op (fun v h' => K (put s o.dst v) h') s h := by unfold awOper; rw [hg]; rfl
    rw [ea, eo]; simp
  · have other : active o s = none → awOper P o K s h = False → (awOper P o K s h ↔ (active o s = some true ∧ aw P o.op (fun v h' => K (put s o.dst v) h') s h) ∨ (active o s = some false ∧ K (put s o.dst (.tup [])) h)) := by
      intro e1 e2; rw [e1, e2]; simp
    cases hb : s.getD t .undef with
    | bool b =>
      have ea : active o s = some (b == w) := by unfold active; rw [hg]; simp only [hb]
      have eo : awOper P o K s h = guardA P o.op o.dst K s h w b := by unfold awOper; rw [hg]; simp only [hb]
      have k1 : aw P o.op (kput K s o.dst) s h = aw P o.op (fun v h' => K (put s o.dst v) h') s h := rfl
      rw [ea, eo]
      unfold guardA
      rw [k1]
      cases b <;> cases w <;> simp
    | tup vs =>
      cases vs with
      | nil =>
        have ea : active o s = some false := by unfold active; rw [hg]; simp only [hb]
        have eo : awOper P o K s h = K (put s o.dst (.tup [])) h := by unfold awOper; rw [hg]; simp only [hb]
        rw [ea, eo]; simp
      | cons x l => exact other (by unfold active; rw [hg]; simp only [hb]) (by unfold awOper; rw [hg]; simp only [hb])
    | _ => exact other (by unfold active; rw [hg]; simp only [hb]) (by unfold awOper; rw [hg]; simp only [hb])

/-! ### Kinds -/

inductive Kind where
  | pure | read | alloc | eff
  deriving DecidableEq

def kindOf : AOp → Kind
  | .alloc _ | .box _ | .buildSlice .. | .makeSlice .. | .mkMap => .alloc
  | .load .. => .read
  | .loadG .. | .b2s .. | .store .. | .storeF .. | .call .. | .append .. | .appendN .. | .copy .. | .clear .. | .mapOp .. => .eff
  | _ => .pure

theorem aw_pure {o : AOp} (hk : kindOf o = .pure) {K : AV → AHeap → Prop} {s : List AV} {h : AHeap} : aw P o K s h ↔ ∃ v, pv s o = some v ∧ K v h := by
  cases o <;> first | (cases hk; done) | rfl

/-- An allocation: what the new block and the value are hangs on the slots alone. -/
theorem aw_alloc' {o : AOp} (hk : kindOf o = .alloc) (s : List AV) : ∃ (c : Prop) (f : Nat → AV) (ob : AObj), ∀ (K : AV → AHeap → Prop) (h : AHeap), aw P o K s h ↔ (c ∧ ∀ id, h id = none → K (f id) (upd h id ob)) := by
  cases o <;> first | (cases hk; done) | skip
  case alloc z => exact ⟨True, fun id => .ptr id 0, .cells z z.length, fun K h => by simp [aw]⟩
  case mkMap => exact ⟨True, fun id => .map id, .map [] 0, fun K h => by simp [aw]⟩
  case box x =>
    cases e : cellsOf (ev s x) with
    | none => exact ⟨False, fun id => .undef, .cells [] 0, fun K h => by simp [aw, e]⟩
    | some l => exact ⟨True, fun id => .ptr id 0, .cells l l.length, fun K h => by simp [aw, e]⟩
  case buildSlice n ps =>
    cases e : catA s n ps with
    | none => exact ⟨False, fun id => .undef, .cells [] 0, fun K h => by simp [aw, e]⟩
    | some l => exact ⟨True, fun id => .sl id 0 ps.length ps.length, .cells l l.length, fun K h => by simp [aw, e]⟩
  case makeSlice b z l c =>
    by_cases hc : ∃ n m : Nat, ev s l = .int .i64 n ∧ ev s c = .int .i64 m ∧ n ≤ m ∧ b * m ≤ 70368744177664 ∧ m < 9223372036854775807
    · obtain ⟨n, m, h1, h2, h3⟩ := hc
      refine ⟨True, fun id => .sl id 0 n m, .cells (zrep z m) (m * z.length), fun K h => ?_⟩
      simp only [aw, true_and]
      constructor
      · rintro ⟨n', m', e1, e2, e3, e4, e5, e6⟩
        rw [h1] at e1; rw [h2] at e2
        simp at e1 e2
        obtain rfl : n = n' := by omega
        obtain rfl : m = m' := by omega
        exact e6
      · intro e; exact ⟨n, m, h1, h2, h3.1, h3.2.1, h3.2.2, e⟩
    · refine ⟨False, fun id => .undef, .cells [] 0, fun K h => ?_⟩
      simp only [aw, false_and, iff_false]
      rintro ⟨n', m', e1, e2, e3, e4, e5, e6⟩
      exact hc ⟨n', m', e1, e2, e3, e4, e5⟩

/-! ### What is read -/

def rdv (g : Bool) (n : Nat) (p : AV) (h : AHeap) : Option AV := if g then (aloads h n p).map .agg else aload h p

theorem rdv_upd {g : Bool} {n : Nat} {p v : AV} {h : AHeap} {id : Nat} {ob : AObj} (hid : h id = none) (hv : rdv g n p h = some v) : rdv g n p (upd h id ob) = some v := by
  have key : ∀ x o, h x = some o → upd h id ob x = some o := fun x o hx => by
    have : x ≠ id := by rintro rfl; rw [hid] at hx; cases hx
    simp [upd, this, hx]
  unfold rdv at hv ⊢
  cases g
  · simp only [Bool.false_eq_true, if_false] at hv ⊢
    unfold aload at hv ⊢
    split at hv
    · split at hv
      · rename_i cs tot hx; rw [key _ _ hx]; exact hv
      · cases hv
    · exact hv
    · exact hv
    · cases hv
  · simp only [if_true, Option.map_eq_some_iff] at hv ⊢
    obtain ⟨l, hl, rfl⟩ := hv
    refine ⟨l, ?_, rfl⟩
    unfold aloads at hl ⊢
    split at hl
    · split at hl
      · rename_i cs tot hx; rw [key _ _ hx]; exact hl
      · cases hl
    · exact hl
    · cases hl

theorem aw_read {g : Bool} {n : Nat} {x : AArg} {K : AV → AHeap → Prop} {s : List AV} {h : AHeap} : aw P (.load g n x) K s h ↔ ∃ v, rdv g n (ev s x) h = some v ∧ K v h := Iff.rfl

/-- A value that was read. -/
structure RF where
  tag : Nat
  g : Bool
  n : Nat
  p : AV
  v : AV

def stab (f : RF) (h : AHeap) : Prop := rdv f.g f.n f.p h = some f.v

structure DOper where
  tag : Nat
  op : AOper
  un : List Nat
  keep : Bool

def rfOf (o : DOper) (s : List AV) (h : AHeap) (pre : List RF) : List RF :=
  match o.keep, o.op.op, active o.op s with
  | true, .load g n x, some true => match rdv g n (ev s x) h with
    | some v => ⟨o.tag, g, n, ev s x, v⟩ :: pre
    | none => pre
  | _, _, _ => pre

def awD (P : Program) : List DOper → List RF → (List AV → AHeap → Prop) → List AV → AHeap → Prop
  | [], _, K, s, h => K s h
  | o :: l, pre, K, s, h => match kindOf o.op.op with
    | .read => awOper P o.op (awD P l (rfOf o s h pre) K) s h
    | .eff => awOper P o.op (fun s' h' => (∀ f ∈ pre, f.tag ∈ o.un → stab f h') ∧ awD P l pre K s' h') s h
    | _ => awOper P o.op (awD P l pre K) s h

theorem awD_weaken : ∀ (l : List DOper) {pre pre' : List RF} {K : List AV → AHeap → Prop} {s : List AV} {h : AHeap}, (∀ f ∈ pre', f ∈ pre) → awD P l pre K s h → awD P l pre' K s h
  | [], pre, pre', K, s, h, hp, hk => hk
  | o :: l, pre, pre', K, s, h, hp, hk => by
    unfold awD at hk ⊢
    split
    · rename_i e; rw [e] at hk
      refine awOper_mono (fun s' h' k => awD_weaken l ?_ k) hk
      intro f hf
      unfold rfOf at hf ⊢
      split at hf
      · split at hf
        · rcases List.mem_cons.1 hf with hf | hf
          · exact List.mem_cons.2 (.inl hf)
          · exact List.mem_cons.2 (.inr (hp f hf))
        · exact hp f hf
      · exact hp f hf
    · rename_i e; rw [e] at hk
      exact awOper_mono (fun s' h' k => ⟨fun f hf => k.1 f (hp f hf), awD_weaken l hp k.2⟩) hk
    · rename_i e1 e2
      split at hk
      · rename_i e; exact absurd e e1
      · rename_i e; exact absurd e e2
      · exact awOper_mono (fun s' h' k => awD_weaken l hp k) hk

/-- Two operations that look at no slot that the other one writes. -/
def apartS (a b : AOper) : Bool :=
  (match a.dst with | some d => !(looks b).contains d && b.dst != some d | none => true) && (match b.dst with | some d => !(looks a).contains d | none => true)

theorem apartS_spec {a b : AOper} (h : apartS a b = true) : (∀ d, a.dst = some d → d ∉ looks b) ∧ (∀ d, b.dst = some d → d ∉ looks a) ∧ (∀ d, a.dst = some d → b.dst ≠ some d) := by
  simp only [apartS, Bool.and_eq_true] at h
  refine ⟨fun d hd => ?_, fun d hd => ?_, fun d hd => ?_⟩ <;> simp [hd] at h
  · exact h.1.1
  · exact h.2
  · exact h.1.2

def swapOK (k i : DOper) : Bool :=
  apartS k.op i.op && (match kindOf k.op.op, kindOf i.op.op with
    | .pure, _ | _, .pure | .read, .read | .read, .alloc | .alloc, .alloc | .eff, .alloc => true
    | .read, .eff => i.un.contains k.tag && k.keep
    | _, _ => false)

/-- The slots behind both, in either order. -/
theorem puts_comm {a b : AOper} (h : apartS a b = true) (s : List AV) (v u : AV) : put (put s a.dst v) b.dst u = put (put s b.dst u) a.dst v :=
  put_comm (apartS_spec h).2.2

/-- An operation at a state in which another one's slot is written already. -/
theorem awOper_put {a b : AOper} (hab : apartS a b = true) {K : List AV → AHeap → Prop} {s : List AV} {h : AHeap} (v : AV) :
    awOper P a (fun s' h' => K (put s' b.dst v) h') s h ↔ awOper P a K (put s b.dst v) h := by
  obtain ⟨h1, h2, h3⟩ := apartS_spec hab
  rw [awOper_iff, awOper_iff, active_put h2]
  have e : aw P a.op (fun v' h' => K (put (put s b.dst v) a.dst v') h') (put s b.dst v) h ↔ aw P a.op (fun v' h' => K (put (put s a.dst v') b.dst v) h') s h := by
    rw [aw_congr (args_put h2)]
    constructor <;> refine aw_mono fun v' h' k => ?_
    · rw [puts_comm hab]; exact k
    · rw [← puts_comm hab]; exact k
  rw [e, puts_comm hab]

theorem rfOf_put {o : DOper} {b : AOper} (hab : apartS o.op b = true) {s : List AV} {h : AHeap} {pre : List RF} (v : AV) : rfOf o (put s b.dst v) h pre = rfOf o s h pre := by
  obtain ⟨h1, h2, h3⟩ := apartS_spec hab
  unfold rfOf
  rw [active_put h2]
  have := args_put (v := v) (s := s) h2
  split
  · rename_i g n x e0 e1 e2
    rw [this x (by rw [e1]; simp [argsOf])]
  · rfl

/-- An operation that is pure, or whose guard says no, taken first. -/
def Yields (P : Program) (o : AOper) (s : List AV) (v : AV) : Prop := (active o s = some true ∧ kindOf o.op = .pure ∧ pv s o.op = some v) ∨ (active o s = some false ∧ v = .tup [])

def emp0 : AHeap := fun _ => none

theorem pv_congr {o : AOp} (hk : kindOf o = .pure) {s s' : List AV} (he : ∀ x ∈ argsOf o, ev s x = ev s' x) : pv s o = pv s' o := by
  have h := fun v => @aw_congr (default : Program) o (fun u _ => u = v) s s' emp0 he
  simp only [aw_pure hk] at h
  cases e : pv s' o with
  | some v => have := h v; rw [e] at this; simpa using this
  | none =>
    cases e2 : pv s o with
    | none => rfl
    | some v => have := h v; rw [e, e2] at this; simp at this

theorem awOper_mono' {o : AOper} {K K' : List AV → AHeap → Prop} {s : List AV} {h : AHeap} (hk : ∀ u h', K (put s o.dst u) h' → K' (put s o.dst u) h') (g : awOper P o K s h) : awOper P o K' s h := by
  rw [awOper_iff] at g ⊢
  rcases g with ⟨g1, g2⟩ | ⟨g1, g2⟩
  · exact .inl ⟨g1, aw_mono (fun v h' k => hk v h' k) g2⟩
  · exact .inr ⟨g1, hk _ _ g2⟩

theorem Yields.put {o b : AOper} (hab : apartS o b = true) {s : List AV} {v : AV} (y : Yields P o s v) (u : AV) : Yields P o (put s b.dst u) v := by
  obtain ⟨h1, h2, h3⟩ := apartS_spec hab
  rcases y with ⟨y1, y2, y3⟩ | ⟨y1, y2⟩
  · exact .inl ⟨by rw [active_put h2]; exact y1, y2, by rw [pv_congr y2 (args_put h2)]; exact y3⟩
  · exact .inr ⟨by rw [active_put h2]; exact y1, y2⟩

theorem apartS_symm {a b : AOper} (h : apartS a b = true) : apartS b a = true := by
  obtain ⟨h1, h2, h3⟩ := apartS_spec h
  simp only [apartS, Bool.and_eq_true]
  refine ⟨?_, ?_⟩
  · split
    · rename_i d hd
      simp only [Bool.and_eq_true, Bool.not_eq_true', bne_iff_ne, ne_eq]
      refine ⟨by simpa using h2 d hd, fun e => h3 d e hd⟩
    · rfl
  · split
    · rename_i d hd; simpa using h1 d hd
    · rfl

theorem pull_yields {i : DOper} {post : List DOper} {K : List AV → AHeap → Prop} {v : AV} : ∀ (l : List DOper) (pre : List RF) (s : List AV) (h : AHeap), (∀ k ∈ l, apartS k.op i.op = true) → Yields P i.op s v →
    awD P (l ++ i :: post) pre K s h → awD P (l ++ post) pre K (put s i.op.dst v) h
  | [], pre, s, h, ha, hy, hk => by
    simp only [List.nil_append] at hk ⊢
    rcases hy with ⟨y1, y2, y3⟩ | ⟨y1, rfl⟩
    · unfold awD at hk
      rw [y2] at hk
      simp only at hk
      rw [awOper_iff, y1] at hk
      simp only [true_and, Option.some.injEq, Bool.true_eq_false, false_and, or_false] at hk
      rw [aw_pure y2] at hk
      obtain ⟨u, hu, hk⟩ := hk
      rw [y3] at hu; cases hu
      exact hk
    · unfold awD at hk
      split at hk
      · rw [awOper_iff, y1] at hk
        simp only [Option.some.injEq, Bool.false_eq_true, false_and, true_and, false_or] at hk
        have : rfOf i s h pre = pre := by unfold rfOf; rw [y1]; split <;> simp_all
        rw [this] at hk; exact hk
      · rw [awOper_iff, y1] at hk
        simp only [Option.some.injEq, Bool.false_eq_true, false_and, true_and, false_or] at hk
        exact hk.2
      · rw [awOper_iff, y1] at hk
        simp only [Option.some.injEq, Bool.false_eq_true, false_and, true_and, false_or] at hk
        exact hk
  | k :: l, pre, s, h, ha, hy, hk => by
    have hab := ha k (by simp)
    have rec_ := fun pre s h => pull_yields (v := v) (K := K) (post := post) (i := i) l pre s h (fun q hq => ha q (by simp [hq]))
    simp only [List.cons_append] at hk ⊢
    unfold awD at hk ⊢
    split
    · rename_i e; rw [e] at hk
      rw [rfOf_put hab]
      rw [← awOper_put hab]
      exact awOper_mono' (fun u h' kk => rec_ _ _ _ (hy.put (apartS_symm hab) u) kk) hk
    · rename_i e; rw [e] at hk
      rw [← awOper_put (K := fun s' h' => (∀ f ∈ pre, f.tag ∈ k.un → stab f h') ∧ awD P (l ++ post) pre K s' h') hab]
      exact awOper_mono' (fun u h' kk => ⟨kk.1, rec_ _ _ _ (hy.put (apartS_symm hab) u) kk.2⟩) hk
    · rename_i e1 e2
      split at hk
      · rename_i e; exact absurd e e1
      · rename_i e; exact absurd e e2
      · rw [← awOper_put hab]
        exact awOper_mono' (fun u h' kk => rec_ _ _ _ (hy.put (apartS_symm hab) u) kk) hk

/-- A pure operation, or one that reads: it yields one value, memory as it was. -/
def Quiet (P : Program) (o : AOper) (s : List AV) (h : AHeap) (u : AV) : Prop :=
  (active o s = some true ∧ ((kindOf o.op = .pure ∧ pv s o.op = some u) ∨ ∃ g n x, o.op = .load g n x ∧ rdv g n (ev s x) h = some u)) ∨ (active o s = some false ∧ u = .tup [])

theorem quiet_iff {o : AOper} (hk : kindOf o.op = .pure ∨ kindOf o.op = .read) {K : List AV → AHeap → Prop} {s : List AV} {h : AHeap} : awOper P o K s h ↔ ∃ u, Quiet P o s h u ∧ K (put s o.dst u) h := by
  rw [awOper_iff]
  unfold Quiet
  rcases hk with hk | hk
  · have hno : ∀ g n x, o.op ≠ .load g n x := fun g n x e => by rw [e] at hk; cases hk
    constructor
    · rintro (⟨h1, h2⟩ | ⟨h1, h2⟩)
      · rw [aw_pure hk] at h2
        obtain ⟨v, h3, h4⟩ := h2
        exact ⟨v, .inl ⟨h1, .inl ⟨hk, h3⟩⟩, h4⟩
      · exact ⟨_, .inr ⟨h1, rfl⟩, h2⟩
    · rintro ⟨u, (⟨h1, (⟨_, h3⟩ | ⟨g, n, x, h3, _⟩)⟩ | ⟨h1, rfl⟩), h4⟩
      · exact .inl ⟨h1, (aw_pure hk).2 ⟨u, h3, h4⟩⟩
      · exact absurd h3 (hno g n x)
      · exact .inr ⟨h1, h4⟩
  · obtain ⟨g, n, x, ho⟩ : ∃ g n x, o.op = .load g n x := by
      cases e : o.op <;> rw [e] at hk <;> first | (cases hk; done) | exact ⟨_, _, _, rfl⟩
    have hnp : ¬ kindOf o.op = .pure := by rw [hk]; simp
    constructor
    · rintro (⟨h1, h2⟩ | ⟨h1, h2⟩)
      · rw [ho, aw_read] at h2
        obtain ⟨v, h3, h4⟩ := h2
        exact ⟨v, .inl ⟨h1, .inr ⟨g, n, x, ho, h3⟩⟩, h4⟩
      · exact ⟨_, .inr ⟨h1, rfl⟩, h2⟩
    · rintro ⟨u, (⟨h1, (⟨h2, _⟩ | ⟨g', n', x', h3, h4⟩)⟩ | ⟨h1, rfl⟩), h5⟩
      · exact absurd h2 hnp
      · refine .inl ⟨h1, ?_⟩
        rw [h3, aw_read]; exact ⟨u, h4, h5⟩
      · exact .inr ⟨h1, h5⟩

theorem Quiet.put {o b : AOper} (hab : apartS o b = true) {s : List AV} {h : AHeap} {v : AV} (y : Quiet P o s h v) (u : AV) : Quiet P o (put s b.dst u) h v := by
  obtain ⟨h1, h2, h3⟩ := apartS_spec hab
  rcases y with ⟨y1, (⟨y2, y3⟩ | ⟨g, n, x, y2, y3⟩)⟩ | ⟨y1, y2⟩
  · exact .inl ⟨by rw [active_put h2]; exact y1, .inl ⟨y2, by rw [pv_congr y2 (args_put h2)]; exact y3⟩⟩
  · exact .inl ⟨by rw [active_put h2]; exact y1, .inr ⟨g, n, x, y2, by rw [args_put h2 x (by rw [y2]; simp [argsOf])]; exact y3⟩⟩
  · exact .inr ⟨by rw [active_put h2]; exact y1, y2⟩

theorem Quiet.upd {o : AOper} {s : List AV} {h : AHeap} {v : AV} {id : Nat} {ob : AObj} (hid : h id = none) (y : Quiet P o s h v) : Quiet P o s (upd h id ob) v := by
  rcases y with ⟨y1, (⟨y2, y3⟩ | ⟨g, n, x, y2, y3⟩)⟩ | ⟨y1, y2⟩
  · exact .inl ⟨y1, .inl ⟨y2, y3⟩⟩
  · exact .inl ⟨y1, .inr ⟨g, n, x, y2, rdv_upd hid y3⟩⟩
  · exact .inr ⟨y1, y2⟩

/-- What is laid aside of an operation that yields u at one heap is the same at another one at which it yields u. -/
theorem rfOf_same {o : DOper} {s : List AV} {h h' : AHeap} {u : AV} {pre : List RF} (y : Quiet P o.op s h u) (y' : Quiet P o.op s h' u) : rfOf o s h pre = rfOf o s h' pre := by
  unfold rfOf
  split
  · rename_i g n x e0 e1 e2
    have a1 : rdv g n (ev s x) h = some u := by
      rcases y with ⟨y1, (⟨y2, y3⟩ | ⟨g', n', x', y2, y3⟩)⟩ | ⟨y1, y2⟩
      · rw [e1] at y2; cases y2
      · rw [e1] at y2; cases y2; exact y3
      · rw [e2] at y1; cases y1
    have a2 : rdv g n (ev s x) h' = some u := by
      rcases y' with ⟨y1, (⟨y2, y3⟩ | ⟨g', n', x', y2, y3⟩)⟩ | ⟨y1, y2⟩
      · rw [e1] at y2; cases y2
      · rw [e1] at y2; cases y2; exact y3
      · rw [e2] at y1; cases y1
    rw [a1, a2]
  · rfl

/-- The list's head, pure or reading. -/
theorem awD_quiet {k : DOper} (hk : kindOf k.op.op = .pure ∨ kindOf k.op.op = .read) {l : List DOper} {pre : List RF} {K : List AV → AHeap → Prop} {s : List AV} {h : AHeap} :
    awD P (k :: l) pre K s h ↔ ∃ u, Quiet P k.op s h u ∧ awD P l (rfOf k s h pre) K (put s k.op.dst u) h := by
  have e : awD P (k :: l) pre K s h ↔ awOper P k.op (awD P l (rfOf k s h pre) K) s h := by
    rcases hk with hk | hk
    · have : rfOf k s h pre = pre := by unfold rfOf; split <;> first | rfl | (rename_i _ e1 _; rw [e1] at hk; cases hk)
      rw [this]
      rw [awD]; rw [hk]
    · rw [awD]; rw [hk]
  rw [e, quiet_iff hk]

end

section
variable {P : Program}

theorem pull_read {i : DOper} {post : List DOper} {K : List AV → AHeap → Prop} (hi : kindOf i.op.op = .read) : ∀ (l : List DOper) (pre : List RF) (s : List AV) (h : AHeap), (∀ k ∈ l, swapOK k i = true) →
    awD P (l ++ i :: post) pre K s h → ∃ v, Quiet P i.op s h v ∧ awD P (l ++ post) pre K (put s i.op.dst v) h
  | [], pre, s, h, ha, hk => by
    simp only [List.nil_append] at hk ⊢
    rw [awD_quiet (.inr hi)] at hk
    obtain ⟨u, h1, h2⟩ := hk
    refine ⟨u, h1, awD_weaken post ?_ h2⟩
    intro f hf
    unfold rfOf; split
    · split
      · exact List.mem_cons.2 (.inr hf)
      · exact hf
    · exact hf
  | k :: l, pre, s, h, ha, hk => by
    have hsw := ha k (by simp)
    simp only [swapOK, hi, Bool.and_eq_true] at hsw
    obtain ⟨hab, hkind⟩ := hsw
    have hkq : kindOf k.op.op = .pure ∨ kindOf k.op.op = .read := by
      cases e : kindOf k.op.op <;> rw [e] at hkind <;> simp_all
    simp only [List.cons_append] at hk ⊢
    rw [awD_quiet hkq] at hk
    obtain ⟨u, h1, h2⟩ := hk
    obtain ⟨v, h3, h4⟩ := pull_read hi l _ _ _ (fun q hq => ha q (by simp [hq])) h2
    have hba := apartS_symm hab
    have h3' : Quiet P i.op s h v := by
      have e1 := apartS_spec hba
      rcases h3 with ⟨y1, (⟨y2, y3⟩ | ⟨g, n, x, y2, y3⟩)⟩ | ⟨y1, y2⟩
      · rw [hi] at y2; cases y2
      · exact .inl ⟨by rw [← active_put (v := u) e1.2.1]; exact y1, .inr ⟨g, n, x, y2, by rw [← args_put (v := u) (s := s) e1.2.1 x (by rw [y2]; simp [argsOf])]; exact y3⟩⟩
      · exact .inr ⟨by rw [← active_put (v := u) e1.2.1]; exact y1, y2⟩
    refine ⟨v, h3', ?_⟩
    rw [awD_quiet hkq]
    refine ⟨u, h1.put hab v, ?_⟩
    rw [rfOf_put hab, ← puts_comm hab]
    exact h4

theorem pull_eff {i : DOper} {post : List DOper} {K : List AV → AHeap → Prop} (hi : kindOf i.op.op = .eff) : ∀ (l : List DOper) (pre : List RF) (s : List AV) (h : AHeap), (∀ k ∈ l, swapOK k i = true) →
    awD P (l ++ i :: post) pre K s h → awOper P i.op (fun s' h' => (∀ f ∈ pre, f.tag ∈ i.un → stab f h') ∧ awD P (l ++ post) pre K s' h') s h
  | [], pre, s, h, ha, hk => by
    simp only [List.nil_append] at hk ⊢
    rw [awD] at hk; rw [hi] at hk
    exact hk
  | k :: l, pre, s, h, ha, hk => by
    have hsw := ha k (by simp)
    simp only [swapOK, hi, Bool.and_eq_true] at hsw
    obtain ⟨hab, hkind⟩ := hsw
    have hkq : kindOf k.op.op = .pure ∨ (kindOf k.op.op = .read ∧ k.tag ∈ i.un ∧ k.keep = true) := by
      cases e : kindOf k.op.op <;> rw [e] at hkind <;> simp_all
    have hkq' : kindOf k.op.op = .pure ∨ kindOf k.op.op = .read := hkq.imp id And.left
    simp only [List.cons_append] at hk ⊢
    rw [awD_quiet hkq'] at hk
    obtain ⟨u, h1, h2⟩ := hk
    have h3 := pull_eff hi l _ _ _ (fun q hq => ha q (by simp [hq])) h2
    have hba := apartS_symm hab
    rw [← awOper_put (K := fun s' h' => (∀ f ∈ rfOf k s h pre, f.tag ∈ i.un → stab f h') ∧ awD P (l ++ post) (rfOf k s h pre) K s' h') hba] at h3
    refine awOper_mono' (fun v h' kk => ?_) h3
    obtain ⟨k1, k2⟩ := kk
    have sub : ∀ f ∈ pre, f ∈ rfOf k s h pre := by
      intro f hf
      unfold rfOf; split
      · split
        · exact List.mem_cons.2 (.inr hf)
        · exact hf
      · exact hf
    refine ⟨fun f hf => k1 f (sub f hf), ?_⟩
    rw [awD_quiet hkq']
    have hq' : Quiet P k.op s h' u := by
      rcases h1 with ⟨y1, (⟨y2, y3⟩ | ⟨g, n, x, y2, y3⟩)⟩ | ⟨y1, y2⟩
      · exact .inl ⟨y1, .inl ⟨y2, y3⟩⟩
      · have hun : k.tag ∈ i.un ∧ k.keep = true := by
          rcases hkq with e | e
          · rw [y2] at e; cases e
          · exact e.2
        have hmem : (⟨k.tag, g, n, ev s x, u⟩ : RF) ∈ rfOf k s h pre := by
          unfold rfOf; rw [hun.2, y1, y2]; simp only [y3]; exact List.mem_cons.2 (.inl rfl)
        exact .inl ⟨y1, .inr ⟨g, n, x, y2, k1 _ hmem hun.1⟩⟩
      · exact .inr ⟨y1, y2⟩
    refine ⟨u, hq'.put hab v, ?_⟩
    have e1 : rfOf k (put s i.op.dst v) h' pre = rfOf k s h pre := by
      rw [rfOf_put hab]; exact rfOf_same hq' h1
    rw [e1]
    exact k2

/-! ### A block more -/

theorem Sub_upd {h : AHeap} {id : Nat} {ob : AObj} (hid : h id = none) : ∀ x o, h x = some o → upd h id ob x = some o := fun x o hx => by
  have : x ≠ id := by rintro rfl; rw [hid] at hx; cases hx
  simp [upd, this, hx]

theorem upd_comm' {h : AHeap} {a b : Nat} {x y : AObj} (hab : a ≠ b) : upd (upd h a x) b y = upd (upd h b y) a x := by
  funext n
  simp only [upd]
  split <;> split <;> first | rfl | (exfalso; omega)

theorem upd_at {h : AHeap} {a b : Nat} {x : AObj} (hab : b ≠ a) : upd h a x b = h b := by simp [upd, hab]

theorem acells_upd {h : AHeap} {esz id : Nat} {ob : AObj} (hid : h id = none) {x : AV} {l : List AV} (e : acells h esz x = some l) : acells (upd h id ob) esz x = some l := by
  unfold acells at e ⊢
  split
  · exact e
  · exact e
  · exact e
  · rename_i b off len cap
    simp only at e
    split at e
    · rename_i cs tot hb
      rw [Sub_upd hid _ _ hb]; exact e
    · cases e
  · rename_i h0 h1 h2 h3
    split at e
    · exact absurd rfl h0
    · exact absurd rfl h1
    · exact absurd rfl (h2 _ _ _)
    · exact absurd rfl (h3 _ _ _ _)
    · exact e

def more (id : Nat) (ob : AObj) (K : AV → AHeap → Prop) (u : AV) (h'' : AHeap) : Prop := ∃ h', h'' = upd h' id ob ∧ h' id = none ∧ K u h'

theorem grows_frame {h : AHeap} {id : Nat} {ob : AObj} {esz need : Nat} {cells : List AV} {K : AV → AHeap → Prop} (hid : h id = none) (g : grows h esz need cells K) : grows (upd h id ob) esz need cells (more id ob K) := by
  intro b cap hb hn
  have hne : b ≠ id := by rintro rfl; simp [upd] at hb
  rw [upd_at hne] at hb
  exact ⟨_, (upd_comm' (fun e => hne e.symm)), by rw [upd_at (fun e => hne e.symm)]; exact hid, g b cap hb hn⟩

theorem frame_core {h h' : AHeap} {id : Nat} {ob : AObj} {W0 W1 w w' : World} (hid : h id = none) (hrel : Rel W0 (upd h id ob) w) (r' : Rel W1 h' w') (f' : Fr W0 h w W1 h' w') :
    Rel W1 (upd h' id ob) w' ∧ Fr W0 (upd h id ob) w W1 (upd h' id ob) w' ∧ h' id = none := by
  obtain ⟨l1, obj, l2, l3⟩ := hrel.live id ob (by simp [upd])
  have hlt : id < w.heap.size := (Array.getElem?_eq_some_iff.1 l2).1
  obtain ⟨e1, e2⟩ := f'.kept id hlt hid
  have out : ∀ p : Addr, p.block = id → W1.cell? p = none := fun p hp => by
    cases hc : W1.cell? p with
    | none => rfl
    | some u =>
      rcases f'.gr p u hc with g | g | g
      · rw [l1 p hp] at g; cases g
      · rw [hp] at g; exact absurd hid g
      · omega
  refine ⟨⟨r'.base, fun x o hx => ?_, r'.glob, fun g n hg => (by have h9 := (hrel.fix g n hg).1; obtain ⟨a, b⟩ := r'.fix g n hg; exact ⟨by rw [upd_at (by rintro rfl; simp [upd] at h9)]; exact a, b⟩)⟩, ⟨f'.os, f'.tape, f'.output, f'.drawn, f'.size, fun b hb hn => ?_, fun b hb hn => ?_, f'.le, fun p u hp => ?_⟩, e2⟩
  · by_cases hx2 : x = id
    · subst hx2
      simp [upd] at hx; subst hx
      exact ⟨out, obj, by rw [e1]; exact l2, OR_le f'.le _ _ l3⟩
    · rw [upd_at hx2] at hx; exact r'.live x o hx
  · have hne : b ≠ id := by rintro rfl; simp [upd] at hn
    rw [upd_at hne] at hn ⊢
    exact f'.kept b hb hn
  · by_cases hne : b = id
    · subst hne; simp [upd]
    · rw [upd_at hne] at hn ⊢; exact f'.new b hb hn
  · rcases f'.gr p u hp with g | g | g
    · exact .inl g
    · refine .inr (.inl ?_)
      by_cases hne : p.block = id
      · rw [hne]; simp [upd]
      · rw [upd_at hne]; exact g
    · exact .inr (.inr g)

theorem CallsA.frame {f : FuncId} {args : List AV} {h : AHeap} {id : Nat} {ob : AObj} {K : AV → AHeap → Prop} (hid : h id = none) (c : CallsA P f args h K) : CallsA P f args (upd h id ob) (more id ob K) := by
  refine ⟨c.1, fun W0 w cargs hrel hargs => ?_⟩
  have hr : Rel W0 h w := ⟨hrel.base, fun x o hx => hrel.live x o (Sub_upd hid x o hx), hrel.glob, hrel.fix.sub (Sub_upd hid)⟩
  refine (c.2 W0 w cargs hr hargs).mono ?_
  rintro e w' ⟨W1, v, r, h', rfl, hv, r', f', k⟩
  obtain ⟨g1, g2, g3⟩ := frame_core hid hrel r' f'
  exact ⟨W1, v, r, _, rfl, hv, g1, g2, h', rfl, g3, k⟩

theorem ExtA.frame {f : FuncId} {args : List AV} {h : AHeap} {id : Nat} {ob : AObj} {K : AV → AHeap → Prop} (hid : h id = none) (c : ExtA P f args h K) : ExtA P f args (upd h id ob) (more id ob K) := by
  obtain ⟨fn, e, h1, h2, h3, h4, h5, c⟩ := c
  refine ⟨fn, e, h1, h2, h3, h4, h5, fun W0 w cargs hrel hargs => ?_⟩
  have hr : Rel W0 h w := ⟨hrel.base, fun x o hx => hrel.live x o (Sub_upd hid x o hx), hrel.glob, hrel.fix.sub (Sub_upd hid)⟩
  obtain ⟨W1, v, r, h', w', k1, k2, k3, k4, k5⟩ := c W0 w cargs hr hargs
  obtain ⟨g1, g2, g3⟩ := frame_core hid hrel k3 k4
  exact ⟨W1, v, r, _, w', k1, k2, g1, g2, h', rfl, g3, k5⟩

theorem CallsX.frame {f : FuncId} {args : List AV} {h : AHeap} {id : Nat} {ob : AObj} {K : AV → AHeap → Prop} (hid : h id = none) (c : CallsX P f args h K) : CallsX P f args (upd h id ob) (more id ob K) :=
  c.imp (fun c => c.frame hid) fun c => c.frame hid

mutual
theorem Fz_upd {h h' : AHeap} {id : Nat} {ob ob' : AObj} (hid : h id = none) : ∀ {x y : AV}, Fz h h' x y → Fz (upd h id ob) (upd h' id ob') x y
  | _, _, .refl x => .refl x
  | _, _, .undef x => .undef x
  | _, _, .sl n h1 h2 h3 h4 h5 => by
    refine .sl n (Sub_upd hid _ _ h1) ?_ h3 (FzL_upd hid h4) h5
    rw [upd_at (by rintro rfl; rw [hid] at h1; cases h1)]; exact h2
  | _, _, .ptr n h1 h2 h3 h4 => by
    refine .ptr n (Sub_upd hid _ _ h1) ?_ h3 (FzL_upd hid h4)
    rw [upd_at (by rintro rfl; rw [hid] at h1; cases h1)]; exact h2
  | _, _, .nils => .nils
  | _, _, .ro h1 h2 => .ro (FzL_upd hid h1) h2
  | _, _, .rp h1 => .rp (FzL_upd hid h1)
  | _, _, .agg h1 => .agg (FzL_upd hid h1)
  | _, _, .tup h1 => .tup (FzL_upd hid h1)
  | _, _, .fn h1 => .fn (FzL_upd hid h1)
theorem FzL_upd {h h' : AHeap} {id : Nat} {ob ob' : AObj} (hid : h id = none) : ∀ {x y : List AV}, FzL h h' x y → FzL (upd h id ob) (upd h' id ob') x y
  | _, _, .nil => .nil
  | _, _, .cons h1 h2 => .cons (Fz_upd hid h1) (FzL_upd hid h2)
end

theorem FzH_upd {h h' : AHeap} {id : Nat} {ob : AObj} (hid : h id = none) (z : FzH h h') : FzH (upd h id ob) (upd h' id ob) := by
  intro x o' hx
  by_cases hne : x = id
  · subst hne
    simp [upd] at hx; subst hx
    exact ⟨ob, by simp [upd], .refl _⟩
  · rw [upd_at hne] at hx ⊢
    obtain ⟨o, h1, h2⟩ := z x o' hx
    refine ⟨o, h1, ?_⟩
    cases h2 with
    | refl => exact .refl _
    | cells hl => exact .cells (FzL_upd hid hl)
    | pad n hn => exact .pad n hn

theorem FzH.isNone {h h' : AHeap} {id : Nat} (z : FzH h h') (hid : h id = none) : h' id = none := by
  cases e : h' id with
  | none => rfl
  | some o => obtain ⟨o', h1, _⟩ := z id o e; rw [hid] at h1; cases h1

theorem ments_upd {h : AHeap} {id : Nat} {ob : AObj} (hid : h id = none) {m : AV} {r : Option Nat × Ents × Nat} (hr : ments h m = some r) : ments (upd h id ob) m = some r ∧ (∀ x, r.1 = some x → h x ≠ none) := by
  unfold ments at hr ⊢
  split at hr
  · cases hr; exact ⟨rfl, by simp⟩
  · rename_i b
    split at hr
    · rename_i es c hb
      cases hr
      rw [Sub_upd hid _ _ hb]
      refine ⟨rfl, ?_⟩
      intro x hx; cases hx; rw [hb]; simp
    · cases hr
  · cases hr

theorem mapF_upd {h : AHeap} {id : Nat} {ob : AObj} (hid : h id = none) {mo : MapOp} {xs : List AV} {r : AV × Option (Nat × AObj)} (hr : mapF h mo xs = some r) : mapF (upd h id ob) mo xs = some r ∧ (∀ b o, r.2 = some (b, o) → h b ≠ none) := by
  unfold mapF at hr ⊢
  split at hr
  · rename_i m k
    cases e : ments h m with
    | none => rw [e] at hr; cases hr
    | some q =>
      obtain ⟨e1, e2⟩ := ments_upd (ob := ob) hid e
      rw [e] at hr; simp only [e1]
      refine ⟨hr, ?_⟩
      simp only at hr
      split at hr
      · split at hr <;> cases hr <;> simp
      · cases hr
  · rename_i m k v
    cases e : ments h m with
    | none => rw [e] at hr; cases hr
    | some q =>
      obtain ⟨e1, e2⟩ := ments_upd (ob := ob) hid e
      rw [e] at hr; simp only [e1]
      refine ⟨hr, ?_⟩
      obtain ⟨o, es, c⟩ := q
      cases o with
      | none => cases hr
      | some b =>
        simp only at hr
        split at hr
        · split at hr <;> cases hr <;> (intro b' o' hb; cases hb; exact e2 _ rfl)
        · cases hr
  · rename_i m k
    cases e : ments h m with
    | none => rw [e] at hr; cases hr
    | some q =>
      obtain ⟨e1, e2⟩ := ments_upd (ob := ob) hid e
      rw [e] at hr; simp only [e1]
      refine ⟨hr, ?_⟩
      obtain ⟨o, es, c⟩ := q
      simp only at hr
      split at hr
      · split at hr <;> cases hr <;> (intro b' o' hb; cases o <;> cases hb; exact e2 _ rfl)
      · cases hr
  · rename_i m
    cases e : ments h m with
    | none => rw [e] at hr; cases hr
    | some q =>
      obtain ⟨e1, e2⟩ := ments_upd (ob := ob) hid e
      rw [e] at hr; simp only [e1]
      exact ⟨hr, by cases hr; simp⟩
  · rename_i m
    cases e : ments h m with
    | none => rw [e] at hr; cases hr
    | some q =>
      obtain ⟨e1, e2⟩ := ments_upd (ob := ob) hid e
      rw [e] at hr; simp only [e1]
      refine ⟨hr, ?_⟩
      cases hr
      obtain ⟨o, es, c⟩ := q
      intro b' o' hb
      cases o <;> cases hb; exact e2 _ rfl
  · cases hr

theorem aw_frame {o : AOp} (hk : kindOf o = .eff) {s : List AV} {h : AHeap} {id : Nat} {ob : AObj} {K : AV → AHeap → Prop} (hid : h id = none) (g : aw P o K s h) : aw P o (more id ob K) s (upd h id ob) := by
  have ne : ∀ {x o}, h x = some o → x ≠ id := by rintro x o hx rfl; rw [hid] at hx; cases hx
  cases o <;> first | (cases hk; done) | skip
  case loadG g' k => exact fun n => ⟨h, rfl, hid, g n⟩
  case b2s x =>
    obtain ⟨cs, xs, h1, h2, h3⟩ := g
    exact ⟨cs, xs, acells_upd hid h1, h2, h, rfl, hid, h3⟩
  case store n x v =>
    obtain ⟨l, h', h1, h2, h3, h4, h5⟩ := g
    unfold awrite at h4
    split at h4
    · rename_i b off hx
      split at h4
      · rename_i cs tot hb
        split at h4 <;> cases h4
        rename_i hle
        refine ⟨l, _, h1, h2, h3, ?_, ⟨_, upd_comm' (fun e => ne hb e.symm), ?_, h5⟩⟩
        · rw [hx]; unfold awrite; simp only [Sub_upd hid _ _ hb]; rw [if_pos hle]
        · rw [upd_at (fun e => ne hb e.symm)]; exact hid
      · cases h4
    · cases h4
  case storeF n x v =>
    obtain ⟨b, cs, tot, l, h1, h2, h3, h4, h5, h6, h7⟩ := g
    have hne := ne h2
    refine ⟨b, cs, tot, l, h1, Sub_upd hid _ _ h2, h3, h4, h5, h6, del h b, ?_, ?_, h7⟩
    · funext z; unfold del upd
      by_cases e1 : z = b <;> by_cases e2 : z = id <;> simp_all
    · unfold del; rw [if_neg (fun e => hne e.symm)]; exact hid
  case call f args =>
    simp only [aw] at g ⊢
    split at g
    · obtain ⟨h', args', g1, g2, g3⟩ := g
      exact ⟨upd h' id ob, args', FzH_upd hid g1, FzL_upd hid g2, g3.frame (g1.isNone hid)⟩
    · obtain ⟨h', args', g1, g2, g3⟩ := g
      exact ⟨upd h' id ob, args', FzH_upd hid g1, FzL_upd hid g2, g3.frame (g1.isNone hid)⟩
    · exact g.elim
  case append esz b x y =>
    obtain ⟨old, new, h1, h2, h3, h4, h5⟩ := g
    refine ⟨old, new, acells_upd hid h1, acells_upd hid h2, h3, fun e => ⟨h, rfl, hid, h4 e⟩, fun e => ?_⟩
    have h6 := h5 e
    split at h6
    · exact grows_frame hid h6
    · exact grows_frame hid h6
    · obtain ⟨cs, tot, g1, g2, g3, g4⟩ := h6
      refine ⟨cs, tot, Sub_upd hid _ _ g1, g2, fun e => ⟨(g3 e).1, _, upd_comm' (fun e => ne g1 e.symm), ?_, (g3 e).2⟩, fun e => (g4 e).imp (grows_frame hid) fun g => ?_⟩
      · rw [upd_at (fun e => ne g1 e.symm)]; exact hid
      · have hne := ne g1
        have e : ∀ b : Nat, del (upd h id ob) b = if b = id then del h b else upd (del h b) id ob := fun b => by
          funext z; unfold del upd
          by_cases h1 : z = b <;> by_cases h2 : b = id <;> by_cases h3 : z = id <;> simp_all
        rw [e, if_neg hne]
        refine grows_frame ?_ g
        unfold del; rw [if_neg (fun e => hne e.symm)]; exact hid
    · exact h6.elim
  case appendN esz b z x y =>
    simp only [aw, appendNA] at g ⊢
    split at g
    · obtain ⟨old, g1, g2, g3, g4⟩ := g
      refine ⟨old, acells_upd hid g1, g2, g3, ?_⟩
      split at g4
      · exact ⟨fun e => ⟨h, rfl, hid, g4.1 e⟩, fun e => grows_frame hid (g4.2 e)⟩
      · obtain ⟨cs, tot, q1, q2, q3, q4⟩ := g4
        refine ⟨cs, tot, Sub_upd hid _ _ q1, q2, fun e => ⟨(q3 e).1, _, upd_comm' (fun e => ne q1 e.symm), ?_, (q3 e).2⟩, fun e => (q4 e).imp (grows_frame hid) fun g => ?_⟩
        · rw [upd_at (fun e => ne q1 e.symm)]; exact hid
        · rename_i _ _ b _ _
          have hne := ne q1
          have e : ∀ b : Nat, del (upd h id ob) b = if b = id then del h b else upd (del h b) id ob := fun b => by
            funext z; unfold del upd
            by_cases h1 : z = b <;> by_cases h2 : b = id <;> by_cases h3 : z = id <;> simp_all
          rw [e, if_neg hne]
          refine grows_frame ?_ g
          unfold del; rw [if_neg (fun e => hne e.symm)]; exact hid
      · exact g4.elim
    · exact g.elim
  case copy esz x y =>
    obtain ⟨new, h1, h2⟩ := g
    refine ⟨new, acells_upd hid h1, ?_⟩
    split at h2
    · exact ⟨h, rfl, hid, h2⟩
    · obtain ⟨cs, tot, g1, g2, g3, g4⟩ := h2
      refine ⟨cs, tot, Sub_upd hid _ _ g1, g2, g3, _, upd_comm' (fun e => ne g1 e.symm), ?_, g4⟩
      rw [upd_at (fun e => ne g1 e.symm)]; exact hid
    · exact h2.elim
  case mapOp mo xs =>
    obtain ⟨r, h1, h2⟩ := g
    obtain ⟨e1, e2⟩ := mapF_upd (ob := ob) hid h1
    refine ⟨r, e1, after h r.2, ?_, ?_, h2⟩
    · cases e : r.2 with
      | none => rfl
      | some q => exact upd_comm' (fun e' => e2 q.1 q.2 (by rw [e]) (by rw [← e']; exact hid))
    · cases e : r.2 with
      | none => exact hid
      | some q => exact (upd_at (fun e' => e2 q.1 q.2 (by rw [e]) (by rw [← e']; exact hid))).trans hid
  case clear z x =>
    simp only [aw, clearA] at g ⊢
    split at g
    · exact ⟨h, rfl, hid, g⟩
    · obtain ⟨cs, tot, g1, g2, g3, g4⟩ := g
      refine ⟨cs, tot, Sub_upd hid _ _ g1, g2, g3, _, upd_comm' (fun e => ne g1 e.symm), ?_, g4⟩
      rw [upd_at (fun e => ne g1 e.symm)]; exact hid
    · exact g.elim

/-- An allocation taken first. -/
theorem pull_alloc {i : DOper} {post : List DOper} {K : List AV → AHeap → Prop} (hi : kindOf i.op.op = .alloc) (f : Nat → AV) (ob : AObj) : ∀ (l : List DOper) (pre : List RF) (s : List AV) (h : AHeap), (∀ k ∈ l, swapOK k i = true) → active i.op s = some true →
    (∀ (K : AV → AHeap → Prop) (h : AHeap), aw P i.op.op K s h → ∀ id, h id = none → K (f id) (upd h id ob)) →
    awD P (l ++ i :: post) pre K s h → ∀ id, h id = none → awD P (l ++ post) pre K (put s i.op.dst (f id)) (upd h id ob)
  | [], pre, s, h, ha, hact, hA, hk, id, hid => by
    simp only [List.nil_append] at hk ⊢
    rw [awD] at hk; rw [hi] at hk
    simp only at hk
    rw [awOper_iff, hact] at hk
    simp only [true_and, Option.some.injEq, Bool.true_eq_false, false_and, or_false] at hk
    exact hA _ _ hk id hid
  | k :: l, pre, s, h, ha, hact, hA, hk, id, hid => by
    have hsw := ha k (by simp)
    simp only [swapOK, hi, Bool.and_eq_true] at hsw
    obtain ⟨hab, _⟩ := hsw
    have hba := apartS_symm hab
    have e1 := apartS_spec hba
    have hA' : ∀ u, (∀ (K : AV → AHeap → Prop) (h : AHeap), aw P i.op.op K (put s k.op.dst u) h → ∀ id, h id = none → K (f id) (upd h id ob)) := fun u K h hh => by
      rw [aw_congr (args_put e1.2.1)] at hh
      exact hA K h hh
    have hact' : ∀ u, active i.op (put s k.op.dst u) = some true := fun u => by rw [active_put e1.2.1]; exact hact
    have rec_ := fun pre u h hk => pull_alloc (post := post) (K := K) hi f ob l pre (put s k.op.dst u) h (fun q hq => ha q (by simp [hq])) (hact' u) (hA' u) hk
    simp only [List.cons_append] at hk ⊢
    by_cases hq : kindOf k.op.op = .pure ∨ kindOf k.op.op = .read
    · rw [awD_quiet hq] at hk
      obtain ⟨u, h1, h2⟩ := hk
      rw [awD_quiet hq]
      have h3 := h1.upd (ob := ob) hid
      refine ⟨u, h3.put hab _, ?_⟩
      rw [rfOf_put hab, ← rfOf_same h1 h3, ← puts_comm hab]
      exact rec_ _ _ _ h2 id hid
    · cases hkk : kindOf k.op.op with
      | pure => exact absurd (.inl hkk) hq
      | read => exact absurd (.inr hkk) hq
      | alloc =>
        rw [awD] at hk ⊢; rw [hkk] at hk ⊢
        simp only at hk ⊢
        rw [← awOper_put hab]
        rw [awOper_iff] at hk ⊢
        rcases hk with ⟨a1, a2⟩ | ⟨a1, a2⟩
        · refine .inl ⟨a1, ?_⟩
          obtain ⟨c, f', ob', hc⟩ := aw_alloc' (P := P) hkk s
          rw [hc] at a2 ⊢
          refine ⟨a2.1, fun id' hid' => ?_⟩
          have hne : id' ≠ id := by rintro rfl; simp [upd] at hid'
          rw [upd_at hne] at hid'
          rw [upd_comm' (fun e => hne e.symm)]
          exact rec_ _ _ _ (a2.2 id' hid') id (by rw [upd_at (fun e => hne e.symm)]; exact hid)
        · exact .inr ⟨a1, rec_ _ _ _ a2 id hid⟩
      | eff =>
        rw [awD] at hk ⊢; rw [hkk] at hk ⊢
        simp only at hk ⊢
        rw [← awOper_put (K := fun s' h' => (∀ f ∈ pre, f.tag ∈ k.un → stab f h') ∧ awD P (l ++ post) pre K s' h') hab]
        rw [awOper_iff] at hk ⊢
        rcases hk with ⟨a1, a2⟩ | ⟨a1, a2⟩
        · refine .inl ⟨a1, aw_mono ?_ (aw_frame (ob := ob) hkk hid a2)⟩
          rintro u h'' ⟨h', rfl, hid', k1, k2⟩
          exact ⟨fun g hg ht => rdv_upd hid' (k1 g hg ht), rec_ _ _ _ k2 id hid'⟩
        · exact .inr ⟨a1, fun g hg ht => rdv_upd hid (a2.1 g hg ht), rec_ _ _ _ a2.2 id hid⟩

end
end Go.Proofs.YteijaibggalapaaGreatDoor.E
