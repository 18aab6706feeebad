/-
  Iterators over maps, rounds of loops over functions, and operations in a round's frame.
-/
import Derived.Test.YteijaibggalapaaGreatDoorEE
import Derived.RangeFuncLeaves
import Derived.RangeFuncSeq
import Derived.RangeFuncRecord
import Derived.Sort.LoopGhostIn
import Derived.OrdersIn
namespace Go.Proofs.YteijaibggalapaaGreatDoor.E
open Go
set_option linter.unusedVariables false
set_option linter.unusedSimpArgs false

/-- No fence but the frame's make. -/
def FW (ro : Option Nat) : Fence := { Fence.wide with round := ro }

/-- A round that goes to its end. -/
def YldA (P : Program) (l : Nat) (args : List AV) (h : AHeap) (R : AHeap → Prop) : Prop :=
  ∀ W0 w (vs : Array Value), Rel W0 h w → VRs W0 args vs.toList → YieldAt Fence.wide 0 P l vs w fun e w' => ∃ W1 h', e = .returned (.bool true) ∧ Rel W1 h' w' ∧ Fr W0 h w W1 h' w' ∧ R h'
def yldF (P : Program) (l : Nat) (args : List AV) (h : AHeap) (K : AV → AHeap → Prop) : Prop := ∃ R, YldA P l args h R ∧ ∀ h', R h' → K (.bool true) h'

def nxtA (h : AHeap) (rid : Nat) (K : AV → AHeap → Prop) : Obj → Prop
  | .mapIter none _ _ _ => K (.tup [.bool false]) h
  | .mapIter (some m) since seen last => ∃ es c, h m = some (.map es c) ∧ since = c ∧ last = c ∧ (BornOk es c →
      (∀ e ∈ es, e.2.2 ∉ seen → K (.tup [.bool true, e.1, e.2.1]) (upd h rid (.raw (.mapIter (some m) c (seen.push e.2.2) c)))) ∧ ((∀ e ∈ es, e.2.2 ∈ seen) → K (.tup [.bool false]) h))
  | _ => False

def entA (h : AHeap) (rid : Nat) (K : AV → AHeap → Prop) : Prop :=
  ∃ m since seen es c e, h rid = some (.raw (.mapIter (some m) since seen c)) ∧ h m = some (.map es c) ∧ e ∈ es ∧ seen.back? = some e.2.2 ∧ (BornOk es c → K (.tup [e.1, e.2.1]) h)

def rngA (h : AHeap) (K : AV → AHeap → Prop) : AV → Prop
  | .map id => ∃ es c, h id = some (.map es c) ∧ ∀ rid, h rid = none → K (.ptr rid 0) (upd h rid (.raw (.mapIter (some id) c #[] c)))
  | .nilm => ∀ rid, h rid = none → K (.ptr rid 0) (upd h rid (.raw (.mapIter none 0 #[] 0)))
  | _ => False

def isX : AOp → Bool
  | .rng _ | .nxt _ | .ent _ | .callY .. => true
  | _ => false

/-- As 'aw', with iterators and rounds. -/
def awX (P : Program) (o : AOp) (K : AV → AHeap → Prop) (s : List AV) (h : AHeap) : Prop :=
  match o with
  | .rng x => rngA h K (ev s x)
  | .nxt x => match ev s x with
    | .ptr rid 0 => match h rid with
      | some (.raw o) => nxtA h rid K o
      | _ => False
    | _ => False
  | .ent x => match ev s x with
    | .ptr rid 0 => entA h rid K
    | _ => False
  | .callY f args => match ev s f with
    | .yld l => yldF P l (args.map (ev s)) h K
    | _ => False
  | o => aw P o K s h

theorem awX_of {P : Program} {o : AOp} (hx : isX o = false) {K : AV → AHeap → Prop} {s : List AV} {h : AHeap} : awX P o K s h = aw P o K s h := by
  cases o <;> first | rfl | (cases hx)
theorem aw_awX {P : Program} {o : AOp} {K : AV → AHeap → Prop} {s : List AV} {h : AHeap} (k : aw P o K s h) : awX P o K s h := by
  cases o <;> first | exact k | (obtain ⟨v, hv, _⟩ := k; cases hv)

theorem fzOp_noX {F : List Nat} {d : Option Nat} {o : AOp} (h : isX o = false) : isX (fzOp F d o).2 = false := by
  unfold fzOp
  split <;> first | (split <;> rfl) | exact h

section
variable {P : Program} {W0 : World} {s : List AV} {a : Act} {ro : Option Nat}

theorem cBuiltin_noX {b : Builtin} {xs : List Operand} {ts : Array TypeId} {ao : AOp} (h : cBuiltin P b xs ts = some ao) : isX ao = false := by
  unfold cBuiltin at h
  repeat' split at h
  all_goals first | (cases h; rfl) | cases h | skip
  all_goals (simp only [Option.map_eq_some_iff] at h; obtain ⟨_, _, rfl⟩ := h; rfl)

theorem cOp0_noX {o : Op} {ao : AOp} (h : cOp0 P o = some ao) : isX ao = false := by
  unfold cOp0 at h
  repeat' split at h
  all_goals first | (cases h; rfl) | cases h | exact cBuiltin_noX h | skip
  all_goals (simp only [Option.map_eq_some_iff] at h; obtain ⟨_, _, rfl⟩ := h; rfl)
theorem cOp_noX {F : List Nat} {d : Option Nat} {o : Op} {ao : AOp} (h : cOp P o = some ao) : isX (fzOp F d ao).2 = false := by
  refine fzOp_noX ?_
  rcases cOp_or h with h | rfl
  · exact cOp0_noX h
  · rfl

theorem wpIn_of_wp {o : Oper} {w : World} {next next' : Act → World → Prop} {Q : Exit → Act → World → Prop} (hd : ∀ c, o.op ≠ .defer c) (hn : ∀ a w, next a w → next' a w) (h : o.wp P a w next Q) : o.wpIn (FW ro) 0 P a w next' Q := by
  refine ⟨fun _ _ => trivial, ?_⟩
  rw [Oper.semAt_eq _ _ _ hd]
  unfold Oper.wp at h
  generalize (execOp a.eval o).run P w = r at *
  unfold Oper.upon at h
  split at h
  · exact hn _ _ h
  · exact hn _ _ h
  · exact hn _ _ h
  · rw [Oper.uponIn_enter]
    refine ⟨fun e => (by cases e), ?_⟩
    have h2 : CallsIn Fence.wide (0 - 1) P _ _ _ _ := callsIn_wide.2 h
    have h3 : CallsIn (FW ro) (0 - 1) P _ _ _ _ := h2
    exact h3.mono fun e w' k => by cases e <;> first | exact hn _ _ k | exact k
  · rw [Oper.uponIn_row]
    refine ⟨fun e => (by cases e), fun c cs _ => ?_⟩
    obtain ⟨v, w', k, st⟩ := h c cs
    exact ⟨v, w', hn _ _ k, (stepsIn_wide (P := P)).2 st⟩
  · exact h
  · exact h.elim

theorem wpIn_of_value {o : Oper} {w w' : World} {u : Value} {next : Act → World → Prop} {Q : Exit → Act → World → Prop} (hd : ∀ c, o.op ≠ .defer c) (he : (execOp a.eval o).run P w = .ok (.value u) w') (hn : next (a.put o.dst u) w') : o.wpIn (FW ro) 0 P a w next Q := by
  refine ⟨fun _ _ => trivial, ?_⟩
  rw [Oper.semAt_eq _ _ _ hd, he]
  exact hn

theorem wpOpsIn_of {ops : Array Oper} {Q : Exit → Act → World → Prop} (hQ : ¬ LetsOut Q) (hd : ∀ o ∈ ops, ∀ c, o.op ≠ .defer c) : ∀ (l : List Nat) (a : Act) (w : World), wpOps P ops Q l a w → wpOpsIn (FW ro) 0 P ops Q l a w
  | [], a, w, h => h
  | i :: rest, a, w, h => by
    unfold wpOps at h
    unfold wpOpsIn
    cases hi : ops[i]? with
    | none => rw [hi] at h; exact wpOpsIn_of hQ hd rest a w h
    | some o =>
      rw [hi] at h
      simp only at h ⊢
      split at h
      · rename_i hw
        rw [if_pos hw]
        rcases h with h | h
        · exact wpIn_of_wp (hd o (Array.mem_of_getElem? hi)) (fun a w => wpOpsIn_of hQ hd rest a w) h
        · exact absurd h.2 hQ
      · rename_i hw
        rw [if_neg hw]
        exact ⟨fun _ _ => trivial, wpOpsIn_of hQ hd rest _ w h⟩

theorem Rel.raw {h : AHeap} {w : World} (r : Rel W0 h w) {id : Nat} {o : Obj} (hid : h id = some (.raw o)) : w.heap[id]? = some o := by
  obtain ⟨_, obj, h2, h3⟩ := r.live id _ hid
  simp only [OR] at h3
  rw [h2, h3]

theorem EntsR_mem {es : Ents} {l : List MapEntry} (h : EntsR W0 es l) : ∀ e ∈ l, ∃ q ∈ es, VR W0 q.1 e.key ∧ VR W0 q.2.1 e.val ∧ e.born = q.2.2 := by
  induction es generalizing l with
  | nil => simp only [EntsR] at h; subst h; simp
  | cons q es ih =>
    obtain ⟨k, v, n⟩ := q
    simp only [EntsR] at h
    obtain ⟨e0, l', rfl, h1, h2, h3, h4⟩ := h
    intro e he
    rcases List.mem_cons.1 he with rfl | he
    · exact ⟨_, List.mem_cons_self, h1, h2, h3⟩
    · obtain ⟨q, hq, r⟩ := ih h4 e he
      exact ⟨q, List.mem_cons_of_mem _ hq, r⟩
theorem EntsR_mem' {es : Ents} {l : List MapEntry} (h : EntsR W0 es l) : ∀ q ∈ es, ∃ e ∈ l, VR W0 q.1 e.key ∧ VR W0 q.2.1 e.val ∧ e.born = q.2.2 := by
  induction es generalizing l with
  | nil => simp
  | cons q es ih =>
    obtain ⟨k, v, n⟩ := q
    simp only [EntsR] at h
    obtain ⟨e0, l', rfl, h1, h2, h3, h4⟩ := h
    intro q hq
    rcases List.mem_cons.1 hq with rfl | hq
    · exact ⟨e0, List.mem_cons_self, h1, h2, h3⟩
    · obtain ⟨e, he, r⟩ := ih h4 q hq
      exact ⟨e, List.mem_cons_of_mem _ he, r⟩

/-- No two entries were born at once. -/
theorem born_inj {es : Ents} {c : Nat} (hb : BornOk es c) {p q : AV × AV × Nat} (hp : p ∈ es) (hq : q ∈ es) (e : p.2.2 = q.2.2) : p = q := by
  have hn : (es.map (·.2.2)).Nodup := hb.1.imp (fun h => Nat.ne_of_lt h)
  obtain ⟨i, hi⟩ := List.mem_iff_getElem?.1 hp
  obtain ⟨j, hj⟩ := List.mem_iff_getElem?.1 hq
  have h1 := (List.getElem?_eq_some_iff.1 hi)
  have h2 := (List.getElem?_eq_some_iff.1 hj)
  obtain ⟨i1, i2⟩ := h1
  obtain ⟨j1, j2⟩ := h2
  have : i = j := (List.getElem_inj (xs := es.map (·.2.2)) hn (i := i) (j := j) (h₀ := by simpa using i1) (h₁ := by simpa using j1)).1 (by simp [i2, j2, e])
  subst this
  rw [← i2, ← j2]

def OkX (P : Program) (W0 : World) (a : Act) (o : Oper) (h : AHeap) (w : World) (K : AV → AHeap → Prop) : Prop :=
  ∃ v u h' w', (execOp a.eval o).run P w = .ok (.value u) w' ∧ VR W0 v u ∧ Rel W0 h' w' ∧ Fr W0 h w W0 h' w' ∧ K v h'

theorem rng_ok {o : Oper} {h : AHeap} {w : World} {K : AV → AHeap → Prop} {t kt e : TypeId} {x : Operand} {y : AArg} (hs : VRs W0 s a.tmps.toList) (r : Rel W0 h w) (ho : o.op = .range t x) (ht : P.underlying t = some (.map kt e)) (hx : cArg x = some y) (k : rngA h K (ev s y)) : OkX P W0 a o h w K := by
  have h1 := cArg_sound hs hx
  generalize ev s y = Y at *
  unfold rngA at k
  split at k
  · rename_i id
    obtain ⟨es, c, hid, k⟩ := k
    simp only [VR] at h1
    obtain ⟨l, hw, hl, hb⟩ := r.map hid
    obtain ⟨r', f'⟩ := alloc_rel r (o := .raw (.mapIter (some id) c #[] c)) (obj := .mapIter (some id) c #[] c) (by simp only [OR])
    refine ⟨_, .pointer (some ⟨w.heap.size, 0, none⟩), _, _, ?_, by simp only [VR], r', f', k _ (fresh_ok r)⟩
    simp [execOp, ho, Instr.range, run_underlying ht, h1, run_getMap hw]
  · simp only [VR] at h1
    obtain ⟨r', f'⟩ := alloc_rel r (o := .raw (.mapIter none 0 #[] 0)) (obj := .mapIter none 0 #[] 0) (by simp only [OR])
    refine ⟨_, .pointer (some ⟨w.heap.size, 0, none⟩), _, _, ?_, by simp only [VR], r', f', k _ (fresh_ok r)⟩
    simp [execOp, ho, Instr.range, run_underlying ht, h1]
  · exact k.elim


theorem run_getRaw {w : World} {r : Nat} {m : Option Nat} {s : Nat} {seen : Array Nat} {l : Nat} (hb : w.heap[r]? = some (.mapIter m s seen l)) : (getObj r).run P w = .ok (.mapIter m s seen l) w := by simp [getObj, Sem.run, hb]
theorem run_setRaw {w : World} {r : Nat} {m : Option Nat} {s : Nat} {seen : Array Nat} {l : Nat} (q : Obj) (hb : w.heap[r]? = some (.mapIter m s seen l)) : (setObj r q).run P w = .ok () { w with heap := w.heap.setIfInBounds r q } := by simp [setObj, Sem.run, hb]

theorem choose_run (w : World) (n : Nat) (hn : 0 < n) : ∃ i w1, (choose (.mapNext n)).run P w = .ok i w1 ∧ i < n ∧ w1.heap = w.heap ∧ w1.os = w.os ∧ w1.tape = w.tape ∧ w1.output = w.output ∧ w.drawn ≤ w1.drawn := by
  rw [run_choose]
  split
  · exact ⟨0, w, rfl, hn, rfl, rfl, rfl, rfl, Nat.le_refl _⟩
  · exact ⟨_, _, rfl, Nat.mod_lt _ hn, rfl, rfl, rfl, rfl, Nat.le_succ _⟩

theorem nxt_ok {o : Oper} {h : AHeap} {w : World} {K : AV → AHeap → Prop} {x : Operand} {rid : Nat} {q : Obj} (h1 : VR W0 (.ptr rid 0) (a.eval x)) (r : Rel W0 h w) (ho : o.op = .next x false) (hq : h rid = some (.raw q)) (k : nxtA h rid K q) : OkX P W0 a o h w K := by
  have hraw := r.raw hq
  have hU : a.eval x = .pointer (some ⟨rid, 0, none⟩) := by simpa only [VR] using h1
  unfold nxtA at k
  split at k
  · exact ⟨_, .tuple #[.bool false], h, w, by simp [execOp, ho, Instr.next, hU, run_getRaw hraw], by simp only [VR]; exact ⟨[.bool false], rfl, VRs_cons (by simp only [VR]) VRs_nil⟩, r, Fr.refl _ _ _, k⟩
  · rename_i m since seen last
    obtain ⟨es, c, hm, rfl, rfl, k⟩ := k
    obtain ⟨l, hw, hl, hb⟩ := r.map hm
    obtain ⟨k1, k2⟩ := k hb
    have hborn : ∀ e ∈ l, e.born < last := fun e he => by
      obtain ⟨q, hq, _, _, e3⟩ := EntsR_mem hl e he
      rw [e3]; exact hb.2 q hq
    have hcond : (!seen.isEmpty && !l.toArray.isEmpty && l.toArray.all fun x => decide (x.born ≥ last)) = false := by
      cases l with
      | nil => simp
      | cons e l =>
        have := hborn e (by simp)
        have : decide (e.born ≥ last) = false := decide_eq_false (by omega)
        simp [this]
    generalize hL : (l.toArray.filter fun e => !seen.contains e.born) = left
    have hleft : ∀ e, e ∈ left ↔ e ∈ l ∧ e.born ∉ seen := fun e => by subst hL; simp
    have hold : (left.filter fun e => decide (e.born < last)) = left := by
      rw [Array.filter_eq_self]
      intro e he
      exact decide_eq_true (hborn e ((hleft e).1 he).1)
    have hnew : (left.filter fun e => decide (e.born ≥ last)) = #[] := by
      rw [Array.filter_eq_empty_iff]
      intro e he
      have := hborn e ((hleft e).1 he).1
      simp; omega
    generalize hC : ((if left.isEmpty then #[none] else #[]) ++ (left ++ #[]).map some : Array (Option MapEntry)) = cand
    have hcs : 0 < cand.size := by
      subst hC
      cases e : left.isEmpty with
      | true => simp; omega
      | false =>
        have : left.size ≠ 0 := by simpa [Array.isEmpty] using e
        simp; omega
    obtain ⟨i, w1, hch, hi, e1, e2, e3, e4, e5⟩ := choose_run (P := P) w cand.size hcs
    obtain ⟨r1, f1⟩ := drew_rel r e1 e2 e3 e4 e5
    have hraw1 := r1.raw hq
    have run : ∀ z, cand[i]? = some z → (execOp a.eval o).run P w = ((match (some z : Option (Option MapEntry)) with
        | some (some e) => do
          setObj rid (.mapIter (some m) last (seen.push e.born) last)
          pure (.tuple #[.bool true, e.key, e.val])
        | some none => pure (.tuple #[.bool false])
        | none => stuck "Next: no such candidate" : Sem Value).run P w1).andThen fun v w' => .ok (.value v) w' := fun z hz => by
      simp only [execOp, ho, Instr.next, hU, Sem.run_bind, run_getRaw hraw, Result.andThen_ok, run_getMap hw, hcond, Bool.false_eq_true, if_false, Sem.run_pure, hL, hold, hnew, hC, hch, hz]
      rfl
    cases hz : cand[i]? with
    | none => simp at hz; omega
    | some z =>
      cases z with
      | none =>
        have hemp : left.isEmpty = true := by
          cases e : left.isEmpty with
          | true => rfl
          | false => subst hC; simp [e] at hz
        have hnil : left = #[] := by simpa using hemp
        refine ⟨_, .tuple #[.bool false], h, w1, by rw [run _ hz]; simp, by simp only [VR]; exact ⟨[.bool false], rfl, VRs_cons (by simp only [VR]) VRs_nil⟩, r1, f1, k2 fun e he => ?_⟩
        obtain ⟨q, hq1, _, _, e5⟩ := EntsR_mem' hl e he
        refine Classical.byContradiction fun hno => ?_
        have := (hleft q).2 ⟨hq1, by rw [e5]; exact hno⟩
        rw [hnil] at this; simp at this
      | some e =>
        have hel : e ∈ left := by
          have := Array.mem_of_getElem? hz
          subst hC
          rcases Array.mem_append.1 this with h | h
          · split at h <;> simp at h
          · simpa using h
        obtain ⟨g1, g2⟩ := (hleft e).1 hel
        obtain ⟨p, hp, v1, v2, e5⟩ := EntsR_mem hl e g1
        obtain ⟨r2, f2⟩ := obj_rel r1 (o' := .raw (.mapIter (some m) last (seen.push p.2.2) last)) (obj := .mapIter (some m) last (seen.push p.2.2) last) hq (by simp only [OR])
        refine ⟨_, .tuple #[.bool true, e.key, e.val], _, _, by rw [run _ hz]; simp [run_setRaw _ hraw1, e5], ?_, r2, f1.trans f2, k1 p hp (by rw [← e5]; exact g2)⟩
        simp only [VR]
        exact ⟨[.bool true, e.key, e.val], rfl, VRs_cons (by simp only [VR]) (VRs_cons v1 (VRs_cons v2 VRs_nil))⟩
  · exact k.elim

theorem ent_ok {o : Oper} {h : AHeap} {w : World} {K : AV → AHeap → Prop} {x : Operand} {rid : Nat} (h1 : VR W0 (.ptr rid 0) (a.eval x)) (r : Rel W0 h w) (ho : o.op = .entry x) (k : entA h rid K) : OkX P W0 a o h w K := by
  obtain ⟨m, since, seen, es, c, e, hq, hm, he, hs, k⟩ := k
  have hraw := r.raw hq
  have hU : a.eval x = .pointer (some ⟨rid, 0, none⟩) := by simpa only [VR] using h1
  obtain ⟨l, hw, hl, hb⟩ := r.map hm
  obtain ⟨q, hq1, v1, v2, e5⟩ := EntsR_mem' hl e he
  have hf : ∃ q', l.toArray.find? (fun x => x.born == e.2.2) = some q' := by
    cases e6 : l.toArray.find? (fun x => x.born == e.2.2) with
    | some q' => exact ⟨q', rfl⟩
    | none =>
      rw [Array.find?_eq_none] at e6
      exact absurd (by simpa using e5) (e6 q (by simpa using hq1))
  obtain ⟨q', hq'⟩ := hf
  have hmem : q' ∈ l := by simpa using Array.mem_of_find?_eq_some hq'
  have hborn : q'.born = e.2.2 := by simpa using Array.find?_some hq'
  obtain ⟨p, hp, u1, u2, e6⟩ := EntsR_mem hl q' hmem
  have : p = e := born_inj hb hp he (by rw [← e6, hborn])
  subst this
  refine ⟨_, .tuple #[q'.key, q'.val], h, w, ?_, ?_, r, Fr.refl _ _ _, k hb⟩
  · simp [execOp, ho, Instr.entry, hU, run_getRaw hraw, hs, run_getMap hw, hq']
  · simp only [VR]
    exact ⟨[q'.key, q'.val], rfl, VRs_cons u1 (VRs_cons u2 VRs_nil)⟩

/-- The operations of a region that holds iterators or rounds. -/
def cOpX (P : Program) (F : List Nat) (d : Option Nat) : Op → Option (Option Nat × AOp)
  | .range t x => match P.underlying t with
    | some (.map ..) => (cArg x).map fun y => (d, .rng y)
    | _ => none
  | .next x g => if g then none else (cArg x).map fun y => (d, .nxt y)
  | .entry x => (cArg x).map fun y => (d, .ent y)
  | .call c => match c.callee with
    | .value f => match cArg f, cArgs c.args.toList with
      | some f, some xs => if (d.any fun t => F.contains t) then some (d, .callY f xs) else (cOp P (.call c)).map (fzOp F d)
      | _, _ => none
    | _ => (cOp P (.call c)).map (fzOp F d)
  | o => (cOp P o).map (fzOp F d)

def hasX (F : List Nat) (ops : Array Oper) : Bool := ops.toList.any fun o => match o.op with
  | .range .. | .next .. | .entry .. => true
  | .call c => match c.callee with | .value _ => o.dst.any fun t => F.contains t | _ => false
  | _ => false

def cOperX (P : Program) (F : List Nat) (ops : Array Oper) (o : Oper) : Option AOper :=
  match cOpX P F o.dst o.op with
  | none => none
  | some q => match o.guard with
    | none => some ⟨q.1, q.2, none⟩
    | some (j, want) => match (ops[j]?).bind (·.dst) with
      | some t => if q.1 = o.dst then some ⟨o.dst, q.2, some (t, want)⟩ else none
      | none => none

def cOpersX (P : Program) (F : List Nat) (ops : Array Oper) : List Oper → Option (List AOper)
  | [] => some []
  | o :: l => match cOperX P F ops o, cOpersX P F ops l with
    | some a, some as => some (a :: as)
    | _, _ => none

theorem guard_specX {F : List Nat} {ops : Array Oper} {o : Oper} {ao : AOper} (h : cOperX P F ops o = some ao) : ∃ q, cOpX P F o.dst o.op = some q ∧ ao.op = q.2 ∧ ao.dst = q.1 ∧
    ((o.guard = none ∧ ao.guard = none) ∨ ∃ j want t, o.guard = some (j, want) ∧ (ops[j]?).bind (·.dst) = some t ∧ ao.dst = o.dst ∧ ao.guard = some (t, want)) := by
  unfold cOperX at h
  split at h
  · cases h
  · rename_i x hx
    split at h
    · rename_i hg; cases h; exact ⟨x, hx, rfl, rfl, .inl ⟨hg, rfl⟩⟩
    · rename_i j want hg
      split at h
      · rename_i t ht
        split at h <;> cases h
        rename_i he
        exact ⟨x, hx, rfl, he.symm, .inr ⟨j, want, t, hg, ht, rfl, rfl⟩⟩
      · cases h

theorem OkX.wpIn {o : Oper} {h : AHeap} {w : World} {K : AV → AHeap → Prop} (hd : ∀ c, o.op ≠ .defer c) (k : OkX P W0 a o h w K) {next : Act → World → Prop} {Q : Exit → Act → World → Prop} (hs : VRs W0 s a.tmps.toList)
    (hn : ∀ W1 v u h' w', VRs W1 (match o.dst with | some d => s.set d v | none => s) (a.put o.dst u).tmps.toList → Rel W1 h' w' → Fr W0 h w W1 h' w' → K v h' → next (a.put o.dst u) w') : o.wpIn (FW ro) 0 P a w next Q := by
  obtain ⟨v, u, h', w', e, h1, h2, h3, h4⟩ := k
  exact wpIn_of_value hd e (hn W0 v u h' w' (VRs_put hs o.dst h1) h2 h3 h4)

theorem plain_sound {F : List Nat} {o : Oper} {q : Option Nat × AOp} (hc : (cOp P o.op).map (fzOp F o.dst) = some q) (hs : VRs W0 s a.tmps.toList) {h : AHeap} {w : World} (r : Rel W0 h w) {K : AV → AHeap → Prop} (hk : awX P q.2 K s h)
    {next : Act → World → Prop} {Q : Exit → Act → World → Prop} (hn : ∀ W1 v u h' w', VRs W1 (match q.1 with | some d => s.set d v | none => s) (a.put o.dst u).tmps.toList → Rel W1 h' w' → Fr W0 h w W1 h' w' → K v h' → next (a.put o.dst u) w') :
    o.wpIn (FW ro) 0 P a w next Q := by
  simp only [Option.map_eq_some_iff] at hc
  obtain ⟨ao, hc, rfl⟩ := hc
  have hx : isX (fzOp F o.dst ao).2 = false := cOp_noX hc
  rw [awX_of hx] at hk
  have hd : ∀ c, o.op ≠ .defer c := fun c e => by
    rcases cOp_or hc with h1 | rfl
    · rw [e] at h1; simp only [cOp0] at h1; cases h1
    · obtain ⟨v, hv, _⟩ := hk; cases hv
  exact wpIn_of_wp hd (fun _ _ h => h) (aw_soundF hc hs r hk hn)

theorem awX_sound {F : List Nat} {o : Oper} {q : Option Nat × AOp} (hc : cOpX P F o.dst o.op = some q) (hs : VRs W0 s a.tmps.toList) {h : AHeap} {w : World} (r : Rel W0 h w) {K : AV → AHeap → Prop} (hk : awX P q.2 K s h)
    {next : Act → World → Prop} {Q : Exit → Act → World → Prop} (hn : ∀ W1 v u h' w', VRs W1 (match q.1 with | some d => s.set d v | none => s) (a.put o.dst u).tmps.toList → Rel W1 h' w' → Fr W0 h w W1 h' w' → K v h' → next (a.put o.dst u) w') :
    o.wpIn (FW ro) 0 P a w next Q := by
  cases hop : o.op with
  | range t x =>
    rw [hop] at hc; simp only [cOpX] at hc
    split at hc
    · rename_i kt e ht
      simp only [Option.map_eq_some_iff] at hc
      obtain ⟨y, hy, rfl⟩ := hc
      exact (rng_ok hs r hop ht hy hk).wpIn (by rw [hop]; intro c e; cases e) hs hn
    · cases hc
  | next x g =>
    rw [hop] at hc; simp only [cOpX] at hc
    cases g with
    | true => simp at hc
    | false =>
      simp only [Bool.false_eq_true, if_false, Option.map_eq_some_iff] at hc
      obtain ⟨y, hy, rfl⟩ := hc
      have h1 := cArg_sound hs hy
      simp only [awX] at hk
      split at hk
      · rename_i rid e0
        rw [e0] at h1
        split at hk
        · rename_i q hq
          exact (nxt_ok h1 r hop hq hk).wpIn (by rw [hop]; intro c e; cases e) hs hn
        · exact hk.elim
      · exact hk.elim
  | entry x =>
    rw [hop] at hc; simp only [cOpX, Option.map_eq_some_iff] at hc
    obtain ⟨y, hy, rfl⟩ := hc
    have h1 := cArg_sound hs hy
    simp only [awX] at hk
    split at hk
    · rename_i rid e0
      rw [e0] at h1
      exact (ent_ok h1 r hop hk).wpIn (by rw [hop]; intro c e; cases e) hs hn
    · exact hk.elim
  | call c =>
    have hc0 := hc
    rw [hop] at hc; simp only [cOpX] at hc
    split at hc
    · rename_i f hcl
      split at hc
      · rename_i f' xs h1 h2
        split at hc
        · rename_i hF
          cases hc
          simp only [awX] at hk
          split at hk
          · rename_i l hl
            obtain ⟨R, hy, hR⟩ := hk
            have hf := cArg_sound hs h1
            rw [hl] at hf
            simp only [VR] at hf
            have hargs := cArgs_sound hs h2
            have hv : VRs W0 (xs.map (ev s)) (c.args.map a.eval).toList := by simpa using hargs
            obtain ⟨fn, tmps, assign, body, e1, e2⟩ := hy W0 w _ r hv
            refine ⟨fun _ _ => trivial, ?_⟩
            rw [Oper.semAt_eq _ _ _ (by rw [hop]; intro c e; cases e)]
            have he : (execOp a.eval o).run P w = .ok (.round l fn tmps assign body) w := by
              simp [execOp, hop, resolve, hcl, Deferred.ofValue, hf, invoke, e1]
            rw [he, Oper.uponIn_round]
            refine ⟨fun e => (by cases e), ?_⟩
            have e3 : RoundIn (FW ro) (0 - 1) P l fn tmps assign body w _ := e2
            refine e3.mono ?_
            rintro e w' ⟨W1, h', rfl, r', f', k'⟩
            exact hn W1 (.bool true) (.bool true) h' w' (VRs_put (VRs_le f'.le _ _ hs) o.dst (by simp only [VR])) r' f' (hR h' k')
          · exact hk.elim
        · rw [← hop] at hc
          exact plain_sound hc hs r hk hn
      · cases hc
    · rw [← hop] at hc
      exact plain_sound hc hs r hk hn
  | _ =>
    rw [hop] at hc; simp only [cOpX] at hc
    rw [← hop] at hc
    exact plain_sound hc hs r hk hn

end
end Go.Proofs.YteijaibggalapaaGreatDoor.E
