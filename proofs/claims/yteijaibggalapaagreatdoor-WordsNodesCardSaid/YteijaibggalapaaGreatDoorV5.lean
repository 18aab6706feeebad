/-
  Calls worked out by the kernel: 'callL' runs a function's resolved code on the evaluator's heap; what it answers, the machine answers ('run_pure').
-/
import Derived.Test.YteijaibggalapaaGreatDoorV4
namespace Go.Proofs.YteijaibggalapaaGreatDoor.E
open Go
set_option linter.unusedVariables false
set_option linter.unusedSimpArgs false

mutual
def sameA : AV → AV → Bool
  | .int k a, .int k' b => decide (k = k') && decide (a = b)
  | .bool a, .bool b => a == b
  | .str a, .str b => decide (a.data.toList = b.data.toList)
  | .ptr a b, .ptr c d => Nat.beq a c && Nat.beq b d
  | .gp a b, .gp c d => Nat.beq a c && Nat.beq b d
  | .nilp, .nilp | .nils, .nils | .rz, .rz | .nilf, .nilf | .nilm, .nilm | .nili, .nili => true
  | .sl a b c d, .sl a' b' c' d' => Nat.beq a a' && Nat.beq b b' && Nat.beq c c' && Nat.beq d d'
  | .map a, .map b => Nat.beq a b
  | .rp l, .rp m | .agg l, .agg m | .tup l, .tup m => sameL l m
  | .ro l n e, .ro m k f => sameL l m && Nat.beq n k && (e == f)
  | .fn f l, .fn g m | .bd f l, .bd g m => Nat.beq f g && sameL l m
  | .iface t x, .iface u y => Nat.beq t u && sameA x y
  | _, _ => false
def sameL : List AV → List AV → Bool
  | [], [] => true
  | x :: l, y :: m => sameA x y && sameL l m
  | _, _ => false
end

mutual
theorem sameA_eq : ∀ (x y : AV), sameA x y = true → x = y
  | .int k a, y, h => by
    cases y <;> first | (cases h; done) | (simp only [sameA, Bool.and_eq_true, decide_eq_true_eq] at h; rw [h.1, h.2])
  | .bool a, y, h => by
    cases y <;> first | (cases h; done) | (simp only [sameA, beq_iff_eq] at h; rw [h])
  | .str a, y, h => by
    cases y <;> first | (cases h; done) | skip
    rename_i b
    simp only [sameA, decide_eq_true_eq] at h
    have : a = b := by
      cases a; cases b; congr 1; exact Array.ext' h
    rw [this]
  | .ptr a b, y, h => by
    cases y <;> first | (cases h; done) | (simp only [sameA, Bool.and_eq_true, Nat.beq_eq] at h; rw [h.1, h.2])
  | .gp a b, y, h => by
    cases y <;> first | (cases h; done) | (simp only [sameA, Bool.and_eq_true, Nat.beq_eq] at h; rw [h.1, h.2])
  | .nilp, y, h => by cases y <;> first | rfl | (cases h; done)
  | .nils, y, h => by cases y <;> first | rfl | (cases h; done)
  | .rz, y, h => by cases y <;> first | rfl | (cases h; done)
  | .nilf, y, h => by cases y <;> first | rfl | (cases h; done)
  | .nilm, y, h => by cases y <;> first | rfl | (cases h; done)
  | .nili, y, h => by cases y <;> first | rfl | (cases h; done)
  | .sl a b c d, y, h => by
    cases y <;> first | (cases h; done) | (simp only [sameA, Bool.and_eq_true, Nat.beq_eq] at h; rw [h.1.1.1, h.1.1.2, h.1.2, h.2])
  | .map a, y, h => by
    cases y <;> first | (cases h; done) | (simp only [sameA, Nat.beq_eq] at h; rw [h])
  | .rp l, y, h => by
    cases y <;> first | (cases h; done) | (simp only [sameA] at h; rw [sameL_eq l _ h])
  | .agg l, y, h => by
    cases y <;> first | (cases h; done) | (simp only [sameA] at h; rw [sameL_eq l _ h])
  | .tup l, y, h => by
    cases y <;> first | (cases h; done) | (simp only [sameA] at h; rw [sameL_eq l _ h])
  | .ro l n e, y, h => by
    cases y <;> first | (cases h; done) | (simp only [sameA, Bool.and_eq_true, Nat.beq_eq, beq_iff_eq] at h; rw [sameL_eq l _ h.1.1, h.1.2, h.2])
  | .fn f l, y, h => by
    cases y <;> first | (cases h; done) | (simp only [sameA, Bool.and_eq_true, Nat.beq_eq] at h; rw [h.1, sameL_eq l _ h.2])
  | .bd f l, y, h => by
    cases y <;> first | (cases h; done) | (simp only [sameA, Bool.and_eq_true, Nat.beq_eq] at h; rw [h.1, sameL_eq l _ h.2])
  | .iface t x, y, h => by
    cases y <;> first | (cases h; done) | (simp only [sameA, Bool.and_eq_true, Nat.beq_eq] at h; rw [h.1, sameA_eq x _ h.2])
  | .yld l, y, h => by cases y <;> cases h
  | .undef, y, h => by cases y <;> cases h
theorem sameL_eq : ∀ (x y : List AV), sameL x y = true → x = y
  | [], y, h => by cases y <;> first | rfl | (cases h; done)
  | x :: l, y, h => by
    cases y <;> first | (cases h; done) | (simp only [sameL, Bool.and_eq_true] at h; rw [sameA_eq x _ h.1, sameL_eq l _ h.2])
end

abbrev Call := FuncId → List AV → LH → Option (AV × LH)

def newL (H : LH) (v : AV) (o : LObj) : Option (AV × LH) := if H.room then some (v, H.push o) else none

/-- A pointer into a block of cells. -/
def ptrOK (H : LH) : AV → Bool
  | .ptr i _ => match H.get (i / 2) with
    | .cells .. => true
    | _ => false
  | _ => true

def opL (call : Call) (e : AArg → AV) (o : AOp) (H : LH) : Option (AV × LH) :=
  match o with
  | .alloc z => newL H (.ptr (2 * H.n + 1) 0) (.cells z 1)
  | .box x => match cellsOf (e x) with
    | some l => newL H (.ptr (2 * H.n + 1) 0) (.cells l 1)
    | none => none
  | .buildSlice esz ps => match catG e esz ps with
    | some l => newL H (.sl (2 * H.n + 1) 0 ps.length ps.length) (.cells l esz)
    | none => none
  | .load g n x => match loadL H g n (e x) with
    | some v => some (v, H)
    | none => none
  | .store n x v => match cellsOf (e v) with
    | some l => if l.length = n ∧ l.all scalar = true then (match writeL H (e x) l with | some H' => some (.undef, H') | none => none) else none
    | none => none
  | .makeSlice bytes z l c => match e l, e c with
    | .int .i64 (.ofNat n), .int .i64 (.ofNat m) => if n ≤ m ∧ bytes * m ≤ 70368744177664 ∧ m < 9223372036854775807 then newL H (.sl (2 * H.n + 1) 0 n m) (.cells (zrep z m) z.length) else none
    | _, _ => none
  | .call f args => match e f with
    | .fn g cap => call g (args.map e ++ cap) H
    | .bd g first => call g (first ++ args.map e) H
    | _ => none
  | .append esz bytes x y => appendL H esz bytes (e x) (e y)
  | .copy esz x y => copyL H esz (e x) (e y)
  | .clear z x => clearL H z (e x)
  | .mkMap => newL H (.map (2 * H.n + 1)) (.map [] 0)
  | .mapOp mo xs => mapL H mo (xs.map e)
  | .slice esz x lo hi mx => sliceL H esz (e x) (lo.map e) (hi.map e) (mx.map e)
  | .sliceP n esz x lo hi mx =>
    if ptrOK H (e x) = true then
      (match arrL n esz (e x) (lo.map e) (hi.map e) (mx.map e) with | some v => some (v, H) | none => none) else none
  | .cap x => match e x with
    | .sl i _ _ c => if i % 2 = 1 then some (.int .i64 c, H) else none
    | .nils => some (.int .i64 0, H)
    | .ro _ n true => some (.int .i64 n, H)
    | _ => none
  | .b2s x => match cellsL H 1 (e x) with
    | some cs => match u8s cs with
      | some xs => some (.str (strOfNums xs), H)
      | none => none
    | none => none
  | .loadG .. | .storeF .. | .appendN .. | .rng _ | .nxt _ | .ent _ | .callY .. | .bad => none
  | o => if plainP o then (match pvG e o with | some v => some (v, H) | none => none) else none

/-- What 'call' answers, the machine answers. -/
def CallOK (P : Program) (call : Call) : Prop := ∀ g args H v H', call g args H = some (v, H') → ∀ (E : List Blk) (args' : List AV) (h base : AHeap) (K : AV → AHeap → Prop), Rens E args args' → MtH E H h base → Then E base v H' K → callF P g args' h K

section
variable {P : Program} {E : List Blk} {H : LH} {h base : AHeap}

theorem new_cells (m : MtH E H h base) {cs cs' : List AV} {esz : Nat} {v : AV} {H' : LH} {mk : Nat → AV} {K : AV → AHeap → Prop} (hc : Rens E cs cs')
    (q : newL H (mk (2 * H.n + 1)) (.cells cs esz) = some (v, H')) (hmk : ∀ (b : Blk) (T : List Blk), b.mp = false → b.sh = 0 → T[H.n]? = some b → Ren T (mk (2 * H.n + 1)) (mk b.id)) (k : Then E base v H' K) :
    ∀ id, h id = none → K (mk id) (upd h id (.cells cs' cs'.length)) := by
  unfold newL at q
  split at q
  · rename_i hr; cases q
    intro id hid
    have hl := hc.length
    exact k [⟨id, 0, esz, cs'.length, 0, false⟩] _ _ (hmk ⟨id, 0, esz, cs'.length, 0, false⟩ _ rfl rfl (by rw [← m.len]; exact snoc_get _)) (m.fresh hr hid rfl (.inl ⟨rfl, cs', by rw [upd_same], by simp⟩) ⟨m.sub.isNone hid, rfl, by simp; omega, [], cs', [], by rw [upd_same]; simp, rfl, hc.mono⟩)
  · cases q

theorem u8s_ren : ∀ {cs cs' : List AV} {xs : List Int}, Rens E cs cs' → u8s cs = some xs → u8s cs' = some xs
  | [], _, _, .nil, e => e
  | x :: cs, _, xs, .cons r rs, e => by
    unfold u8s at e
    split at e
    · rename_i hh; cases hh
    · rename_i n l hh
      cases hh
      simp only [Option.map_eq_some_iff] at e
      obtain ⟨ys, hy, rfl⟩ := e
      rw [r.leaf_eq rfl]
      simp only [u8s, u8s_ren rs hy, Option.map_some]
    · cases e

theorem zrep_len (z : List AV) (n : Nat) : (zrep z n).length = n * z.length := by unfold zrep; simp

theorem op_ren {call : Call} (hcall : CallOK P call) (m : MtH E H h base) {o : AOp} {e : AArg → AV} {s' : List AV} {v : AV} {H' : LH} {K : AV → AHeap → Prop} (ok : okOp o = true) (he : ∀ x ∈ argsOf o, Ren E (e x) (ev s' x))
    (q : opL call e o H = some (v, H')) (k : Then E base v H' K) : aw P o K s' h := by
  have plain : plainP o = true → opL call e o H = (match pvG e o with | some v => some (v, H) | none => none) → (aw P o K s' h ↔ ∃ v, pv s' o = some v ∧ K v h) → aw P o K s' h := fun hp hq hi => by
    rw [hq] at q
    split at q
    · rename_i u hu
      cases q
      obtain ⟨v', h1, h2⟩ := pvG_ren hp ok he hu
      exact hi.2 ⟨v', by rw [pv_eq hp]; exact h1, k.here h2 m⟩
    · cases q
  cases o
  case alloc z =>
    have hz : idFs z = true := by simp only [okOp, Bool.and_eq_true] at ok; exact ok.2
    exact new_cells (mk := fun i => .ptr i 0) m (idFs_ren z hz) q (fun b T h1 h2 h3 => by
      have := Ren.ptr (E := T) (i := 2 * H.n + 1) (o := 0) (b := b) (by rw [show (2 * H.n + 1) / 2 = H.n by omega]; exact h3)
      rw [h2] at this; exact this) k
  case box x =>
    simp only [opL] at q
    split at q
    · rename_i l hl
      obtain ⟨l', h1, h2⟩ := (he x (by simp [argsOf])).co hl
      exact ⟨l', h1, new_cells (mk := fun i => .ptr i 0) m h2 q (fun b T h1 h2 h3 => by
        have := Ren.ptr (E := T) (i := 2 * H.n + 1) (o := 0) (b := b) (by rw [show (2 * H.n + 1) / 2 = H.n by omega]; exact h3)
        rw [h2] at this; exact this) k⟩
    · cases q
  case buildSlice esz ps =>
    simp only [opL] at q
    split at q
    · rename_i l hl
      obtain ⟨l', h1, h2⟩ := cat_ren (fun x hx => he x (by simpa [argsOf] using hx)) hl
      exact ⟨l', by rw [cat_eq]; exact h1, new_cells (mk := fun i => .sl i 0 ps.length ps.length) m h2 q (fun b T h1 h2 h3 => by
        have := Ren.sl (E := T) (i := 2 * H.n + 1) (o := 0) (n := ps.length) (c := ps.length) (c' := ps.length) (b := b) (by rw [show (2 * H.n + 1) / 2 = H.n by omega]; exact h3) h1 (fun _ => rfl) (fun hh => by omega)
        rw [h2] at this; exact this) k⟩
    · cases q
  case load g n x =>
    simp only [opL] at q
    split at q
    · rename_i u hu
      cases q
      obtain ⟨v', h1, h2⟩ := load_ren m (he x (by simp [argsOf])) hu
      exact ⟨v', h1, k.here h2 m⟩
    · cases q
  case store n x u =>
    simp only [opL] at q
    split at q
    · rename_i l hl
      obtain ⟨l', h1, h2⟩ := (he u (by simp [argsOf])).co hl
      split at q
      · rename_i hh
        split at q
        · rename_i H1 hw
          cases q
          obtain ⟨h', g1, g2⟩ := write_ren m (he x (by simp [argsOf])) h2 hw
          exact ⟨l', h', h1, by rw [h2.length]; exact hh.1, by rw [h2.scalars]; exact hh.2, g1, k.here (.leaf rfl) g2⟩
        · cases q
      · cases q
    · cases q
  case makeSlice bytes z l c =>
    have hz : idFs z = true := by simp only [okOp, Bool.and_eq_true] at ok; exact ok.2
    have hl := he l (by simp [argsOf]); have hc := he c (by simp [argsOf])
    simp only [opL] at q
    split at q
    · rename_i n mm h1 h2
      rw [h1] at hl; rw [h2] at hc
      split at q
      · rename_i hh
        have hlen := zrep_len z mm
        have := new_cells (mk := fun i => .sl i 0 n mm) m (idFs_ren _ (zrep_idF hz mm)) q (fun b T h1 h2 h3 => by
          have := Ren.sl (E := T) (i := 2 * H.n + 1) (o := 0) (n := n) (c := mm) (c' := mm) (b := b) (by rw [show (2 * H.n + 1) / 2 = H.n by omega]; exact h3) h1 (fun _ => rfl) (fun hh => by omega)
          rw [h2] at this; exact this) k
        rw [hlen] at this
        exact ⟨n, mm, hl.leaf_eq rfl, hc.leaf_eq rfl, hh.1, hh.2.1, hh.2.2, this⟩
      · cases q
    · cases q
  case call f args =>
    have hf := he f (by simp [argsOf])
    have ha := map_ren (E := E) (l := args) fun x hx => he x (by simp [argsOf, hx])
    simp only [opL] at q
    simp only [aw]
    split at q
    · rename_i g cap h1
      rw [h1] at hf
      generalize ev s' f = u at hf ⊢
      cases hf with
      | leaf hl => cases hl
      | fn r => exact hcall _ _ _ _ _ q E _ h base K (ha.append r) m k
    · rename_i g first h1
      rw [h1] at hf
      generalize ev s' f = u at hf ⊢
      cases hf with
      | leaf hl => cases hl
      | bd r => exact hcall _ _ _ _ _ q E _ h base K (r.append ha) m k
    · cases q
  case append esz bytes x y => exact append_ren m (he x (by simp [argsOf])) (he y (by simp [argsOf])) q k
  case copy esz x y => exact copy_ren m (he x (by simp [argsOf])) (he y (by simp [argsOf])) q k
  case clear z x =>
    have hz : idFs z = true := by simp only [okOp, Bool.and_eq_true] at ok; exact ok.2
    exact clear_ren m hz (he x (by simp [argsOf])) q k
  case mkMap =>
    simp only [opL, newL] at q
    split at q
    · rename_i hr; cases q
      intro id hid
      have hk : E.length = H.n := m.len
      refine k [⟨id, 0, 0, 0, 0, true⟩] _ _ ?_ (m.fresh hr hid rfl (.inr ⟨rfl, [], 0, by rw [upd_same]⟩) ⟨m.sub.isNone hid, [], by rw [upd_same], by simp [RenEnts]⟩)
      exact .map (E := E ++ [⟨id, 0, 0, 0, 0, true⟩]) (i := 2 * H.n + 1) (b := ⟨id, 0, 0, 0, 0, true⟩) (by rw [show (2 * H.n + 1) / 2 = E.length by omega]; exact snoc_get _)
    · cases q
  case mapOp mo xs =>
    refine map_op_ren m (fun kk z o' e => ?_) (map_ren (E := E) (l := xs) fun x hx => he x (by simpa [argsOf] using hx)) q k
    subst e
    simp only [okOp, Bool.and_eq_true] at ok; exact ok.2
  case slice esz x lo hi mx =>
    exact slice_ren m (he x (by simp [argsOf])) (fun y hy => he y (by simp [argsOf] at hy ⊢; simp [hy])) (fun y hy => he y (by simp [argsOf] at hy ⊢; simp [hy])) (fun y hy => he y (by simp [argsOf] at hy ⊢; simp [hy])) q k
  case sliceP n esz x lo hi mx =>
    simp only [opL] at q
    by_cases hp : ptrOK H (e x) = true
    rotate_left
    · rw [if_neg hp] at q; cases q
    rw [if_pos hp] at q
    split at q
    · rename_i u hu
      cases q
      have hx := he x (by simp [argsOf])
      obtain ⟨v', h1, h2⟩ := arr_ren (E := E) (x' := ev s' x) (fun i o ho => by
        rw [ho] at hp hx
        generalize ev s' x = w at hx
        cases hx with
        | leaf hl => cases hl
        | ptr q1 =>
          rename_i b
          refine ⟨b, q1, ?_⟩
          simp only [ptrOK] at hp
          split at hp
          · rename_i cs ez hc
            obtain ⟨_, _, _, pre, cs', post, g1, g2, g3⟩ := m.cells q1 hc
            rcases m.al _ _ q1 with ⟨hm, _⟩ | ⟨_, es, c, g4⟩
            · exact hm
            · rw [g1] at g4; cases g4
          · cases hp) hx (fun y hy => he y (by simp [argsOf] at hy ⊢; simp [hy])) (fun y hy => he y (by simp [argsOf] at hy ⊢; simp [hy])) (fun y hy => he y (by simp [argsOf] at hy ⊢; simp [hy])) hu
      exact ⟨v', h1, k.here h2 m⟩
    · cases q
  case cap x =>
    have hx := he x (by simp [argsOf])
    simp only [opL] at q
    simp only [aw, pv]
    split at q
    · rename_i i o n c h1
      rw [h1] at hx
      generalize ev s' x = w at hx ⊢
      cases hx with
      | leaf hl => cases hl
      | sl q1 q0 q2 q3 =>
        split at q
        · rename_i hi
          cases q
          rw [q2 hi]
          exact ⟨_, rfl, k.here (.leaf rfl) m⟩
        · cases q
    · rename_i h1
      rw [h1] at hx; rw [hx.leaf_eq rfl]; cases q
      exact ⟨_, rfl, k.here (.leaf rfl) m⟩
    · rename_i cs n h1
      rw [h1] at hx
      generalize ev s' x = w at hx ⊢
      cases hx with
      | leaf hl => cases hl
      | ro r => cases q; exact ⟨_, rfl, k.here (.leaf rfl) m⟩
    · cases q
  case b2s x =>
    simp only [opL] at q
    split at q
    · rename_i cs hc
      split at q
      · rename_i xs hx
        cases q
        obtain ⟨cs', h1, h2⟩ := cells_ren m (he x (by simp [argsOf])) hc
        exact ⟨cs', xs, h1, u8s_ren h2 hx, k.here (.leaf rfl) m⟩
      · cases q
    · cases q
  all_goals first
    | exact plain rfl rfl Iff.rfl
    | (simp [opL] at q; done)
end

/-! ### Code -/

/-- What comes behind some code. -/
def ThenS (E : List Blk) (base : AHeap) (s : List AV) (H : LH) (K : List AV → AHeap → Prop) : Prop := ∀ (T : List Blk) (s' : List AV) (h' : AHeap), Rens (E ++ T) s s' → MtH (E ++ T) H h' base → K s' h'

def operL (call : Call) (o : AOper) (s : List AV) (H : LH) : Option (List AV × LH) :=
  match active o s with
  | some true => match opL call (ev s) o.op H with
    | some (v, H') => some (put s o.dst v, H')
    | none => none
  | some false => some (put s o.dst (.tup []), H)
  | none => none

def opsL (call : Call) : List AOper → List AV → LH → Option (List AV × LH)
  | [], s, H => some (s, H)
  | o :: l, s, H => match operL call o s H with
    | some (s', H') => opsL call l s' H'
    | none => none

def stabL (H : LH) (un : List Nat) : List RF → Bool
  | [] => true
  | f :: l => (!(un.contains f.tag) || (match loadL H f.g f.n f.p with | some v => sameA v f.v | none => false)) && stabL H un l

def rfL (o : DOper) (s : List AV) (H : LH) (pre : List RF) : Option (List RF) :=
  match o.keep, o.op.op, active o.op s with
  | true, .load g n x, some true => match loadL H g n (ev s x) with
    | some v => some (⟨o.tag, g, n, ev s x, v⟩ :: pre)
    | none => none
  | _, _, _ => some pre

def opsD (call : Call) : List DOper → List RF → List AV → LH → Option (List AV × LH)
  | [], _, s, H => some (s, H)
  | o :: l, pre, s, H => match kindOf o.op.op with
    | .read => match rfL o s H pre with
      | some pre' => (match operL call o.op s H with
        | some (s', H') => opsD call l pre' s' H'
        | none => none)
      | none => none
    | .eff => match operL call o.op s H with
      | some (s', H') => if stabL H' o.un pre then opsD call l pre s' H' else none
      | none => none
    | _ => match operL call o.op s H with
      | some (s', H') => opsD call l pre s' H'
      | none => none

inductive Ex where
  | nrm
  | ext (id : Nat)
  | ret

def Ex.toE : Ex → Exit
  | .nrm => .normal
  | .ext i => .exit i
  | .ret => .ret

def codeL (call : Call) : Nat → ACode → List AV → LH → Option (Ex × List AV × LH)
  | 0, _, _, _ => none
  | f + 1, c, s, H => match c with
    | .skip => some (.nrm, s, H)
    | .reg ops => match opsL call ops s H with
      | some (s', H') => some (.nrm, s', H')
      | none => none
    | .regD ops => match opsD call ops [] s H with
      | some (s', H') => some (.nrm, s', H')
      | none => none
    | .seq a b => match codeL call f a s H with
      | some (.nrm, s', H') => codeL call f b s' H'
      | r => r
    | .cond c x y => match ev s c with
      | .bool true => codeL call f x s H
      | .bool false => codeL call f y s H
      | _ => none
    | .block id c => match codeL call f c s H with
      | some (.ext i, s', H') => if i = id then some (.nrm, s', H') else some (.ext i, s', H')
      | r => r
    | .loop c => match codeL call f c s H with
      | some (.nrm, s', H') => codeL call f (.loop c) s' H'
      | r => r
    | .exit id => some (.ext id, s, H)
    | .ret => some (.ret, s, H)
    | _ => none

def okCode : ACode → Bool
  | .reg ops => ops.all fun o => okOp o.op
  | .regD ops => ops.all fun o => okOp o.op.op
  | .seq a b => okCode a && okCode b
  | .cond c x y => okArg c && okCode x && okCode y
  | .block _ c | .loop c => okCode c
  | _ => true

section
variable {P : Program} {call : Call} {base : AHeap}

theorem arg_ren {E : List Blk} {s s' : List AV} {x : AArg} (ok : okArg x = true) (r : Rens E s s') : Ren E (ev s x) (ev s' x) := by
  cases x with
  | t n => exact r.getD n
  | c v => exact idF_ren v ok

theorem op_args {E : List Blk} {s s' : List AV} {o : AOp} (ok : okOp o = true) (r : Rens E s s') : ∀ x ∈ argsOf o, Ren E (ev s x) (ev s' x) := fun x hx => by
  simp only [okOp, Bool.and_eq_true] at ok
  exact arg_ren (List.all_eq_true.1 ok.1 x hx) r

theorem active_ren {E : List Blk} {s s' : List AV} {o : AOper} {b : Bool} (r : Rens E s s') (h : active o s = some b) : active o s' = some b := by
  unfold active at h ⊢
  split at h
  · exact h
  · rename_i t w hg
    have rt := r.getD t
    split at h
    · rename_i u hu
      rw [hu] at rt; rw [rt.leaf_eq rfl]; exact h
    · rename_i hu
      rw [hu] at rt
      generalize s'.getD t .undef = y at rt ⊢
      cases rt with
      | leaf hl => cases hl
      | tup q => cases q; exact h
    · cases h

theorem oper_ren (hcall : CallOK P call) {E : List Blk} {s s' s1 : List AV} {H H1 : LH} {h : AHeap} {o : AOper} {K : List AV → AHeap → Prop} (ok : okOp o.op = true) (r : Rens E s s') (m : MtH E H h base)
    (q : operL call o s H = some (s1, H1)) (k : ThenS E base s1 H1 K) : awOper P o K s' h := by
  rw [awOper_iff]
  unfold operL at q
  split at q
  · rename_i ha
    split at q
    · rename_i v H' hv
      cases q
      refine .inl ⟨active_ren r ha, op_ren hcall m ok (op_args ok r) hv fun T v' h' rv mt => ?_⟩
      exact k T _ _ (r.mono.puts o.dst rv) mt
    · cases q
  · rename_i ha
    cases q
    exact .inr ⟨active_ren r ha, k [] _ _ (by simpa using r.puts o.dst (.tup .nil)) (by simpa using m)⟩
  · cases q

theorem ops_ren (hcall : CallOK P call) : ∀ {ops : List AOper} {E : List Blk} {s s' s1 : List AV} {H H1 : LH} {h : AHeap} {K : List AV → AHeap → Prop}, (ops.all fun o => okOp o.op) = true → Rens E s s' → MtH E H h base →
    opsL call ops s H = some (s1, H1) → ThenS E base s1 H1 K → awOps P ops K s' h
  | [], E, s, s', s1, H, H1, h, K, ok, r, m, q, k => by
    simp only [opsL, Option.some.injEq, Prod.mk.injEq] at q
    obtain ⟨rfl, rfl⟩ := q
    exact k [] _ _ (by simpa using r) (by simpa using m)
  | o :: l, E, s, s', s1, H, H1, h, K, ok, r, m, q, k => by
    simp only [List.all_cons, Bool.and_eq_true] at ok
    simp only [opsL] at q
    split at q
    · rename_i s2 H2 h2
      refine oper_ren hcall ok.1 r m h2 fun T s3 h3 r3 m3 => ?_
      exact ops_ren hcall ok.2 r3 m3 q fun T2 s4 h4 r4 m4 => k (T ++ T2) s4 h4 (by rw [← List.append_assoc]; exact r4) (by rw [← List.append_assoc]; exact m4)
    · cases q

/-- What was read, on both sides. -/
def RFs (E : List Blk) : List RF → List RF → Prop
  | [], l => l = []
  | f :: l, m => ∃ g m', m = g :: m' ∧ g.tag = f.tag ∧ g.g = f.g ∧ g.n = f.n ∧ Ren E f.p g.p ∧ Ren E f.v g.v ∧ RFs E l m'

theorem RFs.mono {E T : List Blk} : ∀ {l m : List RF}, RFs E l m → RFs (E ++ T) l m
  | [], _, h => h
  | f :: l, _, ⟨g, m', e, h1, h2, h3, h4, h5, h6⟩ => ⟨g, m', e, h1, h2, h3, h4.mono, h5.mono, h6.mono⟩

theorem stab_ren {E : List Blk} {H : LH} {h : AHeap} (m : MtH E H h base) {un : List Nat} : ∀ {pre pre' : List RF}, RFs E pre pre' → stabL H un pre = true → ∀ f ∈ pre', f.tag ∈ un → stab f h
  | [], _, e, _, f, hf, _ => by simp only [RFs] at e; subst e; cases hf
  | f0 :: l, _, ⟨g, m', e, h1, h2, h3, h4, h5, h6⟩, hs, f, hf, hu => by
    subst e
    simp only [stabL, Bool.and_eq_true] at hs
    rcases List.mem_cons.1 hf with rfl | hf
    · rw [h1] at hu
      have h7 : un.contains f0.tag = true := by simpa using hu
      rw [h7] at hs
      simp only [Bool.not_true, Bool.false_or] at hs
      split at hs
      · rename_i v hv
        obtain ⟨v', g1, g2⟩ := load_ren m h4 hv
        have := sameA_eq _ _ hs.1
        subst this
        have := g2.uniq h5
        subst this
        unfold stab; rw [h2, h3]; exact g1
      · cases hs.1
    · exact stab_ren m h6 hs.2 f hf hu

theorem rf_ren {E : List Blk} {s s' : List AV} {H : LH} {h : AHeap} (m : MtH E H h base) {o : DOper} (ok : okOp o.op.op = true) (r : Rens E s s') (ha : active o.op s ≠ none) {pre pre' pre2 : List RF} (hp : RFs E pre pre') (q : rfL o s H pre = some pre2) : RFs E pre2 (rfOf o s' h pre') := by
  have hac : active o.op s' = active o.op s := by
    cases e : active o.op s with
    | none => exact absurd e ha
    | some b => exact active_ren r e
  unfold rfL at q
  unfold rfOf
  rw [hac]
  split at q
  · rename_i g n x e0 e1 e2
    rw [e0, e1, e2]
    simp only
    split at q
    · rename_i v hv
      cases q
      have rx := op_args ok r x (by rw [e1]; simp [argsOf])
      obtain ⟨v', h1, h2⟩ := load_ren m rx hv
      rw [h1]
      exact ⟨_, _, rfl, rfl, rfl, rfl, rx, h2, hp⟩
    · cases q
  · rename_i hne
    cases q
    split
    · rename_i g n x e0 e1 e2
      exact absurd e2 (hne g n x e0 e1)
    · exact hp

theorem opsD_ren (hcall : CallOK P call) : ∀ {ops : List DOper} {pre pre' : List RF} {E : List Blk} {s s' s1 : List AV} {H H1 : LH} {h : AHeap} {K : List AV → AHeap → Prop}, (ops.all fun o => okOp o.op.op) = true → RFs E pre pre' → Rens E s s' → MtH E H h base →
    opsD call ops pre s H = some (s1, H1) → ThenS E base s1 H1 K → awD P ops pre' K s' h
  | [], pre, pre', E, s, s', s1, H, H1, h, K, ok, hp, r, m, q, k => by
    simp only [opsD, Option.some.injEq, Prod.mk.injEq] at q
    obtain ⟨rfl, rfl⟩ := q
    exact k [] _ _ (by simpa using r) (by simpa using m)
  | o :: l, pre, pre', E, s, s', s1, H, H1, h, K, ok, hp, r, m, q, k => by
    simp only [List.all_cons, Bool.and_eq_true] at ok
    have kk : ∀ T, ThenS (E ++ T) base s1 H1 K := fun T T2 s4 h4 r4 m4 => k (T ++ T2) s4 h4 (by rw [← List.append_assoc]; exact r4) (by rw [← List.append_assoc]; exact m4)
    unfold opsD at q
    unfold awD
    split at q
    · rename_i e; rw [e]
      split at q
      rotate_left
      · cases q
      rename_i pre2 hp2
      split at q
      rotate_left
      · cases q
      rename_i s2 H2 h2
      have ha : active o.op s ≠ none := by
        intro e2; simp only [operL, e2] at h2; cases h2
      refine oper_ren hcall ok.1 r m h2 fun T s3 h3 r3 m3 => ?_
      exact opsD_ren hcall ok.2 (rf_ren m ok.1 r ha hp hp2).mono r3 m3 q (kk T)
    · rename_i e; rw [e]
      split at q
      rotate_left
      · cases q
      rename_i s2 H2 h2
      split at q
      rotate_left
      · cases q
      rename_i hst
      refine oper_ren hcall ok.1 r m h2 fun T s3 h3 r3 m3 => ?_
      exact ⟨stab_ren m3 hp.mono hst, opsD_ren hcall ok.2 hp.mono r3 m3 q (kk T)⟩
    · rename_i e1 e2
      split at q
      rotate_left
      · cases q
      rename_i s2 H2 h2
      split
      · rename_i e; exact absurd e e1
      · rename_i e; exact absurd e e2
      · refine oper_ren hcall ok.1 r m h2 fun T s3 h3 r3 m3 => ?_
        exact opsD_ren hcall ok.2 hp.mono r3 m3 q (kk T)

theorem code_ren (hcall : CallOK P call) : ∀ (f : Nat) {c : ACode} {E : List Blk} {s s' s1 : List AV} {H H1 : LH} {e : Ex} {h : AHeap} {Q : PostA}, okCode c = true → Rens E s s' → MtH E H h base →
    codeL call f c s H = some (e, s1, H1) → ThenS E base s1 H1 (Q e.toE) → exec P c Q s' h := by
  intro f
  induction f using Nat.strongRecOn with
  | ind f ih =>
  intro c E s s' s1 H H1 e h Q ok r m q k
  cases f with
  | zero => cases q
  | succ f =>
  have here : ∀ {Q : PostA}, ThenS E base s H (Q e.toE) → Q e.toE s' h := fun k => k [] _ _ (by simpa using r) (by simpa using m)
  cases c with
  | skip => simp only [codeL, Option.some.injEq, Prod.mk.injEq] at q; obtain ⟨rfl, rfl, rfl⟩ := q; exact here k
  | exit id => simp only [codeL, Option.some.injEq, Prod.mk.injEq] at q; obtain ⟨rfl, rfl, rfl⟩ := q; exact here k
  | ret => simp only [codeL, Option.some.injEq, Prod.mk.injEq] at q; obtain ⟨rfl, rfl, rfl⟩ := q; exact here k
  | reg ops =>
    simp only [codeL] at q
    split at q
    · rename_i s2 H2 h2
      cases q
      exact ops_ren hcall ok r m h2 k
    · cases q
  | regD ops =>
    simp only [codeL] at q
    split at q
    · rename_i s2 H2 h2
      cases q
      exact opsD_ren hcall ok (show RFs E [] [] from rfl) r m h2 k
    · cases q
  | seq a b =>
    simp only [okCode, Bool.and_eq_true] at ok
    simp only [codeL] at q
    simp only [exec]
    split at q
    · rename_i s2 H2 h2
      refine ih f (by omega) ok.1 r m h2 fun T s3 h3 r3 m3 => ?_
      exact ih f (by omega) ok.2 r3 m3 q fun T2 s4 h4 r4 m4 => k (T ++ T2) s4 h4 (by rw [← List.append_assoc]; exact r4) (by rw [← List.append_assoc]; exact m4)
    · rename_i hne
      refine ih f (by omega) ok.1 r m q fun T s3 h3 r3 m3 => ?_
      have kk := k T s3 h3 r3 m3
      cases e with
      | nrm => exact absurd q (hne _ _)
      | _ => exact kk
  | cond c x y =>
    simp only [okCode, Bool.and_eq_true] at ok
    simp only [codeL] at q
    simp only [exec]
    have rc := arg_ren ok.1.1 r
    split at q
    · rename_i hc
      rw [hc] at rc; rw [rc.leaf_eq rfl]
      exact ⟨fun _ => ih f (by omega) ok.1.2 r m q k, fun hh => (by cases hh)⟩
    · rename_i hc
      rw [hc] at rc; rw [rc.leaf_eq rfl]
      exact ⟨fun hh => (by cases hh), fun _ => ih f (by omega) ok.2 r m q k⟩
    · cases q
  | block id c =>
    simp only [okCode] at ok
    simp only [codeL] at q
    simp only [exec]
    split at q
    · rename_i i s2 H2 h2
      refine ih f (by omega) ok r m h2 fun T s3 h3 r3 m3 => ?_
      simp only [Ex.toE]
      split at q
      · rename_i hi; cases q
        have kk := k T s3 h3 r3 m3
        have : (if i = id then (frzA (Q .normal) s3 h3 ∧ Q .normal s3 h3) else Q (.exit i) s3 h3) := by rw [if_pos hi]; exact ⟨frz_id kk, kk⟩
        cases c <;> simp only [blockQ, blockF, blockA, if_pos hi] at this ⊢ <;> first | exact this.1 | exact this.2
      · rename_i hi; cases q
        have kk := k T s3 h3 r3 m3
        cases c <;> simp only [blockQ, blockF, blockA, if_neg hi] <;> exact kk
    · rename_i hne
      refine ih f (by omega) ok r m q fun T s3 h3 r3 m3 => ?_
      have kk := k T s3 h3 r3 m3
      cases e with
      | ext i => exact absurd q (hne _ _ _)
      | nrm => cases c <;> exact kk
      | ret => cases c <;> exact kk
  | loop c =>
    have ok' : okCode c = true := by simpa only [okCode] using ok
    simp only [exec]
    refine ⟨fun n s2' h2 => ∃ T s2 H2, Rens (E ++ T) s2 s2' ∧ MtH (E ++ T) H2 h2 base ∧ n ≤ f + 1 ∧ codeL call n (.loop c) s2 H2 = some (e, s1, H1), f + 1, [], s', h, .refl h, .refl _ _ _, ⟨[], s, H, by simpa using r, by simpa using m, Nat.le_refl _, q⟩, ?_⟩
    rintro n s2' h2 ⟨T, s2, H2, r2, m2, hn, q2⟩
    cases n with
    | zero => cases q2
    | succ n =>
      simp only [codeL] at q2
      split at q2
      · rename_i s3 H3 h3
        refine ih n (by omega) ok' r2 m2 h3 fun T2 s4 h4 r4 m4 => ?_
        exact ⟨n, s4, h4, Nat.lt_succ_self n, .refl h4, .refl _ _ _, T ++ T2, s3, H3, by rw [← List.append_assoc]; exact r4, by rw [← List.append_assoc]; exact m4, by omega, q2⟩
      · rename_i hne
        refine ih n (by omega) ok' r2 m2 q2 fun T2 s4 h4 r4 m4 => ?_
        have kk := k (T ++ T2) s4 h4 (by rw [← List.append_assoc]; exact r4) (by rw [← List.append_assoc]; exact m4)
        cases e with
        | nrm => exact absurd q2 (hne _ _)
        | _ => exact kk
  | _ => cases q
end

/-! ### Calls -/

/-- The slots of literals: they may be written to. -/
def litF : Code → List Nat
  | .region _ ops _ => ops.toList.filterMap fun o => match o.op, o.dst with
    | .buildSlice .., some t => some t
    | _, _ => none
  | .seq a b | .cond _ a b => litF a ++ litF b
  | .block _ c | .loop c | .scope c => litF c
  | .rangeFunc _ _ a b => litF a ++ litF b
  | _ => []

def tabL (P : Program) (g : FuncId) : Option (ACode × List RV × Nat) :=
  match P.funcs[g]? with
  | some fn => match fn.body with
    | some c => match cCode P (litF c) c, cRes P fn.results.toList with
      | some ac, some rs => if okCode ac && !(fn.name == "runtime.NumGoroutine") then some (ac, rs, fn.ntmps) else none
      | _, _ => none
    | none => none
  | none => none

def resL (s : List AV) (H : LH) : List RV → Option (List AV)
  | [] => some []
  | .t n :: l => match resL s H l with
    | some vs => some (s.getD n .undef :: vs)
    | none => none
  | .m a g n :: l => match loadL H g n (s.getD a .undef), resL s H l with
    | some v, some vs => some (v :: vs)
    | _, _ => none

def callL (P : Program) (X : Call) : Nat → Call
  | 0, _, _, _ => none
  | f + 1, g, args, H => match X g args H with
    | some r => some r
    | none => match tabL P g with
      | some (ac, rs, n) => match codeL (callL P X f) f ac (args ++ List.replicate (n - args.length) .undef) H with
        | some (.nrm, s, H') | some (.ret, s, H') => (match resL s H' rs with
          | some vs => some (tupA vs, H')
          | none => none)
        | _ => none
      | none => none

section
variable {P : Program} {base : AHeap}

theorem res_ren {E : List Blk} {s s' : List AV} {H : LH} {h : AHeap} (m : MtH E H h base) (r : Rens E s s') : ∀ {rs : List RV} {vs : List AV}, resL s H rs = some vs → ∃ vs', resAll s' h rs = some vs' ∧ Rens E vs vs'
  | [], vs, e => by simp only [resL, Option.some.injEq] at e; subst e; exact ⟨[], rfl, .nil⟩
  | .t n :: l, vs, e => by
    simp only [resL] at e
    split at e
    · rename_i us hu
      cases e
      obtain ⟨us', h1, h2⟩ := res_ren m r hu
      exact ⟨_, by simp only [resAll, resOne, h1], .cons (r.getD n) h2⟩
    · cases e
  | .m a g n :: l, vs, e => by
    simp only [resL] at e
    split at e
    · rename_i v us hv hu
      cases e
      obtain ⟨us', h1, h2⟩ := res_ren m r hu
      obtain ⟨v', h3, h4⟩ := load_ren m (r.getD a) hv
      exact ⟨_, by simp only [resAll, resOne]; unfold rdv at h3; rw [h3, h1], .cons h4 h2⟩
    · cases e

theorem tupA_ren {E : List Blk} {vs vs' : List AV} (r : Rens E vs vs') : Ren E (tupA vs) (tupA vs') := by
  cases r with
  | nil => exact .tup .nil
  | cons a b => cases b with
    | nil => exact a
    | cons c d => exact .tup (.cons a (.cons c d))

theorem tabL_spec {g : FuncId} {ac : ACode} {rs : List RV} {n : Nat} (e : tabL P g = some (ac, rs, n)) : ∃ fn c, P.funcs[g]? = some fn ∧ fn.body = some c ∧ (fn.name == "runtime.NumGoroutine") = false ∧ cCode P (litF c) c = some ac ∧ cRes P fn.results.toList = some rs ∧ okCode ac = true ∧ fn.ntmps = n := by
  unfold tabL at e
  split at e
  · rename_i fn hf
    split at e
    · rename_i c hb
      split at e
      · rename_i ac' rs' h1 h2
        split at e
        · rename_i hh; cases e
          simp only [Bool.and_eq_true, Bool.not_eq_true'] at hh
          exact ⟨fn, c, hf, hb, hh.2, h1, h2, hh.1, rfl⟩
        · cases e
      · cases e
    · cases e
  · cases e

/-- A function's body, run. -/
theorem body_ren {call : Call} (hcall : CallOK P call) {f : Nat} {g : FuncId} {ac : ACode} {rs : List RV} {n : Nat} (ht : tabL P g = some (ac, rs, n)) {E : List Blk} {args args' : List AV} {s1 : List AV} {H H1 : LH} {e : Ex} {vs : List AV} {h : AHeap} {R : AV → AHeap → Prop}
    (ra : Rens E args args') (m : MtH E H h base) (q : codeL call f ac (args ++ List.replicate (n - args.length) .undef) H = some (e, s1, H1)) (he : e = .nrm ∨ e = .ret) (hv : resL s1 H1 rs = some vs)
    (k : ∀ (T : List Blk) (vs' : List AV) (h' : AHeap), Rens (E ++ T) vs vs' → MtH (E ++ T) H1 h' base → ∃ vs2 h2, FzH h' h2 ∧ FzL h' h2 vs' vs2 ∧ R (tupA vs2) h2) : CallsA P g args' h R := by
  obtain ⟨fn, c, hf, hb, hn, hc, hr, ok, rfl⟩ := tabL_spec ht
  refine CallsA.enter hf hb hn hc hr (code_ren hcall f ok (ra.append ?_) m q fun T s2 h2 r2 m2 => ?_)
  · rw [ra.length]; exact Rens.undefs _
  · obtain ⟨vs', h3, h4⟩ := res_ren m2 r2 hv
    obtain ⟨vs2, h5, g1, g2, g3⟩ := k T vs' h2 h4 m2
    refine ⟨?_, vs', vs2, h5, h3, g1, g2, g3⟩
    rcases he with rfl | rfl
    · exact .inl rfl
    · exact .inr rfl

theorem call_ok {X : Call} (hX : CallOK P X) : ∀ f, CallOK P (callL P X f)
  | 0, g, args, H, v, H', q => by cases q
  | f + 1, g, args, H, v, H', q => by
    intro E args' h base K ra m k
    simp only [callL] at q
    split at q
    · rename_i r hr
      cases q
      exact hX _ _ _ _ _ hr E args' h base K ra m k
    · split at q
      · rename_i ac rs n ht
        have main : ∀ {e : Ex} {s1 : List AV} {H1 : LH}, codeL (callL P X f) f ac (args ++ List.replicate (n - args.length) .undef) H = some (e, s1, H1) → (e = .nrm ∨ e = .ret) → (match resL s1 H1 rs with | some vs => some (tupA vs, H1) | none => none) = some (v, H') → callF P g args' h K := by
          intro e s1 H1 hq he h2
          split at h2
          · rename_i vs hvs
            cases h2
            exact (body_ren (call_ok hX f) ht ra m hq he hvs fun T vs' h' r2 m2 => ⟨vs', h', .refl _, .refl _ _ _, k T _ _ (tupA_ren r2) m2⟩).go
          · cases h2
        split at q
        · rename_i s H1 hq
          exact main hq (.inl rfl) q
        · rename_i s H1 hq
          exact main hq (.inr rfl) q
        · cases q
      · cases q

theorem mt_emp (h : AHeap) : MtH [] ⟨.e, 0⟩ h h := ⟨rfl, fun _ _ e => e, by decide, fun k b e => (by cases k <;> cases e), fun k b e => (by cases k <;> cases e), fun i j b c e => (by cases i <;> cases e)⟩

/-- Nothing is answered beside the code. -/
def noX : Call := fun _ _ _ => none
theorem noX_ok : CallOK P noX := fun g args H v H' q => by cases q

/-- A call whose arguments lie in no memory, run by the kernel. -/
def runL (P : Program) (X : Call) (f : Nat) (g : FuncId) (args : List AV) : Option AV :=
  match tabL P g with
  | some (ac, rs, n) => match codeL (callL P X f) f ac (args ++ List.replicate (n - args.length) .undef) ⟨.e, 0⟩ with
    | some (.nrm, s, H') | some (.ret, s, H') => (match resL s H' rs with
      | some [v] => some v
      | _ => none)
    | _ => none
  | none => none

theorem run_pure {X : Call} (hX : CallOK P X) {f : Nat} {g : FuncId} {args : List AV} {v : AV} (ha : idFs args = true) (hv : idF v = true) (q : runL P X f g args = some v) (h : AHeap) : PureA P g args h v := by
  unfold runL at q
  split at q
  · rename_i ac rs n ht
    have main : ∀ {e : Ex} {s1 : List AV} {H1 : LH}, codeL (callL P X f) f ac (args ++ List.replicate (n - args.length) .undef) ⟨.e, 0⟩ = some (e, s1, H1) → (e = .nrm ∨ e = .ret) → (match resL s1 H1 rs with | some [v] => some v | _ => none) = some v → PureA P g args h v := by
      intro e s1 H1 hq he h2
      split at h2
      · rename_i u hvs
        cases h2
        refine body_ren (call_ok hX f) ht (idFs_ren (E := []) args ha) (mt_emp h) hq he hvs fun T vs' h' r2 m2 => ?_
        have e1 := r2.uniq (Rens.cons (idF_ren v hv) .nil)
        subst e1
        exact ⟨[v], h, FzH.sub m2.sub, .refl _ _ _, rfl, rfl⟩
      · cases h2
    split at q
    · rename_i s H1 hq; exact main hq (.inl rfl) q
    · rename_i s H1 hq; exact main hq (.inr rfl) q
    · cases q
  · cases q
end
end Go.Proofs.YteijaibggalapaaGreatDoor.E
