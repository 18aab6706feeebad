/-
  The operations that look at no memory do what the resolved ones say.
-/
import Derived.Test.YteijaibggalapaaGreatDoorE2
namespace Go.Proofs.YteijaibggalapaaGreatDoor.E
open Go
set_option linter.unusedVariables false
set_option linter.unusedSimpArgs false

section
variable {P : Program} {W0 : World} {s : List AV} {a : Act}

theorem cst1_sound {v : Value} {x : AV} (h : cst1 v = some x) : VR W0 x v := by
  unfold cst1 at h
  split at h <;> first | (cases h; simp [VR]) | cases h

theorem csts_sound : ∀ {l : List Value} {xs : List AV}, csts l = some xs → VRs W0 xs l
  | [], xs, h => by simp [csts] at h; subst h; exact VRs_nil
  | v :: l, xs, h => by
    simp only [csts] at h
    split at h
    · rename_i x ys h1 h2; cases h; exact VRs_cons (cst1_sound h1) (csts_sound h2)
    · cases h

theorem cst_sound {v : Value} {x : AV} (h : cst v = some x) : VR W0 x v := by
  unfold cst at h
  split at h
  · rename_i cs
    simp only [Option.map_eq_some_iff] at h
    obtain ⟨xs, h1, rfl⟩ := h
    simp only [VR]
    exact ⟨cs.toList, by simp, csts_sound h1⟩
  · exact cst1_sound h

theorem getD_sound (hs : VRs W0 s a.tmps.toList) (t : Nat) : VR W0 (s.getD t .undef) (a.tmps.getD t undef) := by
  rw [List.getD_eq_getElem?_getD]
  cases h : s[t]? with
  | none => simp [VR]
  | some x =>
    obtain ⟨v, hv, hr⟩ := VRs_get hs t x h
    have : a.tmps[t]? = some v := by simpa using hv
    simp [Array.getD_eq_getD_getElem?, this, hr]

theorem cArg_sound (hs : VRs W0 s a.tmps.toList) {x : Operand} {y : AArg} (h : cArg x = some y) : VR W0 (ev s y) (a.eval x) := by
  cases x <;> simp only [cArg] at h
  · cases h; exact getD_sound hs _
  · simp only [Option.map_eq_some_iff] at h; obtain ⟨z, h1, rfl⟩ := h; exact cst_sound h1
  · cases h; simp only [ev, VR, Act.eval]
  · cases h; simp only [ev, VR, Act.eval]; exact ⟨[], rfl, VRs_nil⟩

theorem cArgs_sound (hs : VRs W0 s a.tmps.toList) : ∀ {l : List Operand} {ys : List AArg}, cArgs l = some ys → VRs W0 (ys.map (ev s)) (l.map a.eval)
  | [], ys, h => by simp [cArgs] at h; subst h; exact VRs_nil
  | x :: l, ys, h => by
    simp only [cArgs] at h
    split at h
    · rename_i y zs h1 h2; cases h; exact VRs_cons (cArg_sound hs h1) (cArgs_sound hs h2)
    · cases h

theorem run_underlying {t : TypeId} {d : TypeDesc} (h : P.underlying t = some d) (w : World) : (underlying t).run P w = .ok d w := by
  simp [underlying, h]
theorem run_typeInfo {t : TypeId} {i : TypeInfo} (h : P.info? t = some i) (w : World) : (typeInfo t).run P w = .ok i w := by
  simp [typeInfo, h]
theorem run_sizeOf {t : TypeId} {n : Nat} (h : tSize P t = some n) (w : World) : (sizeOf t).run P w = .ok n w := by
  simp only [tSize, Option.map_eq_some_iff] at h
  obtain ⟨i, h1, rfl⟩ := h
  simp [sizeOf, run_typeInfo h1]
theorem tZero_sound {t : TypeId} {z : List AV} (h : tZero P t = some z) : ∃ v, (∀ w, (zeroValue t).run P w = .ok v w) ∧ VRs W0 z v.cells.toList := by
  simp only [tZero] at h
  split at h
  · rename_i i hi
    split at h
    · rename_i v hv
      exact ⟨v, fun w => by simp [zeroValue, run_typeInfo hi, hv], csts_sound h⟩
    · cases h
  · cases h
theorem run_isAgg {t : TypeId} {g : Bool} (h : tAgg P t = some g) (w : World) : (isAgg t).run P w = .ok g w := by
  simp only [tAgg] at h
  split at h
  · rename_i hd; cases h; simp [isAgg, run_underlying hd]
  · rename_i hd; cases h; simp [isAgg, run_underlying hd]
  · rename_i d h1 h2 hd; cases h
    simp only [isAgg, Sem.run_bind, run_underlying hd, Result.andThen_ok]
    cases d <;> first | rfl | exact absurd rfl (h1 _) | exact absurd rfl (h2 _ _)
  · cases h
theorem tElem_sound {t e : TypeId} (h : tElem P t = some e) : P.underlying t = some (.slice e) := by
  unfold tElem at h; split at h <;> simp_all
theorem tField_sound {t : TypeId} {f : Nat} {fd : Field} (h : tField P t f = some fd) : ∃ fs, P.underlying t = some (.struct fs) ∧ fs[f]? = some fd := by
  unfold tField at h; split at h
  · rename_i fs hd; exact ⟨fs, hd, h⟩
  · cases h

/-- What is asked of an operation that looks at no memory. -/
def Yl (P : Program) (W0 : World) (a : Act) (o : Oper) (v : AV) : Prop := ∃ u, VR W0 v u ∧ ∀ w, (execOp a.eval o).run P w = .ok (.value u) w

theorem cellsOf_sound {x : AV} {v : Value} {l : List AV} (h : cellsOf x = some l) (hv : VR W0 x v) : VRs W0 l v.cells.toList := by
  cases x <;> simp only [cellsOf] at h <;> first | (cases h; done) | skip
  case agg cs => cases h; simp only [VR] at hv; obtain ⟨m, rfl, hm⟩ := hv; simpa [Value.cells] using hm
  all_goals
    cases h
    have hv' := hv
    simp only [VR] at hv
  case iface => obtain ⟨u, rfl, hu⟩ := hv; exact VRs_cons hv' VRs_nil
  case rp => obtain ⟨b, m, rfl, _⟩ := hv; exact VRs_cons hv' VRs_nil
  case ro => rcases hv with ⟨b, c, m, rfl, _⟩ | ⟨_, _, rfl⟩ <;> exact VRs_cons hv' VRs_nil
  case rz => obtain ⟨b, c, rfl⟩ := hv; exact VRs_cons hv' VRs_nil
  case fn => obtain ⟨m, rfl, _⟩ := hv; exact VRs_cons hv' VRs_nil
  case bd => obtain ⟨m, rfl, _⟩ := hv; exact VRs_cons hv' VRs_nil
  case sl => obtain ⟨rfl, _⟩ := hv; exact VRs_cons hv' VRs_nil
  all_goals subst hv; exact VRs_cons hv' VRs_nil

theorem scalar_sound {x : AV} {v : Value} (h : scalar x = true) (hv : VR W0 x v) : v.oneCell' = true := by
  cases x <;> simp only [scalar] at h <;> first | (cases h; done) | skip
  all_goals simp only [VR] at hv
  case iface => obtain ⟨u, rfl, hu⟩ := hv; rfl
  case rp => obtain ⟨b, m, rfl, _⟩ := hv; rfl
  case ro => rcases hv with ⟨b, c, m, rfl, _⟩ | ⟨_, _, rfl⟩ <;> rfl
  case rz => obtain ⟨b, c, rfl⟩ := hv; rfl
  case fn => obtain ⟨m, rfl, _⟩ := hv; rfl
  case bd => obtain ⟨m, rfl, _⟩ := hv; rfl
  case sl => obtain ⟨rfl, _⟩ := hv; rfl
  all_goals subst hv; rfl

/-! ### One by one -/

theorem mv_sound (hs : VRs W0 s a.tmps.toList) {x : Operand} {y : AArg} (h : cArg x = some y) {o : Oper} (ho : o.op = .move x ∨ o.op = .assign x) : Yl P W0 a o (ev s y) := by
  refine ⟨a.eval x, cArg_sound hs h, fun w => ?_⟩
  rcases ho with ho | ho <;> simp [execOp, ho]

theorem pick_sound (hs : VRs W0 s a.tmps.toList) {c x y : Operand} {c' x' y' : AArg} (hc : cArg c = some c') (hx : cArg x = some x') (hy : cArg y = some y')
    {o : Oper} (ho : o.op = .pick c x y) {t : Bool} (ht : ev s c' = .bool t) : Yl P W0 a o (if t then ev s x' else ev s y') := by
  have h1 := cArg_sound hs hc
  rw [ht] at h1; simp only [VR] at h1
  refine ⟨if t then a.eval x else a.eval y, ?_, fun w => by simp only [execOp, ho, h1, asBool]; cases t <;> simp⟩
  cases t
  · exact cArg_sound hs hy
  · exact cArg_sound hs hx

theorem nilCheck_sound (hs : VRs W0 s a.tmps.toList) {x : Operand} {y : AArg} (hx : cArg x = some y) {o : Oper} (ho : o.op = .nilCheck x) {v : AV} (hv : pv s (.nilCheck y) = some v) : Yl P W0 a o v := by
  have h1 := cArg_sound hs hx
  refine ⟨a.eval x, ?_, fun w => ?_⟩
  · simp only [pv] at hv; split at hv <;> cases hv <;> simp_all
  · simp only [pv] at hv
    split at hv <;> cases hv <;> (rename_i e; rw [e] at h1; simp only [VR] at h1)
    · simp [execOp, ho, h1]
    · simp [execOp, ho, h1]
    · obtain ⟨b, l, h1, _⟩ := h1; simp [execOp, ho, h1]
    · obtain ⟨l, h1, _⟩ := h1; simp [execOp, ho, h1]
    · obtain ⟨l, h1, _⟩ := h1; simp [execOp, ho, h1]

theorem eqGuard_int (op : BinOp) (t : TypeId) (x y : Operand) (k k' : IntKind) (m n : Int) (w : World) : (eqGuard op t x y (.int k m) (.int k' n)).run P w = .ok () w := by
  unfold eqGuard; split <;> simp

theorem binInt_run {op : BinOp} {t : TypeId} {k k' : IntKind} {m n : Int} {v : AV} (hv : binA op (.int k m) (.int k' n) = some v) :
    ∃ u, VR W0 v u ∧ ∀ w, (binOp op t (.int k m) (.int k' n)).run P w = .ok u w := by
  by_cases hk : k = k'
  · subst hk
    cases op <;> simp only [binA, if_true] at hv
    case shl => split at hv <;> cases hv; rename_i hn; exact ⟨_, by simp only [VR]; rfl, fun w => by simp [binOp, Op.shift, if_neg hn]⟩
    case shr => split at hv <;> cases hv; rename_i hn; exact ⟨_, by simp only [VR]; rfl, fun w => by simp [binOp, Op.shift, if_neg hn]⟩
    case quo => split at hv <;> cases hv; rename_i hn; exact ⟨_, by simp only [VR]; rfl, fun w => by simp [binOp, Op.intDiv, if_neg hn]⟩
    case rem => split at hv <;> cases hv; rename_i hn; exact ⟨_, by simp only [VR]; rfl, fun w => by simp [binOp, Op.intDiv, if_neg hn]⟩
    case eql => cases hv; exact ⟨.bool (m == n), by simp only [VR]; rfl, fun w => by simp [binOp, Op.intCmp]⟩
    case neq => cases hv; exact ⟨.bool (m != n), by simp only [VR]; rfl, fun w => by simp [binOp, Op.intCmp]⟩
    all_goals first | (cases hv; done) | (cases hv; exact ⟨_, by simp only [VR]; rfl, fun w => by simp [binOp, Op.intArith, Op.intBits, Op.intCmp]⟩)
  · cases op <;> simp only [binA, if_neg hk] at hv
    case shl => split at hv <;> cases hv; rename_i hn; exact ⟨_, by simp only [VR]; rfl, fun w => by simp [binOp, Op.shift, if_neg hn]⟩
    case shr => split at hv <;> cases hv; rename_i hn; exact ⟨_, by simp only [VR]; rfl, fun w => by simp [binOp, Op.shift, if_neg hn]⟩
    all_goals cases hv

theorem eqGuard_str (op : BinOp) (t : TypeId) (x y : Operand) (m n : ByteArray) (w : World) : (eqGuard op t x y (.string m) (.string n)).run P w = .ok () w := by
  unfold eqGuard; split <;> simp

theorem binStr_run {op : BinOp} {t : TypeId} {m n : ByteArray} {v : AV} (hv : binA op (.str m) (.str n) = some v) :
    ∃ u, VR W0 v u ∧ ∀ w, (binOp op t (.string m) (.string n)).run P w = .ok u w := by
  cases op <;> simp only [binA] at hv
  case add =>
    split at hv <;> cases hv
    rename_i hle
    exact ⟨.string (m ++ n), by simp only [VR], fun w => by
      have hle' : m.size + n.size ≤ 9223372036854775807 := Nat.le_of_ble_eq_true hle
      have : ¬ (((m.size + n.size : Nat) : Int) > IntKind.i64.max) := by
        have e : IntKind.i64.max = 9223372036854775807 := rfl
        rw [e]; omega
      simp only [binOp, Op.stringOp, if_neg this]; rfl⟩
  case eql => cases hv; exact ⟨_, by simp only [VR]; rfl, fun w => by simp [binOp, Op.stringOp]⟩
  case neq => cases hv; exact ⟨_, by simp only [VR]; rfl, fun w => by simp [binOp, Op.stringOp]⟩
  all_goals cases hv

theorem binInt_sound (hs : VRs W0 s a.tmps.toList) {x y : Operand} {x' y' : AArg} (hx : cArg x = some x') (hy : cArg y = some y') {o : Oper} {op : BinOp} {t t' : TypeId}
    (ho : o.op = .binOp op t x y t') {v : AV} (hv : binA op (ev s x') (ev s y') = some v) : Yl P W0 a o v := by
  have h1 := cArg_sound hs hx
  have h2 := cArg_sound hs hy
  generalize ev s x' = u1 at *
  generalize ev s y' = u2 at *
  have hv0 := hv
  unfold binA at hv
  split at hv
  · simp only [VR] at h1 h2
    obtain ⟨u, hu, hr⟩ := binInt_run (P := P) (W0 := W0) (t := t) hv0
    exact ⟨u, hu, fun w => by simp only [execOp, ho, h1, h2, Sem.run_bind, eqGuard_int, Result.andThen_ok, hr, Sem.run_pure]⟩
  · simp only [VR] at h1 h2
    obtain ⟨u, hu, hr⟩ := binStr_run (P := P) (W0 := W0) (t := t) hv0
    exact ⟨u, hu, fun w => by simp only [execOp, ho, h1, h2, Sem.run_bind, eqGuard_str, Result.andThen_ok, hr, Sem.run_pure]⟩
  · cases hv

theorem run_equalIn_bool (d : Nat) {t : TypeId} (ht : P.underlying t = some .bool) (b c : Bool) (w : World) : (Op.equalIn (d + 1) t (.bool b) (.bool c)).run P w = .ok (b == c) w := by
  simp [Op.equalIn, run_underlying ht]

theorem eqb_sound (hs : VRs W0 s a.tmps.toList) {x y : Operand} {x' y' : AArg} (hx : cArg x = some x') (hy : cArg y = some y') {o : Oper} {op : BinOp} {t t' : TypeId}
    (ho : o.op = .binOp op t x y t') {neg : Bool} (hop : op = if neg then .neq else .eql) (ht : P.underlying t = some .bool) {v : AV} (hv : pv s (.eqb neg x' y') = some v) : Yl P W0 a o v := by
  have h1 := cArg_sound hs hx
  have h2 := cArg_sound hs hy
  simp only [pv] at hv
  generalize ev s x' = u1 at *
  generalize ev s y' = u2 at *
  split at hv <;> cases hv
  rename_i b c
  simp only [VR] at h1 h2
  have hg : ∀ w, (eqGuard op t x y (.bool b) (.bool c)).run P w = .ok () w := fun w => by unfold eqGuard; split <;> simp
  have he : ∀ w, (Op.equal t (.bool b) (.bool c)).run P w = .ok (b == c) w := run_equalIn_bool 9999 ht b c
  refine ⟨.bool (neg ^^ (b == c)), by simp only [VR], fun w => ?_⟩
  simp only [execOp, ho, h1, h2, Sem.run_bind, hg, Result.andThen_ok]
  cases neg <;> simp at hop <;> subst hop <;> simp [binOp, he]

def NK.fits : NK → TypeDesc → Prop
  | .p, .pointer _ | .s, .slice _ | .m, .map .. | .f, .func .. => True
  | _, _ => False

theorem ro1 {cs : List AV} {n : Nat} {ex : Bool} {u : Value} (h : VR W0 (.ro cs (n + 1) ex) u) : ∃ p cap, u = .slice (some p) (n + 1) cap := by
  simp only [VR] at h
  rcases h with ⟨p, cap, _, h, _⟩ | ⟨h, _⟩
  · exact ⟨p, cap, h⟩
  · cases h
theorem rz1 {u : Value} (h : VR W0 .rz u) : ∃ p cap, u = .slice (some p) 0 cap := by simpa only [VR] using h

theorem nil_equal (n : Nat) {k : NK} {t : TypeId} {d : TypeDesc} (hd : P.underlying t = some d) (hk : k.fits d) {x y : AV} {u v : Value} {b : Bool} (hb : nilA k x y = some b) (hx : VR W0 x u) (hy : VR W0 y v) (w : World) :
    (Op.equalIn (n + 1) t u v).run P w = .ok b w := by
  unfold nilA at hb
  split at hb <;> cases hb <;> (cases d <;> first | (exact hk.elim) | skip)
  all_goals
    first
      | (obtain ⟨_, _, hx⟩ := ro1 hx; simp only [VR] at hy; subst hx hy; simp [Op.equalIn, run_underlying hd])
      | (obtain ⟨_, _, hy⟩ := ro1 hy; simp only [VR] at hx; subst hx hy; simp [Op.equalIn, run_underlying hd])
      | (obtain ⟨_, _, hx⟩ := rz1 hx; simp only [VR] at hy; subst hx hy; simp [Op.equalIn, run_underlying hd])
      | (obtain ⟨_, _, hy⟩ := rz1 hy; simp only [VR] at hx; subst hx hy; simp [Op.equalIn, run_underlying hd])
      | skip
    all_goals simp only [VR] at hx hy
    all_goals
     first
      | (obtain ⟨_, _, _, hx, _⟩ := hx; subst hx hy; simp [Op.equalIn, run_underlying hd])
      | (obtain ⟨_, _, hx, _⟩ := hx; subst hx hy; simp [Op.equalIn, run_underlying hd])
      | (obtain ⟨_, _, _, hy, _⟩ := hy; subst hx hy; simp [Op.equalIn, run_underlying hd])
      | (obtain ⟨_, _, hy, _⟩ := hy; subst hx hy; simp [Op.equalIn, run_underlying hd])
      | (obtain ⟨_, hx, _⟩ := hx; subst hx hy; simp [Op.equalIn, run_underlying hd])
      | (obtain ⟨_, hy, _⟩ := hy; subst hx hy; simp [Op.equalIn, run_underlying hd])
      | (obtain ⟨hx, _⟩ := hx; subst hx hy; simp [Op.equalIn, run_underlying hd])
      | (obtain ⟨hy, _⟩ := hy; subst hx hy; simp [Op.equalIn, run_underlying hd])
      | (subst hx hy; simp [Op.equalIn, run_underlying hd])

theorem isIfc_spec {t : TypeId} (h : isIfc P t = true) : ∃ ms, P.underlying t = some (.interface ms) := by
  unfold isIfc at h; split at h
  · rename_i ms e; exact ⟨ms, e⟩
  · cases h

theorem run_equalIn_nili (d : Nat) {t : TypeId} {ms : Array (String × TypeId)} (ht : P.underlying t = some (.interface ms)) (w : World) : (Op.equalIn (d + 1) t .nilIface .nilIface).run P w = .ok true w := by
  simp [Op.equalIn, run_underlying ht]
theorem run_equalIn_ifnil (d : Nat) {t : TypeId} {ms : Array (String × TypeId)} (ht : P.underlying t = some (.interface ms)) (tt : TypeId) (u : Value) (w : World) : (Op.equalIn (d + 1) t (.iface tt u) .nilIface).run P w = .ok false w := by
  simp [Op.equalIn, run_underlying ht]

theorem mki_sound (hs : VRs W0 s a.tmps.toList) {x : Operand} {x' : AArg} (hx : cArg x = some x') {o : Oper} {t : TypeId}
    (ho : o.op = .makeInterface t x) (hc : isI P t = true) {v : AV} (hv : pv s (.mki t x') = some v) : Yl P W0 a o v := by
  unfold isI at hc
  split at hc
  · rename_i k ht
    have h1 := cArg_sound hs hx
    simp only [pv] at hv
    cases hv
    refine ⟨.iface t (a.eval x), by simp only [VR]; exact ⟨_, rfl, h1⟩, fun w => ?_⟩
    simp [execOp, ho, Instr.makeInterface, run_underlying ht]
  · cases hc

theorem eqi_sound (hs : VRs W0 s a.tmps.toList) {x y : Operand} {x' y' : AArg} (hx : cArg x = some x') (hy : cArg y = some y') {o : Oper} {op : BinOp} {t t' : TypeId}
    (ho : o.op = .binOp op t x y t') {neg : Bool} (hop : op = if neg then .neq else .eql) (hc : (isIfc P t && isNilI y) = true) {v : AV} (hv : pv s (.eqi neg x') = some v) : Yl P W0 a o v := by
  simp only [Bool.and_eq_true] at hc
  obtain ⟨ms, hd⟩ := isIfc_spec hc.1
  have hy0 : y = .const .nilIface := by
    have := hc.2
    unfold isNilI at this; split at this
    · rfl
    · cases this
  subst hy0
  have h1 := cArg_sound hs hx
  simp only [pv] at hv
  generalize ev s x' = u1 at *
  have h2 : a.eval (.const .nilIface) = .nilIface := rfl
  split at hv <;> cases hv
  · simp only [VR] at h1
    have hg : ∀ w, (eqGuard op t x (.const .nilIface) .nilIface .nilIface).run P w = .ok () w := fun w => by unfold eqGuard; split <;> simp
    have he : ∀ w, (Op.equal t .nilIface .nilIface).run P w = .ok true w := run_equalIn_nili 9999 hd
    refine ⟨.bool (!neg), by simp only [VR], fun w => ?_⟩
    simp only [execOp, ho, h1, h2, Sem.run_bind, hg, Result.andThen_ok]
    cases neg <;> simp at hop <;> subst hop <;> simp [binOp, he]
  · simp only [VR] at h1
    obtain ⟨u, h1, _⟩ := h1
    rename_i tt _ _
    have hg : ∀ w, (eqGuard op t x (.const .nilIface) (.iface tt u) .nilIface).run P w = .ok () w := fun w => by unfold eqGuard; split <;> simp
    have he : ∀ w, (Op.equal t (.iface tt u) .nilIface).run P w = .ok false w := run_equalIn_ifnil 9999 hd _ _
    refine ⟨.bool neg, by simp only [VR], fun w => ?_⟩
    simp only [execOp, ho, h1, h2, Sem.run_bind, hg, Result.andThen_ok]
    cases neg <;> simp at hop <;> subst hop <;> simp [binOp, he]

theorem nil_guard {k : NK} {x y : AV} {u v : Value} {b : Bool} (hb : nilA k x y = some b) (hx : VR W0 x u) (hy : VR W0 y v) (op : BinOp) (t : TypeId) (xx yy : Operand) (w : World) :
    (eqGuard op t xx yy u v).run P w = .ok () w := by
  unfold nilA at hb
  split at hb <;> cases hb
  all_goals
    first
      | (obtain ⟨_, _, hx⟩ := ro1 hx; simp only [VR] at hy; subst hx hy; unfold eqGuard; split <;> simp; done)
      | (obtain ⟨_, _, hy⟩ := ro1 hy; simp only [VR] at hx; subst hx hy; unfold eqGuard; split <;> simp; done)
      | (obtain ⟨_, _, hx⟩ := rz1 hx; simp only [VR] at hy; subst hx hy; unfold eqGuard; split <;> simp; done)
      | (obtain ⟨_, _, hy⟩ := rz1 hy; simp only [VR] at hx; subst hx hy; unfold eqGuard; split <;> simp; done)
      | skip
    all_goals simp only [VR] at hx hy
    all_goals
     first
      | (obtain ⟨_, _, _, hx, _⟩ := hx; subst hx hy; unfold eqGuard; split <;> simp; done)
      | (obtain ⟨_, _, hx, _⟩ := hx; subst hx hy; unfold eqGuard; split <;> simp; done)
      | (obtain ⟨_, _, _, hy, _⟩ := hy; subst hx hy; unfold eqGuard; split <;> simp; done)
      | (obtain ⟨_, _, hy, _⟩ := hy; subst hx hy; unfold eqGuard; split <;> simp; done)
      | (obtain ⟨_, hx, _⟩ := hx; subst hx hy; unfold eqGuard; split <;> simp; done)
      | (obtain ⟨_, hy, _⟩ := hy; subst hx hy; unfold eqGuard; split <;> simp; done)
      | (obtain ⟨hx, _⟩ := hx; subst hx hy; unfold eqGuard; split <;> simp; done)
      | (obtain ⟨hy, _⟩ := hy; subst hx hy; unfold eqGuard; split <;> simp; done)
      | (subst hx hy; unfold eqGuard; split <;> simp; done)

theorem nil_bin {k : NK} {t : TypeId} {d : TypeDesc} (hd : P.underlying t = some d) (hk : k.fits d) {x y : AV} {u v : Value} {b : Bool} (hb : nilA k x y = some b) (hx : VR W0 x u) (hy : VR W0 y v) (w : World) :
    (binOp .eql t u v).run P w = .ok (.bool b) w ∧ (binOp .neq t u v).run P w = .ok (.bool (!b)) w := by
  have he : (Op.equal t u v).run P w = .ok b w := nil_equal 9999 hd hk hb hx hy w
  unfold nilA at hb
  split at hb <;> cases hb
  all_goals
    first
      | (obtain ⟨_, _, hx⟩ := ro1 hx; simp only [VR] at hy; subst hx hy; simp [binOp, he]; done)
      | (obtain ⟨_, _, hy⟩ := ro1 hy; simp only [VR] at hx; subst hx hy; simp [binOp, he]; done)
      | (obtain ⟨_, _, hx⟩ := rz1 hx; simp only [VR] at hy; subst hx hy; simp [binOp, he]; done)
      | (obtain ⟨_, _, hy⟩ := rz1 hy; simp only [VR] at hx; subst hx hy; simp [binOp, he]; done)
      | skip
    all_goals simp only [VR] at hx hy
    all_goals
     first
      | (obtain ⟨_, _, _, hx, _⟩ := hx; subst hx hy; simp [binOp, he]; done)
      | (obtain ⟨_, _, hx, _⟩ := hx; subst hx hy; simp [binOp, he]; done)
      | (obtain ⟨_, _, _, hy, _⟩ := hy; subst hx hy; simp [binOp, he]; done)
      | (obtain ⟨_, _, hy, _⟩ := hy; subst hx hy; simp [binOp, he]; done)
      | (obtain ⟨_, hx, _⟩ := hx; subst hx hy; simp [binOp, he]; done)
      | (obtain ⟨_, hy, _⟩ := hy; subst hx hy; simp [binOp, he]; done)
      | (obtain ⟨hx, _⟩ := hx; subst hx hy; simp [binOp, he]; done)
      | (obtain ⟨hy, _⟩ := hy; subst hx hy; simp [binOp, he]; done)
      | (subst hx hy; simp [binOp, he]; done)

theorem eqn_sound (hs : VRs W0 s a.tmps.toList) {x y : Operand} {x' y' : AArg} (hx : cArg x = some x') (hy : cArg y = some y') {o : Oper} {op : BinOp} {t t' : TypeId}
    (ho : o.op = .binOp op t x y t') {k : NK} {neg : Bool} (hop : op = if neg then .neq else .eql) {d : TypeDesc} (hd : P.underlying t = some d) (hk : k.fits d) {v : AV} (hv : pv s (.eqn k neg x' y') = some v) : Yl P W0 a o v := by
  have h1 := cArg_sound hs hx
  have h2 := cArg_sound hs hy
  simp only [pv, Option.map_eq_some_iff] at hv
  obtain ⟨b, hb, rfl⟩ := hv
  refine ⟨.bool (neg ^^ b), by simp only [VR], fun w => ?_⟩
  simp only [execOp, ho, Sem.run_bind, nil_guard hb h1 h2, Result.andThen_ok]
  have h := nil_bin hd hk hb h1 h2 w
  cases neg <;> simp at hop <;> subst hop <;> simp [h.1, h.2]

theorem un_sound (hs : VRs W0 s a.tmps.toList) {x : Operand} {x' : AArg} (hx : cArg x = some x') {o : Oper} {op : UnOp} {t : TypeId}
    (ho : o.op = .unOp op t x) {v : AV} (hv : pv s (.un op x') = some v) : Yl P W0 a o v := by
  have h1 := cArg_sound hs hx
  simp only [pv] at hv
  split at hv <;> cases hv <;> (rename_i e; rw [e] at h1; simp only [VR] at h1)
  · exact ⟨_, by simp only [VR]; rfl, fun w => by simp [execOp, ho, h1, Op.unary, Op.intArith]⟩
  · exact ⟨_, by simp only [VR]; rfl, fun w => by simp [execOp, ho, h1, Op.unary]⟩

theorem underlying_ok {t : TypeId} {d : TypeDesc} (h : P.underlying t = some d) : True := trivial

theorem conv_sound (hs : VRs W0 s a.tmps.toList) {x : Operand} {x' : AArg} (hx : cArg x = some x') {o : Oper} {t d : TypeId} {k : IntKind}
    (ho : o.op = .convert t d x) (hd : P.underlying d = some (.int k)) (htt : (P.underlying t).isSome = true) {v : AV} (hv : pv s (.conv k x') = some v) : Yl P W0 a o v := by
  have h1 := cArg_sound hs hx
  simp only [pv] at hv
  split at hv <;> cases hv
  rename_i k' n e
  rw [e] at h1; simp only [VR] at h1
  obtain ⟨dt, hdt⟩ := Option.isSome_iff_exists.1 htt
  exact ⟨.int k (k.wrap n), by simp only [VR], fun w => by simp [execOp, ho, h1, convert, run_underlying hd, run_underlying hdt, Conv.intToInt]⟩

theorem makeFunc_sound (hs : VRs W0 s a.tmps.toList) {f : FuncId} {first caps : Array Operand} {ys : List AArg} (hf : first.isEmpty = true) (hc : cArgs caps.toList = some ys) {o : Oper}
    (ho : o.op = .makeFunc (.func f) first caps) : Yl P W0 a o (.fn f (ys.map (ev s))) := by
  have h1 := cArgs_sound hs hc
  refine ⟨.func (.func f) #[] (caps.map a.eval), ?_, fun w => ?_⟩
  · simp only [VR]; exact ⟨caps.toList.map a.eval, by apply congrArg; apply Array.ext'; simp, h1⟩
  · have : first = #[] := by simpa using hf
    simp [execOp, ho, Instr.makeFunc, this]

theorem bindF_sound (hs : VRs W0 s a.tmps.toList) {f : FuncId} {first caps : Array Operand} {ys : List AArg} (hf : caps.isEmpty = true) (hc : cArgs first.toList = some ys) {o : Oper}
    (ho : o.op = .makeFunc (.func f) first caps) : Yl P W0 a o (.bd f (ys.map (ev s))) := by
  have h1 := cArgs_sound hs hc
  refine ⟨.func (.func f) (first.map a.eval) #[], ?_, fun w => ?_⟩
  · simp only [VR]; exact ⟨first.toList.map a.eval, by apply congrArg (fun x => Value.func (.func f) x #[]); apply Array.ext'; simp, h1⟩
  · have : caps = #[] := by simpa using hf
    simp [execOp, ho, Instr.makeFunc, this]

theorem fieldAddr_sound (hs : VRs W0 s a.tmps.toList) {x : Operand} {x' : AArg} (hx : cArg x = some x') {o : Oper} {t : TypeId} {f : Nat} {fd : Field} {n : Nat}
    (ho : o.op = .fieldAddr t x f) (hf : tField P t f = some fd) (hn : tSize P fd.type = some (n + 1)) {v : AV} (hv : pv s (.fieldAddr fd.offset x') = some v) : Yl P W0 a o v := by
  have h1 := cArg_sound hs hx
  obtain ⟨fs, hd, hfs⟩ := tField_sound hf
  simp only [pv] at hv
  have add (b off m : Nat) : (⟨b, off, none⟩ : Addr).add m = ⟨b, off + m, none⟩ := by unfold Addr.add; split <;> simp_all
  split at hv <;> cases hv <;> (rename_i e; rw [e] at h1; simp only [VR] at h1)
  · exact ⟨_, by simp only [VR]; rfl, fun w => by simp [execOp, ho, h1, Instr.fieldAt, run_underlying hd, hfs, Instr.sureAddr, fieldPlace, run_sizeOf hn, add]⟩
  · exact ⟨_, by simp only [VR]; rfl, fun w => by simp [execOp, ho, h1, Instr.fieldAt, run_underlying hd, hfs, Instr.sureAddr, fieldPlace, run_sizeOf hn, add]⟩
  · obtain ⟨p, l, h1, hc, hl⟩ := h1
    refine ⟨.pointer (some (p.add fd.offset)), ?_, fun w => by simp [execOp, ho, h1, Instr.fieldAt, run_underlying hd, hfs, Instr.sureAddr, fieldPlace, run_sizeOf hn, add]⟩
    simp only [VR]
    refine ⟨p.add fd.offset, l.drop fd.offset, rfl, fun i hi => ?_, VRs_drop hl _⟩
    simp only [List.length_drop] at hi
    rw [List.getElem?_drop, addr_add_add]
    exact hc _ (by omega)

theorem indexAddr_sound (hs : VRs W0 s a.tmps.toList) {x i : Operand} {x' i' : AArg} (hx : cArg x = some x') (hi : cArg i = some i') {o : Oper} {t e : TypeId} {n : Nat}
    (ho : o.op = .indexAddr t x i) (he : tElem P t = some e) (hn : tSize P e = some n) {v : AV} (hv : pv s (.indexAddr n x' i') = some v) : Yl P W0 a o v := by
  have h1 := cArg_sound hs hx
  have h2 := cArg_sound hs hi
  have hd := tElem_sound he
  have add (b off m : Nat) : (⟨b, off, none⟩ : Addr).add m = ⟨b, off + m, none⟩ := by unfold Addr.add; split <;> simp_all
  simp only [pv] at hv
  split at hv
  · rename_i id off len cap k m e1 e2
    rw [e1] at h1; rw [e2] at h2; simp only [VR] at h1 h2
    split at hv <;> cases hv
    rename_i hm
    exact ⟨_, by simp only [VR]; rfl, fun w => by simp [execOp, ho, h1.1, h2, Instr.indexAt, asIntOf, run_underlying hd, hm, run_sizeOf hn, add]⟩
  · rename_i cs len ex k m e1 e2
    rw [e1] at h1; rw [e2] at h2; simp only [VR] at h1 h2
    split at hv <;> cases hv
    rename_i hm
    rcases h1 with ⟨p, cap, l, h1, hlc, hex, hc, hl⟩ | ⟨h1, _⟩
    rotate_left
    · subst h1; omega
    refine ⟨.pointer (some (p.add (m.toNat * n))), ?_, fun w => by simp [execOp, ho, h1, h2, Instr.indexAt, asIntOf, run_underlying hd, hm, run_sizeOf hn, add]⟩
    simp only [VR]
    refine ⟨p.add (m.toNat * n), l.drop (m.toNat * n), rfl, fun i hi => ?_, VRs_drop hl _⟩
    simp only [List.length_drop] at hi
    rw [List.getElem?_drop, addr_add_add]
    exact hc _ (by omega)
  · cases hv

theorem tArr_sound {t e : TypeId} {n : Nat} (h : tArr P t = some (n, e)) : P.underlying t = some (.array n e) := by
  unfold tArr at h; split at h <;> cases h; assumption

theorem indexArr_sound (hs : VRs W0 s a.tmps.toList) {x i : Operand} {x' i' : AArg} (hx : cArg x = some x') (hi : cArg i = some i') {o : Oper} {t e : TypeId} {len n : Nat}
    (ho : o.op = .indexAddr t x i) (he : tArr P t = some (len, e)) (hn : tSize P e = some n) {v : AV} (hv : pv s (.indexArr len n x' i') = some v) : Yl P W0 a o v := by
  have h1 := cArg_sound hs hx
  have h2 := cArg_sound hs hi
  have hd := tArr_sound he
  have add (b off m : Nat) : (⟨b, off, none⟩ : Addr).add m = ⟨b, off + m, none⟩ := by unfold Addr.add; split <;> simp_all
  simp only [pv] at hv
  split at hv
  · rename_i id off k m e1 e2
    rw [e1] at h1; rw [e2] at h2; simp only [VR] at h1 h2
    split at hv <;> cases hv
    rename_i hm
    exact ⟨_, by simp only [VR]; rfl, fun w => by simp [execOp, ho, h1, h2, Instr.indexAt, Instr.sureAddr, asIntOf, run_underlying hd, hm, run_sizeOf hn, add]⟩
  · rename_i id off k m e1 e2
    rw [e1] at h1; rw [e2] at h2; simp only [VR] at h1 h2
    split at hv <;> cases hv
    rename_i hm
    exact ⟨_, by simp only [VR]; rfl, fun w => by simp [execOp, ho, h1, h2, Instr.indexAt, Instr.sureAddr, asIntOf, run_underlying hd, hm, run_sizeOf hn, add]⟩
  · rename_i cs k m e1 e2
    rw [e1] at h1; rw [e2] at h2; simp only [VR] at h1 h2
    split at hv <;> cases hv
    rename_i hm
    obtain ⟨p, l, h1, hc, hl⟩ := h1
    refine ⟨.pointer (some (p.add (m.toNat * n))), ?_, fun w => by simp [execOp, ho, h1, h2, Instr.indexAt, Instr.sureAddr, asIntOf, run_underlying hd, hm, run_sizeOf hn, add]⟩
    simp only [VR]
    refine ⟨p.add (m.toNat * n), l.drop (m.toNat * n), rfl, fun i hi => ?_, VRs_drop hl _⟩
    simp only [List.length_drop] at hi
    rw [List.getElem?_drop, addr_add_add]
    exact hc _ (by omega)
  · cases hv

theorem cap_sound (hs : VRs W0 s a.tmps.toList) {x : Operand} {x' : AArg} (hx : cArg x = some x') {o : Oper} {args : Array Operand} {tys : Array TypeId} {t e : TypeId}
    (ho : o.op = .call { callee := .builtin .cap, args, argTypes := tys }) (ha : args.toList = [x]) (ht : tys[0]? = some t) (hd : P.underlying t = some (.slice e))
    {v : AV} (hv : pv s (.cap x') = some v) : Yl P W0 a o v := by
  have h1 := cArg_sound hs hx
  obtain rfl : args = #[x] := by rw [← Array.toArray_toList (xs := args), ha]
  simp only [pv] at hv
  split at hv <;> cases hv <;> (rename_i e1; rw [e1] at h1; simp only [VR] at h1)
  · exact ⟨_, by simp only [VR]; rfl, fun w => by simp [execOp, ho, resolve, invoke, builtin, Builtin.cap_, ht, h1.1, run_underlying hd, goInt]⟩
  · exact ⟨_, by simp only [VR]; rfl, fun w => by simp [execOp, ho, resolve, invoke, builtin, Builtin.cap_, ht, h1, run_underlying hd, goInt]⟩
  · rcases h1 with ⟨b, cap, l, h1, _, hex, _⟩ | ⟨h0, _, h1⟩
    · have := hex trivial; subst this
      exact ⟨_, by simp only [VR]; rfl, fun w => by simp [execOp, ho, resolve, invoke, builtin, Builtin.cap_, ht, h1, run_underlying hd, goInt]⟩
    subst h0
    exact ⟨_, by simp only [VR]; rfl, fun w => by simp [execOp, ho, resolve, invoke, builtin, Builtin.cap_, ht, h1, run_underlying hd, goInt]⟩

theorem extract_sound (hs : VRs W0 s a.tmps.toList) {x : Operand} {x' : AArg} (hx : cArg x = some x') {o : Oper} {i : Nat}
    (ho : o.op = .extract x i) {v : AV} (hv : pv s (.extract x' i) = some v) : Yl P W0 a o v := by
  have h1 := cArg_sound hs hx
  simp only [pv] at hv
  split at hv
  · rename_i vs e
    rw [e] at h1; simp only [VR] at h1
    obtain ⟨l, h1, hl⟩ := h1
    obtain ⟨u, hu, hr⟩ := VRs_get hl i v hv
    exact ⟨u, hr, fun w => by simp [execOp, ho, h1, Instr.extract, hu]⟩
  · cases hv

theorem field_sound (hs : VRs W0 s a.tmps.toList) {x : Operand} {x' : AArg} (hx : cArg x = some x') {o : Oper} {t : TypeId} {f : Nat} {fd : Field} {n : Nat} {g : Bool}
    (ho : o.op = .field t x f) (hf : tField P t f = some fd) (hg : tAgg P fd.type = some g) (hn : tSize P fd.type = some n) {v : AV} (hv : pv s (.field g fd.offset n x') = some v) : Yl P W0 a o v := by
  have h1 := cArg_sound hs hx
  obtain ⟨fs, hd, hfs⟩ := tField_sound hf
  simp only [pv] at hv
  split at hv
  rotate_left
  · cases hv
  rename_i cs e
  rw [e] at h1; simp only [VR] at h1
  obtain ⟨l, h1, hl⟩ := h1
  cases g
  · simp only [Bool.false_eq_true, if_false] at hv
    obtain ⟨u, hu, hr⟩ := VRs_get hl _ v hv
    exact ⟨u, hr, fun w => by simp [execOp, ho, h1, Instr.field, run_underlying hd, hfs, asAgg, part, run_isAgg hg, hu]⟩
  · simp only [if_true] at hv
    split at hv <;> cases hv
    rename_i hlen
    refine ⟨.agg (l.toArray.extract fd.offset (fd.offset + n)), ?_, fun w => by simp [execOp, ho, h1, Instr.field, run_underlying hd, hfs, asAgg, part, run_isAgg hg, run_sizeOf hn]⟩
    simp only [VR]
    refine ⟨(l.drop fd.offset).take n, ?_, VRs_take (VRs_drop hl _) _⟩
    apply congrArg
    apply Array.ext'
    simp

theorem lenOps_sound (hs : VRs W0 s a.tmps.toList) {x : Operand} {x' : AArg} (hx : cArg x = some x') {o : Oper} {args : Array Operand} {tys : Array TypeId} {t : TypeId} {d : TypeDesc} {g : Bool}
    (ho : o.op = .call { callee := .builtin .len, args, argTypes := tys }) (ha : args.toList = [x]) (ht : tys[0]? = some t) (hd : P.underlying t = some d) (hk : if g then d = .string else ∃ e, d = .slice e)
    {v : AV} (hv : pv s (.len g x') = some v) : Yl P W0 a o v := by
  have h1 := cArg_sound hs hx
  obtain rfl : args = #[x] := by rw [← Array.toArray_toList (xs := args), ha]
  simp only [pv] at hv
  unfold lenA at hv
  split at hv <;> cases hv <;> (rename_i e; rw [e] at h1; simp only [VR] at h1)
  · obtain ⟨e', rfl⟩ := hk
    exact ⟨_, by simp only [VR]; rfl, fun w => by simp [execOp, ho, resolve, invoke, builtin, Builtin.len_, ht, h1.1, run_underlying hd, goInt]⟩
  · obtain ⟨e', rfl⟩ := hk
    rcases h1 with ⟨b, cap, l, h1, _⟩ | ⟨h0, _, h1⟩
    · exact ⟨_, by simp only [VR]; rfl, fun w => by simp [execOp, ho, resolve, invoke, builtin, Builtin.len_, ht, h1, run_underlying hd, goInt]⟩
    · subst h0
      exact ⟨_, by simp only [VR]; rfl, fun w => by simp [execOp, ho, resolve, invoke, builtin, Builtin.len_, ht, h1, run_underlying hd, goInt]⟩
  · obtain ⟨e', rfl⟩ := hk
    exact ⟨_, by simp only [VR]; rfl, fun w => by simp [execOp, ho, resolve, invoke, builtin, Builtin.len_, ht, h1, run_underlying hd, goInt]⟩
  · obtain ⟨e', rfl⟩ := hk
    obtain ⟨b, cap, h1⟩ := h1
    exact ⟨_, by simp only [VR]; rfl, fun w => by simp [execOp, ho, resolve, invoke, builtin, Builtin.len_, ht, h1, run_underlying hd, goInt]⟩
  · simp only [if_true] at hk; subst hk
    exact ⟨_, by simp only [VR]; rfl, fun w => by simp [execOp, ho, resolve, invoke, builtin, Builtin.len_, ht, h1, run_underlying hd, goInt]⟩

theorem minA_sound : ∀ (l : List AV) (x : AV) (v : AV) (u : Value) (m : List Value), minA x l = some v → VR W0 x u → VRs W0 l m → ∃ r, VR W0 v r ∧ ∀ w, (m.foldlM Builtin.min2 u).run P w = .ok r w
  | [], x, v, u, m, h, hx, hm => by simp [minA] at h; subst h; simp [VRs] at hm; subst hm; exact ⟨u, hx, fun w => by simp⟩
  | y :: l, x, v, u, m, h, hx, hm => by
    simp only [VRs] at hm
    obtain ⟨b, m', rfl, hy, hm⟩ := hm
    unfold minA at h
    split at h
    · rename_i e; cases e
    · rename_i k n k' n' r e
      cases e
      simp only [VR] at hx hy
      subst hx hy
      obtain ⟨r, hr, hw⟩ := minA_sound l _ v (.int k (if n' < n then n' else n)) m' h (by simp only [VR]) hm
      exact ⟨r, hr, fun w => by simp only [List.foldlM_cons, Sem.run_bind, Builtin.min2, Sem.run_pure, Result.andThen_ok]; exact hw w⟩
    · cases h

theorem maxA_sound : ∀ (l : List AV) (x : AV) (v : AV) (u : Value) (m : List Value), maxA x l = some v → VR W0 x u → VRs W0 l m → ∃ r, VR W0 v r ∧ ∀ w, (m.foldlM Builtin.max2 u).run P w = .ok r w
  | [], x, v, u, m, h, hx, hm => by simp [maxA] at h; subst h; simp [VRs] at hm; subst hm; exact ⟨u, hx, fun w => by simp⟩
  | y :: l, x, v, u, m, h, hx, hm => by
    simp only [VRs] at hm
    obtain ⟨b, m', rfl, hy, hm⟩ := hm
    unfold maxA at h
    split at h
    · rename_i e; cases e
    · rename_i k n k' n' r e
      cases e
      simp only [VR] at hx hy
      subst hx hy
      obtain ⟨r, hr, hw⟩ := maxA_sound l _ v (.int k (if n < n' then n' else n)) m' h (by simp only [VR]) hm
      exact ⟨r, hr, fun w => by simp only [List.foldlM_cons, Sem.run_bind, Builtin.max2, Sem.run_pure, Result.andThen_ok]; exact hw w⟩
    · cases h

theorem min_sound (hs : VRs W0 s a.tmps.toList) {ys : List AArg} {o : Oper} {args : Array Operand} {tys : Array TypeId}
    (ho : o.op = .call { callee := .builtin .min, args, argTypes := tys }) (ha : cArgs args.toList = some ys) {v : AV} (hv : pv s (.min ys) = some v) : Yl P W0 a o v := by
  have h1 := cArgs_sound hs ha
  simp only [pv] at hv
  split at hv
  · rename_i x r e
    rw [e] at h1
    simp only [VRs] at h1
    obtain ⟨u, m, hm, hx, hr⟩ := h1
    obtain ⟨c, hc, hw⟩ := minA_sound (P := P) r x v u m hv hx hr
    refine ⟨c, hc, fun w => ?_⟩
    simp [execOp, ho, resolve, invoke, builtin, Builtin.min_, hm, hw]
  · cases hv

theorem max_sound (hs : VRs W0 s a.tmps.toList) {ys : List AArg} {o : Oper} {args : Array Operand} {tys : Array TypeId}
    (ho : o.op = .call { callee := .builtin .max, args, argTypes := tys }) (ha : cArgs args.toList = some ys) {v : AV} (hv : pv s (.max ys) = some v) : Yl P W0 a o v := by
  have h1 := cArgs_sound hs ha
  simp only [pv] at hv
  split at hv
  · rename_i x r e
    rw [e] at h1
    simp only [VRs] at h1
    obtain ⟨u, m, hm, hx, hr⟩ := h1
    obtain ⟨c, hc, hw⟩ := maxA_sound (P := P) r x v u m hv hx hr
    refine ⟨c, hc, fun w => ?_⟩
    simp [execOp, ho, resolve, invoke, builtin, Builtin.max_, hm, hw]
  · cases hv

theorem eqCell_sound (n : Nat) {t : TypeId} {k : CK} {x y : AV} {u v : Value} {b : Bool} (ht : ckOf P t = some k) (hb : eqCell k x y = some b) (hx : VR W0 x u) (hy : VR W0 y v) (w : World) :
    (Op.equalIn (n + 1) t u v).run P w = .ok b w := by
  unfold ckOf at ht
  unfold eqCell at hb
  split at hb
  · rename_i k1 a1 k2 a2
    split at hb
    · rename_i hk; cases hb
      simp only [VR] at hx hy
      subst hx hy
      split at ht <;> cases ht
      rename_i d hd
      simp [Op.equalIn, run_underlying hd, hk]
      rfl
    · cases hb
  · cases hb
    simp only [VR] at hx hy
    subst hx hy
    split at ht <;> cases ht
    rename_i hd
    simp [Op.equalIn, run_underlying hd]
  · cases hb
    simp only [VR] at hx hy
    subst hx hy
    split at ht <;> cases ht
    rename_i hd
    simp [Op.equalIn, run_underlying hd]
  · cases hb

theorem ckOf_notAgg {t : TypeId} {k : CK} (h : ckOf P t = some k) : tAgg P t = some false := by
  unfold ckOf at h; unfold tAgg
  split at h <;> first | (cases h; done) | (rename_i hd; simp [hd])

end
end Go.Proofs.YteijaibggalapaaGreatDoor.E
