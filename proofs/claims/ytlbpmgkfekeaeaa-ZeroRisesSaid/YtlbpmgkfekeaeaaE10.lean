/-
  The rules by which 'exec' is walked.
-/
import Derived.Test.YtlbpmgkfekeaeaaE9
import Derived.KernelRfl
namespace Go.Proofs.Ytlbpmgkfekeaeaa.E
open Go
set_option linter.unusedVariables false
set_option linter.unusedSimpArgs false

section
variable {P : Program} {K : AV → AHeap → Prop} {s : List AV} {h : AHeap}

theorem aw_mv (x : AArg) : aw P (.mv x) K s h = K (ev s x) h := by simp [aw, pv]
theorem aw_pick (c x y : AArg) : aw P (.pick c x y) K s h = (match ev s c with | .bool t => K (if t then ev s x else ev s y) h | _ => False) := by
  simp only [aw, pv]; generalize ev s c = u; cases u <;> simp
theorem aw_nilCheck (x : AArg) : aw P (.nilCheck x) K s h = (match ev s x with | .ptr a b => K (.ptr a b) h | .rp cs => K (.rp cs) h | .fn f c => K (.fn f c) h | _ => False) := by
  simp only [aw, pv]; generalize ev s x = u; cases u <;> simp
theorem aw_bin (op : BinOp) (x y : AArg) : aw P (.bin op x y) K s h = (match binA op (ev s x) (ev s y) with | some v => K v h | none => False) := by
  simp only [aw, pv]; split <;> simp_all
theorem aw_un_not (x : AArg) : aw P (.un .not x) K s h = (match ev s x with | .bool b => K (.bool (!b)) h | _ => False) := by
  simp only [aw, pv]; generalize ev s x = u; cases u <;> simp
theorem aw_un_neg (x : AArg) : aw P (.un .neg x) K s h = (match ev s x with | .int k n => K (.int k (k.wrap (0 - n))) h | _ => False) := by
  simp only [aw, pv]; generalize ev s x = u; cases u <;> simp
theorem aw_eqb (neg : Bool) (x y : AArg) : aw P (.eqb neg x y) K s h = (match ev s x, ev s y with | .bool a, .bool b => K (.bool (neg ^^ (a == b))) h | _, _ => False) := by
  simp only [aw, pv]; generalize ev s x = u; generalize ev s y = v; cases u <;> first | (simp; done) | (cases v <;> simp)
theorem aw_eqn (k : NK) (neg : Bool) (x y : AArg) : aw P (.eqn k neg x y) K s h = (match nilA k (ev s x) (ev s y) with | some b => K (.bool (neg ^^ b)) h | none => False) := by
  simp only [aw, pv]; split <;> simp_all
theorem aw_eqs (neg : Bool) (ks : List CK) (x y : AArg) : aw P (.eqs neg ks x y) K s h = (match ev s x, ev s y with | .agg a, .agg b => (match eqCells ks a b with | some b => K (.bool (neg ^^ b)) h | none => False) | _, _ => False) := by
  simp only [aw, pv]; generalize ev s x = u; generalize ev s y = v; cases u <;> first | (simp; done) | (cases v <;> first | (simp; done) | skip)
  rename_i a b
  simp only [Option.map_eq_some_iff]
  cases eqCells ks a b <;> simp
theorem aw_conv (k : IntKind) (x : AArg) : aw P (.conv k x) K s h = (match ev s x with | .int _ n => K (.int k (k.wrap n)) h | _ => False) := by
  simp only [aw, pv]; generalize ev s x = u; cases u <;> simp
theorem aw_makeFunc (f : FuncId) (caps : List AArg) : aw P (.makeFunc f caps) K s h = K (.fn f (caps.map (ev s))) h := by simp [aw, pv]
theorem aw_build (z : List AV) (ps : List (Nat × Nat × AArg)) : aw P (.build z ps) K s h = (match fillA s z ps with | some r => K (.agg r) h | none => False) := by
  simp only [aw, pv]; split <;> simp_all
theorem aw_slice (esz : Nat) (x : AArg) (lo hi mx : Option AArg) : aw P (.slice esz x lo hi mx) K s h = (match sliceA esz (ev s x) (lo.map (ev s)) (hi.map (ev s)) (mx.map (ev s)) with | some v => K v h | none => False) := by
  simp only [aw, pv]; split <;> simp_all
theorem aw_field (g : Bool) (off n : Nat) (x : AArg) : aw P (.field g off n x) K s h = (∃ v, (match ev s x with
    | .agg cs => if g then (if off + n ≤ cs.length then some (.agg ((cs.drop off).take n)) else none) else cs[off]?
    | _ => none) = some v ∧ K v h) := rfl
theorem aw_fieldAddr (off : Nat) (x : AArg) : aw P (.fieldAddr off x) K s h = (match ev s x with | .ptr a o => K (.ptr a (o + off)) h | .rp cs => K (.rp (cs.drop off)) h | _ => False) := by
  simp only [aw, pv]; generalize ev s x = u; cases u <;> simp
theorem aw_indexAddr (esz : Nat) (x i : AArg) : aw P (.indexAddr esz x i) K s h = (match ev s x, ev s i with
    | .sl id off len _, .int _ n => (0 ≤ n ∧ n < (len : Int)) ∧ K (.ptr id (off + n.toNat * esz)) h
    | .ro cs len _, .int _ n => (0 ≤ n ∧ n < (len : Int)) ∧ K (.rp (cs.drop (n.toNat * esz))) h
    | _, _ => False) := by
  simp only [aw, pv]; generalize ev s x = u; generalize ev s i = v; cases u <;> first | (simp; done) | (cases v <;> simp [and_assoc])
theorem aw_extract (x : AArg) (i : Nat) : aw P (.extract x i) K s h = (match ev s x with | .tup vs => (match vs[i]? with | some v => K v h | none => False) | _ => False) := by
  simp only [aw, pv]; generalize ev s x = u; cases u <;> first | (simp; done) | skip
  rename_i vs
  cases h : vs[i]? <;> simp [h]
theorem aw_len (g : Bool) (x : AArg) : aw P (.len g x) K s h = (match lenA g (ev s x) with | some v => K v h | none => False) := by
  simp only [aw, pv]; split <;> simp_all
theorem aw_min (x : AArg) (xs : List AArg) : aw P (.min (x :: xs)) K s h = (match minA (ev s x) (xs.map (ev s)) with | some v => K v h | none => False) := by
  simp only [aw, pv, List.map_cons]; split <;> simp_all
theorem aw_max (x : AArg) (xs : List AArg) : aw P (.max (x :: xs)) K s h = (match maxA (ev s x) (xs.map (ev s)) with | some v => K v h | none => False) := by
  simp only [aw, pv, List.map_cons]; split <;> simp_all
theorem aw_alloc (z : List AV) : aw P (.alloc z) K s h = (∀ id, h id = none → K (.ptr id 0) (upd h id (.cells z z.length))) := rfl
theorem aw_box (x : AArg) : aw P (.box x) K s h = (match cellsOf (ev s x) with | some l => ∀ id, h id = none → K (.ptr id 0) (upd h id (.cells l l.length)) | none => False) := by
  simp only [aw]; split <;> simp_all
theorem aw_buildSlice (esz : Nat) (ps : List AArg) : aw P (.buildSlice esz ps) K s h = (match catA s esz ps with | some l => ∀ id, h id = none → K (.sl id 0 ps.length ps.length) (upd h id (.cells l l.length)) | none => False) := by
  simp only [aw]; split <;> simp_all
theorem aw_load1 (n : Nat) (x : AArg) : aw P (.load false n x) K s h = (match aload h (ev s x) with | some v => K v h | none => False) := by
  simp only [aw, Bool.false_eq_true, if_false]; cases aload h (ev s x) <;> simp
theorem aw_loadn (n : Nat) (x : AArg) : aw P (.load true n x) K s h = (match aloads h n (ev s x) with | some l => K (.agg l) h | none => False) := by
  simp only [aw, if_true]; cases aloads h n (ev s x) <;> simp
theorem aw_store (n : Nat) (x v : AArg) : aw P (.store n x v) K s h = (match cellsOf (ev s v) with | some l => l.length = n ∧ l.all scalar = true ∧ (match awrite h (ev s x) l with | some h' => K .undef h' | none => False) | none => False) := by
  simp only [aw]
  cases e : cellsOf (ev s v) with
  | none => simp
  | some l =>
    simp only [Option.some.injEq]
    cases e2 : awrite h (ev s x) l <;> simp [e2]
theorem aw_call (f : AArg) (args : List AArg) : aw P (.call f args) K s h = (match ev s f with | .fn g cap => CallsA P g (args.map (ev s) ++ cap) h K | _ => False) := rfl
theorem aw_append (esz b : Nat) (x y : AArg) : aw P (.append esz b x y) K s h = appendA h esz b (ev s x) (ev s y) K := rfl
theorem aw_copy (esz : Nat) (x y : AArg) : aw P (.copy esz x y) K s h = copyA h esz (ev s x) (ev s y) K := rfl
theorem aw_clear (z : List AV) (x : AArg) : aw P (.clear z x) K s h = clearA h z (ev s x) K := rfl
end

section
variable (P : Program) (K : List AV → AHeap → Prop) (Q : PostA) (s : List AV) (h : AHeap)
theorem x_nil : awOps P [] K s h = K s h := rfl
theorem x_cons (d : Option Nat) (o : AOp) (l : List AOper) : awOps P (⟨d, o, none⟩ :: l) K s h = aw P o (kput (awOps P l K) s d) s h := rfl
theorem x_guard (d : Option Nat) (o : AOp) (l : List AOper) (t : Nat) (w : Bool) : awOps P (⟨d, o, some (t, w)⟩ :: l) K s h = (match s.getD t .undef with | .bool b => guardA P o d (awOps P l K) s h w b | _ => False) := rfl
theorem x_kput (d : Nat) (v : AV) : kput K s (some d) v h = K (s.set d v) h := rfl
theorem x_kput' (v : AV) : kput K s none v h = K s h := rfl
theorem x_put (d : Nat) (v : AV) : put s (some d) v = s.set d v := rfl
theorem x_put' (v : AV) : put s none v = s := rfl
theorem x_skip : exec P .skip Q s h = Q .normal s h := rfl
theorem x_reg (l : List AOper) : exec P (.reg l) Q s h = awOps P l (Q .normal) s h := rfl
theorem x_seq (a b : ACode) : exec P (.seq a b) Q s h = exec P a (thenA (exec P b Q) Q) s h := rfl
theorem x_cond (c : AArg) (x y : ACode) : exec P (.cond c x y) Q s h = (match ev s c with | .bool t => condA (exec P x) (exec P y) Q s h t | _ => False) := rfl
theorem x_block (id : Nat) (c : ACode) : exec P (.block id c) Q s h = exec P c (blockA id Q) s h := rfl
theorem x_loop (c : ACode) : exec P (.loop c) Q s h = loopA (exec P c) Q s h := rfl
theorem x_exit (id : Nat) : exec P (.exit id) Q s h = Q (.exit id) s h := rfl
theorem x_ret : exec P .ret Q s h = Q .ret s h := rfl
theorem x_thenN : thenA K Q .normal s h = K s h := rfl
theorem x_thenE (id : Nat) : thenA K Q (.exit id) s h = Q (.exit id) s h := rfl
theorem x_thenR : thenA K Q .ret s h = Q .ret s h := rfl
theorem x_blockN (id : Nat) : blockA id Q .normal s h = Q .normal s h := rfl
theorem x_blockR (id : Nat) : blockA id Q .ret s h = Q .ret s h := rfl
theorem x_blockE (id : Nat) : blockA id Q (.exit id) s h = Q .normal s h := by simp [blockA]
theorem x_blockE' (id i : Nat) (e : (i == id) = false) : blockA id Q (.exit i) s h = Q (.exit i) s h := by
  have : ¬ i = id := by simpa using e
  simp [blockA, this]
theorem x_evt (n : Nat) : ev s (.t n) = s.getD n .undef := rfl
theorem x_evc (v : AV) : ev s (.c v) = v := rfl
end

section
variable {P : Program} {o : AOp} {dst : Option Nat} {K : List AV → AHeap → Prop} {s : List AV} {h : AHeap} {Q : PostA} {x y : PostA → List AV → AHeap → Prop} {want b t : Bool}
theorem guard_tt : guardA P o dst K s h true true = aw P o (kput K s dst) s h := by simp [guardA]
theorem guard_ff : guardA P o dst K s h false false = aw P o (kput K s dst) s h := by simp [guardA]
theorem guard_tf : guardA P o dst K s h true false = K (put s dst .undef) h := by simp [guardA]
theorem guard_ft : guardA P o dst K s h false true = K (put s dst .undef) h := by simp [guardA]
theorem guard_split (h1 : b = true → guardA P o dst K s h want true) (h2 : b = false → guardA P o dst K s h want false) : guardA P o dst K s h want b := by
  cases b
  · exact h2 rfl
  · exact h1 rfl
theorem cond_t : condA x y Q s h true = x Q s h := by simp [condA]
theorem cond_f : condA x y Q s h false = y Q s h := by simp [condA]
theorem cond_split (h1 : t = true → x Q s h) (h2 : t = false → y Q s h) : condA x y Q s h t := ⟨h1, h2⟩
end

section
variable {h : AHeap} {x y : Nat} {o o' : AObj}
theorem upd_same : upd h x o x = some o := by simp [upd]
theorem upd_ne (e : y ≠ x) : upd h x o y = h y := by simp [upd, e]
theorem ne_of_fresh {p : AObj} (h1 : h x = none) (h2 : h y = some p) : y ≠ x := by rintro rfl; rw [h1] at h2; cases h2
theorem upd_upd : upd (upd h x o) x o' = upd h x o' := by funext z; simp only [upd]; split <;> rfl
theorem upd_comm (e : x ≠ y) : upd (upd h x o) y o' = upd (upd h y o') x o := by
  funext z; simp only [upd]
  by_cases h1 : z = x <;> by_cases h2 : z = y <;> simp_all
theorem Sub.trans {a b c : AHeap} (h1 : Sub a b) (h2 : Sub b c) : Sub a c := fun x o e => h2 x o (h1 x o e)
/-- What is new is no part of what was. -/
theorem Sub.upd {h0 : AHeap} (s : Sub h0 h) (hx : h0 x = none) : Sub h0 (E.upd h x o) := fun z p e => by
  have : z ≠ x := by rintro rfl; rw [hx] at e; cases e
  rw [upd_ne this]; exact s z p e
theorem Sub.isNone {h0 : AHeap} (s : Sub h0 h) (hx : h x = Option.none) : h0 x = Option.none := by
  cases e : h0 x with
  | none => rfl
  | some p => rw [s x p e] at hx; cases hx
theorem Sub.fresh {h0 : AHeap} (s : Sub h0 h) (hx : h x = none) : Sub h0 (E.upd h x o) := s.upd (s.isNone hx)
end

end Go.Proofs.Ytlbpmgkfekeaeaa.E
