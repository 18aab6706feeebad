/-
  The rules by which 'exec' is walked.
-/
import Derived.Test.YteijaibggalapaaGreatDoorE9
import Derived.KernelRfl
namespace Go.Proofs.YteijaibggalapaaGreatDoor.E
open Go
set_option linter.unusedVariables false
set_option linter.unusedSimpArgs false

def idxK (esz : Nat) (x i : AV) (K : AV → AHeap → Prop) (h : AHeap) : Prop :=
  match x, i with
  | .sl id off len _, .int _ n => (0 ≤ n ∧ n < (len : Int)) ∧ K (.ptr id (off + n.toNat * esz)) h
  | .ro cs len _, .int _ n => (0 ≤ n ∧ n < (len : Int)) ∧ K (.rp (cs.drop (n.toNat * esz))) h
  | _, _ => False

section
variable {P : Program} {K : AV → AHeap → Prop} {s : List AV} {h : AHeap}

theorem aw_mv (x : AArg) : aw P (.mv x) K s h = K (ev s x) h := by simp [aw, pv]
theorem aw_pick (c x y : AArg) : aw P (.pick c x y) K s h = (match ev s c with | .bool t => K (if t then ev s x else ev s y) h | _ => False) := by
  simp only [aw, pv]; generalize ev s c = u; cases u <;> simp
theorem aw_nilCheck (x : AArg) : aw P (.nilCheck x) K s h = (match ev s x with | .ptr a b => K (.ptr a b) h | .gp a b => K (.gp a b) h | .rp cs => K (.rp cs) h | .fn f c => K (.fn f c) h | .bd f c => K (.bd f c) h | _ => False) := by
  simp only [aw, pv]; generalize ev s x = u; cases u <;> simp
theorem aw_bin (op : BinOp) (x y : AArg) : aw P (.bin op x y) K s h = (match binA op (ev s x) (ev s y) with | some v => K v h | none => False) := by
  simp only [aw, pv]; split <;> simp_all
theorem aw_un_not (x : AArg) : aw P (.un .not x) K s h = (match ev s x with | .bool b => K (.bool (!b)) h | _ => False) := by
  simp only [aw, pv]; generalize ev s x = u; cases u <;> simp
theorem aw_un_neg (x : AArg) : aw P (.un .neg x) K s h = (match ev s x with | .int k n => K (.int k (k.wrap (0 - n))) h | _ => False) := by
  simp only [aw, pv]; generalize ev s x = u; cases u <;> simp
theorem aw_eqb (neg : Bool) (x y : AArg) : aw P (.eqb neg x y) K s h = (match ev s x, ev s y with | .bool a, .bool b => K (.bool (neg ^^ (a == b))) h | _, _ => False) := by
  simp only [aw, pv]; generalize ev s x = u; generalize ev s y = v; cases u <;> first | (simp; done) | (cases v <;> simp)
theorem aw_mki (t : TypeId) (x : AArg) : aw P (.mki t x) K s h = K (.iface t (ev s x)) h := by
  simp only [aw, pv]
  exact propext ⟨fun ⟨v, e, k⟩ => by cases e; exact k, fun k => ⟨_, rfl, k⟩⟩
theorem aw_eqi (neg : Bool) (x : AArg) : aw P (.eqi neg x) K s h = (match ev s x with | .nili => K (.bool (!neg)) h | .iface _ _ => K (.bool neg) h | _ => False) := by
  simp only [aw, pv]; generalize ev s x = u; cases u <;> simp
theorem aw_s2b (x : AArg) : aw P (.s2b x) K s h = (match ev s x with | .str b => K (.ro (bcells b) b.size false) h | _ => False) := by
  simp only [aw, pv]; generalize ev s x = u; cases u <;> simp
theorem aw_loadG (g : Nat) (k : IntKind) : aw P (.loadG g k) K s h = ∀ n, K (.int k n) h := rfl
theorem aw_b2s (x : AArg) : aw P (.b2s x) K s h = (∃ cs xs, acells h 1 (ev s x) = some cs ∧ u8s cs = some xs ∧ K (.str (strOfNums xs)) h) := rfl
theorem aw_eqn (k : NK) (neg : Bool) (x y : AArg) : aw P (.eqn k neg x y) K s h = (match nilA k (ev s x) (ev s y) with | some b => K (.bool (neg ^^ b)) h | none => False) := by
  simp only [aw, pv]; split <;> simp_all
theorem aw_eqs (neg : Bool) (ks : List CK) (x y : AArg) : aw P (.eqs neg ks x y) K s h = (match ev s x, ev s y with | .agg a, .agg b => (match eqCells ks a b with | some b => K (.bool (neg ^^ b)) h | none => False) | _, _ => False) := by
  simp only [aw, pv]; generalize ev s x = u; generalize ev s y = v; cases u <;> first | (simp; done) | (cases v <;> first | (simp; done) | skip)
  rename_i a b
  simp only [Option.map_eq_some_iff]
  cases eqCells ks a b <;> simp
theorem aw_conv (k : IntKind) (x : AArg) : aw P (.conv k x) K s h = (match ev s x with | .int _ n => K (.int k (k.wrap n)) h | _ => False) := by
  simp only [aw, pv]; generalize ev s x = u; cases u <;> simp
theorem aw_makeFunc (f : FuncId) (caps : List AArg) : aw P (.makeFunc f caps) K s h = K (.fn f (caps.map (ev s))) h := by simp [aw, pv]
theorem aw_bindF (f : FuncId) (caps : List AArg) : aw P (.bindF f caps) K s h = K (.bd f (caps.map (ev s))) h := by simp [aw, pv]
theorem aw_build (z : List AV) (ps : List (Nat × Nat × AArg)) : aw P (.build z ps) K s h = (match fillA s z ps with | some r => K (.agg r) h | none => False) := by
  simp only [aw, pv]; split <;> simp_all
theorem aw_slice (esz : Nat) (x : AArg) (lo hi mx : Option AArg) : aw P (.slice esz x lo hi mx) K s h = (match sliceA esz (ev s x) (lo.map (ev s)) (hi.map (ev s)) (mx.map (ev s)) with | some v => K v h | none => False) := by
  simp only [aw, pv]; split <;> simp_all
theorem aw_field (g : Bool) (off n : Nat) (x : AArg) : aw P (.field g off n x) K s h = (∃ v, (match ev s x with
    | .agg cs => if g then (if off + n ≤ cs.length then some (.agg ((cs.drop off).take n)) else none) else cs[off]?
    | _ => none) = some v ∧ K v h) := rfl
theorem aw_sliceP (n esz : Nat) (x : AArg) (lo hi mx : Option AArg) : aw P (.sliceP n esz x lo hi mx) K s h = (match arrA n esz (ev s x) (lo.map (ev s)) (hi.map (ev s)) (mx.map (ev s)) with | some v => K v h | none => False) := by
  simp only [aw, pv]; split <;> simp_all
theorem aw_sliceS (x : AArg) (lo hi : Option AArg) : aw P (.sliceS x lo hi) K s h = (match ev s x with | .str b => (match strA b (lo.map (ev s)) (hi.map (ev s)) with | some v => K v h | none => False) | _ => False) := by
  simp only [aw, pv]; generalize ev s x = u; cases u <;> first | (simp; done) | skip
  simp only []; split <;> simp_all
theorem aw_sap (n : Nat) (x : AArg) : aw P (.sap n x) K s h = (match ev s x with | .sl id off len _ => n ≤ len ∧ K (.ptr id off) h | .ro cs len _ => (n ≤ len ∧ 0 < len) ∧ K (.rp cs) h | _ => False) := by
  simp only [aw, pv]; generalize ev s x = u; cases u <;> simp [and_assoc]
theorem aw_fieldAddr (off : Nat) (x : AArg) : aw P (.fieldAddr off x) K s h = (match ev s x with | .ptr a o => K (.ptr a (o + off)) h | .gp a o => K (.gp a (o + off)) h | .rp cs => K (.rp (cs.drop off)) h | _ => False) := by
  simp only [aw, pv]; generalize ev s x = u; cases u <;> simp
theorem aw_indexAddr (esz : Nat) (x i : AArg) : aw P (.indexAddr esz x i) K s h = idxK esz (ev s x) (ev s i) K h := by
  unfold idxK
  simp only [aw, pv]; generalize ev s x = u; generalize ev s i = v; cases u <;> first | (simp; done) | (cases v <;> simp [and_assoc])
theorem idxK_sl (esz id off len cap : Nat) (k : IntKind) (n : Int) : idxK esz (.sl id off len cap) (.int k n) K h = ((0 ≤ n ∧ n < (len : Int)) ∧ K (.ptr id (off + n.toNat * esz)) h) := rfl
theorem idxK_ro (esz len : Nat) (cs : List AV) (ex : Bool) (k : IntKind) (n : Int) : idxK esz (.ro cs len ex) (.int k n) K h = ((0 ≤ n ∧ n < (len : Int)) ∧ K (.rp (cs.drop (n.toNat * esz))) h) := rfl
theorem aw_indexArr (n esz : Nat) (x i : AArg) : aw P (.indexArr n esz x i) K s h = (match ev s x, ev s i with
    | .ptr id off, .int _ m => (0 ≤ m ∧ m < (n : Int)) ∧ K (.ptr id (off + m.toNat * esz)) h
    | .gp id off, .int _ m => (0 ≤ m ∧ m < (n : Int)) ∧ K (.gp id (off + m.toNat * esz)) h
    | .rp cs, .int _ m => (0 ≤ m ∧ m < (n : Int)) ∧ K (.rp (cs.drop (m.toNat * esz))) h
    | _, _ => False) := by
  simp only [aw, pv]; generalize ev s x = u; generalize ev s i = v; cases u <;> first | (simp; done) | (cases v <;> simp [and_assoc])
theorem aw_cap (x : AArg) : aw P (.cap x) K s h = (match ev s x with
    | .sl _ _ _ c => K (.int .i64 c) h
    | .nils => K (.int .i64 0) h
    | .ro _ n true => K (.int .i64 n) h
    | _ => False) := by
  simp only [aw, pv]; generalize ev s x = u; cases u <;> first | (simp; done) | skip
  rename_i ex; cases ex <;> simp
theorem aw_extract (x : AArg) (i : Nat) : aw P (.extract x i) K s h = (match ev s x with | .tup vs => (match vs[i]? with | some v => K v h | none => False) | _ => False) := by
  simp only [aw, pv]; generalize ev s x = u; cases u <;> first | (simp; done) | skip
  rename_i vs
  cases h : vs[i]? <;> simp [h]
theorem aw_len (g : Bool) (x : AArg) : aw P (.len g x) K s h = (match lenA g (ev s x) with | some v => K v h | none => False) := by
  simp only [aw, pv]; split <;> simp_all
theorem aw_min (x : AArg) (xs : List AArg) : aw P (.min (x :: xs)) K s h = (match minA (ev s x) (xs.map (ev s)) with | some v => K v h | none => False) := by
  simp only [aw, pv, List.map_cons]; split <;> simp_all
theorem aw_max (x : AArg) (xs : List AArg) : aw P (.max (x :: xs)) K s h = (match maxA (ev s x) (xs.map (ev s)) with | some v => K v h | none => False) := by
  simp only [aw, pv, List.map_cons]; split <;> simp_all
theorem aw_alloc (z : List AV) : aw P (.alloc z) K s h = (∀ id, h id = none → K (.ptr id 0) (upd h id (.cells z z.length))) := rfl
theorem aw_box (x : AArg) : aw P (.box x) K s h = (match cellsOf (ev s x) with | some l => ∀ id, h id = none → K (.ptr id 0) (upd h id (.cells l l.length)) | none => False) := by
  simp only [aw]; split <;> simp_all
theorem aw_buildSlice (esz : Nat) (ps : List AArg) : aw P (.buildSlice esz ps) K s h = (match catA s esz ps with | some l => ∀ id, h id = none → K (.sl id 0 ps.length ps.length) (upd h id (.cells l l.length)) | none => False) := by
  simp only [aw]; split <;> simp_all
theorem aw_lit (esz : Nat) (ps : List AArg) : aw P (.lit esz ps) K s h = (match catA s esz ps with | some l => K (.ro l ps.length true) h | none => False) := by
  simp only [aw, pv]; cases catA s esz ps <;> simp
theorem aw_boxF (x : AArg) : aw P (.boxF x) K s h = (match cellsOf (ev s x) with | some l => K (.rp l) h | none => False) := by
  simp only [aw, pv]; cases cellsOf (ev s x) <;> simp
theorem aw_load1 (n : Nat) (x : AArg) : aw P (.load false n x) K s h = (match aload h (ev s x) with | some v => K v h | none => False) := by
  simp only [aw, Bool.false_eq_true, if_false]; cases aload h (ev s x) <;> simp
theorem aw_loadn (n : Nat) (x : AArg) : aw P (.load true n x) K s h = (match aloads h n (ev s x) with | some l => K (.agg l) h | none => False) := by
  simp only [aw, if_true]; cases aloads h n (ev s x) <;> simp
theorem aw_store (n : Nat) (x v : AArg) : aw P (.store n x v) K s h = (match cellsOf (ev s v) with | some l => l.length = n ∧ l.all scalar = true ∧ (match awrite h (ev s x) l with | some h' => K .undef h' | none => False) | none => False) := by
  simp only [aw]
  cases e : cellsOf (ev s v) with
  | none => simp
  | some l =>
    simp only [Option.some.injEq]
    cases e2 : awrite h (ev s x) l <;> simp [e2]
theorem aw_storeF (n : Nat) (x v : AArg) : aw P (.storeF n x v) K s h = (match ev s x with
    | .ptr id 0 => (match h id with
      | some (.cells cs tot) => cs.length = n ∧ (match cellsOf (ev s v) with | some l => (l.length = n ∧ l.all scalar = true) ∧ K (.rp l) (del h id) | none => False)
      | _ => False)
    | _ => False) := by
  simp only [aw]
  split
  · rename_i id e
    rw [e]
    split
    · rename_i cs tot e2
      split
      · rename_i l e3
        rw [eq_iff_iff]
        constructor
        · rintro ⟨i, cs', tot', l', h1, h2, h3, h4, h5, h6, h7⟩
          cases h1; rw [e2] at h2; cases h2; rw [e3] at h3; cases h3
          exact ⟨h6, ⟨h4, h5⟩, h7⟩
        · rintro ⟨h6, ⟨h4, h5⟩, h7⟩
          exact ⟨id, cs, tot, l, rfl, e2, e3, h4, h5, h6, h7⟩
      · rename_i e3
        rw [eq_iff_iff]
        constructor
        · rintro ⟨i, cs', tot', l', h1, h2, h3, h4, h5, h6, h7⟩
          rw [e3] at h3; cases h3
        · rintro ⟨_, hh⟩; exact hh.elim
    · rename_i e2
      rw [eq_iff_iff]
      constructor
      · rintro ⟨i, cs', tot', l', h1, h2, h3, h4, h5, h6, h7⟩
        cases h1; exact absurd h2 (e2 _ _)
      · exact fun hh => hh.elim
  · rename_i e
    rw [eq_iff_iff]
    constructor
    · rintro ⟨i, cs', tot', l', h1, h2, h3, h4, h5, h6, h7⟩
      exact absurd h1 (e _)
    · exact fun hh => hh.elim
theorem aw_call (f : AArg) (args : List AArg) : aw P (.call f args) K s h = (match ev s f with | .fn g cap => callF P g (args.map (ev s) ++ cap) h K | .bd g first => callF P g (first ++ args.map (ev s)) h K | _ => False) := rfl
theorem aw_appendN (esz b : Nat) (z : List AV) (x y : AArg) : aw P (.appendN esz b z x y) K s h = appendNA h esz b z (ev s x) (ev s y) K := rfl
theorem aw_append (esz b : Nat) (x y : AArg) : aw P (.append esz b x y) K s h = appendA h esz b (ev s x) (ev s y) K := rfl
theorem aw_copy (esz : Nat) (x y : AArg) : aw P (.copy esz x y) K s h = copyA h esz (ev s x) (ev s y) K := rfl
theorem aw_mkMap : aw P .mkMap K s h = (∀ id, h id = none → K (.map id) (upd h id (.map [] 0))) := rfl
theorem aw_mapOp (mo : MapOp) (xs : List AArg) : aw P (.mapOp mo xs) K s h = mapA h mo (xs.map (ev s)) K := rfl
theorem aw_idxS (x i : AArg) : aw P (.idxS x i) K s h = (match ev s x, ev s i with
    | .str b, .int _ n => ∃ c, (0 ≤ n ∧ b[n.toNat]? = some c) ∧ K (.int .u8 c.toNat) h
    | _, _ => False) := by
  simp only [aw, pv]; generalize ev s x = u; generalize ev s i = v; cases u <;> first | (simp; done) | (cases v <;> first | (simp; done) | skip)
  rename_i b k n
  by_cases hn : 0 ≤ n
  · simp only [hn, if_true, Option.map_eq_some_iff, true_and]
    exact propext ⟨fun ⟨_, ⟨c, h1, e⟩, h2⟩ => ⟨c, h1, by rw [e]; exact h2⟩, fun ⟨c, h1, h2⟩ => ⟨_, ⟨c, h1, rfl⟩, h2⟩⟩
  · simp [hn]
theorem aw_idxV (g : Bool) (m n : Nat) (x i : AArg) : aw P (.idxV g m n x i) K s h = (match ev s x, ev s i with
    | .agg cs, .int _ k => (0 ≤ k ∧ k < (m : Int)) ∧ ∃ v, (if g then (if k.toNat * n + n ≤ cs.length then some (.agg ((cs.drop (k.toNat * n)).take n)) else none) else cs[k.toNat * n]?) = some v ∧ K v h
    | _, _ => False) := by
  simp only [aw, pv]; generalize ev s x = u; generalize ev s i = v; cases u <;> first | (simp; done) | (cases v <;> first | (simp; done) | skip)
  rename_i cs k q
  by_cases hn : 0 ≤ q ∧ q < (m : Int) <;> simp [hn]
theorem aw_clear (z : List AV) (x : AArg) : aw P (.clear z x) K s h = clearA h z (ev s x) K := rfl
end

section
variable (P : Program) (K : List AV → AHeap → Prop) (Q : PostA) (s : List AV) (h : AHeap)
theorem x_nil : awOps P [] K s h = K s h := rfl
theorem x_cons (d : Option Nat) (o : AOp) (l : List AOper) : awOps P (⟨d, o, none⟩ :: l) K s h = aw P o (kput (awOps P l K) s d) s h := rfl
theorem x_guard (d : Option Nat) (o : AOp) (l : List AOper) (t : Nat) (w : Bool) : awOps P (⟨d, o, some (t, w)⟩ :: l) K s h = (match s.getD t .undef with | .bool b => guardA P o d (awOps P l K) s h w b | .tup [] => awOps P l K (put s d (.tup [])) h | _ => False) := rfl
theorem x_kput (d : Nat) (v : AV) : kput K s (some d) v h = K (s.set d v) h := rfl
theorem x_kput' (v : AV) : kput K s none v h = K s h := rfl
theorem x_put (d : Nat) (v : AV) : put s (some d) v = s.set d v := rfl
theorem x_put' (v : AV) : put s none v = s := rfl
theorem x_skip : exec P .skip Q s h = Q .normal s h := rfl
theorem x_reg (l : List AOper) : exec P (.reg l) Q s h = awOps P l (Q .normal) s h := rfl
theorem x_seq (a b : ACode) : exec P (.seq a b) Q s h = exec P a (thenA (exec P b Q) Q) s h := rfl
theorem x_cond (c : AArg) (x y : ACode) : exec P (.cond c x y) Q s h = (match ev s c with | .bool t => condA (exec P x) (exec P y) Q s h t | _ => False) := rfl
theorem x_blL (id : Nat) (c : ACode) : exec P (.block id (.loop c)) Q s h = loopA (exec P c) (blockF id Q) s h := rfl
theorem x_blS (id : Nat) (a b : ACode) : exec P (.block id (.seq a b)) Q s h = exec P (.seq a b) (blockA id Q) s h := rfl
theorem x_blC (id : Nat) (c : AArg) (a b : ACode) : exec P (.block id (.cond c a b)) Q s h = exec P (.cond c a b) (blockA id Q) s h := rfl
theorem x_blR (id : Nat) (l : List AOper) : exec P (.block id (.reg l)) Q s h = exec P (.reg l) (blockA id Q) s h := rfl
theorem x_blD (id : Nat) (l : List DOper) : exec P (.block id (.regD l)) Q s h = exec P (.regD l) (blockA id Q) s h := rfl
theorem x_blB (id i : Nat) (c : ACode) : exec P (.block id (.block i c)) Q s h = exec P (.block i c) (blockA id Q) s h := rfl
theorem x_blK (id : Nat) : exec P (.block id .skip) Q s h = Q .normal s h := rfl
theorem x_blT (id : Nat) : exec P (.block id .ret) Q s h = Q .ret s h := rfl
theorem x_blX (id i : Nat) : exec P (.block id (.exit i)) Q s h = blockA id Q (.exit i) s h := rfl
theorem x_blY (id : Nat) (l : List AOper) : exec P (.block id (.regX l)) Q s h = exec P (.regX l) (blockA id Q) s h := rfl
theorem x_blF (id : Nat) (g : AArg) (ps : List Nat) (a b : ACode) : exec P (.block id (.rangeF g ps a b)) Q s h = exec P (.rangeF g ps a b) (blockA id Q) s h := rfl
theorem x_regX (l : List AOper) : exec P (.regX l) Q s h = awOpsX P l (Q .normal) s h := rfl
theorem x_rangeF (g : AArg) (ps : List Nat) (a b : ACode) : exec P (.rangeF g ps a b) Q s h = (match ev s g with | .fn f cap => rangeA P f cap ps (exec P a) (exec P b) Q s h | _ => False) := rfl
theorem xX_nil : awOpsX P [] K s h = K s h := rfl
theorem xX_cons (d : Option Nat) (o : AOp) (l : List AOper) : awOpsX P (⟨d, o, none⟩ :: l) K s h = awX P o (kput (awOpsX P l K) s d) s h := rfl
theorem x_fN (id : Nat) : blockF id Q .normal s h = Q .normal s h := rfl
theorem x_fR (id : Nat) : blockF id Q .ret s h = Q .ret s h := rfl
theorem x_fE (id : Nat) : blockF id Q (.exit id) s h = frzA (Q .normal) s h := by simp [blockF]
theorem x_fE' (id i : Nat) (e : (i == id) = false) : blockF id Q (.exit i) s h = Q (.exit i) s h := by
  have : ¬ i = id := by simpa using e
  simp [blockF, this]
theorem x_loop (c : ACode) : exec P (.loop c) Q s h = loopA (exec P c) Q s h := rfl
theorem x_exit (id : Nat) : exec P (.exit id) Q s h = Q (.exit id) s h := rfl
theorem x_ret : exec P .ret Q s h = Q .ret s h := rfl
theorem x_thenN : thenA K Q .normal s h = K s h := rfl
theorem x_thenE (id : Nat) : thenA K Q (.exit id) s h = Q (.exit id) s h := rfl
theorem x_thenR : thenA K Q .ret s h = Q .ret s h := rfl
theorem x_blockN (id : Nat) : blockA id Q .normal s h = Q .normal s h := rfl
theorem x_blockR (id : Nat) : blockA id Q .ret s h = Q .ret s h := rfl
theorem x_blockE (id : Nat) : blockA id Q (.exit id) s h = Q .normal s h := by simp [blockA]
theorem x_blockE' (id i : Nat) (e : (i == id) = false) : blockA id Q (.exit i) s h = Q (.exit i) s h := by
  have : ¬ i = id := by simpa using e
  simp [blockA, this]
theorem x_evt (n : Nat) : ev s (.t n) = s.getD n .undef := rfl
theorem x_evc (v : AV) : ev s (.c v) = v := rfl
end

section
variable {P : Program} {K : AV → AHeap → Prop} {s : List AV} {h : AHeap}
theorem xX_mv (x : AArg) : awX P (.mv x) K s h = aw P (.mv x) K s h := rfl
theorem xX_load (g : Bool) (n : Nat) (x : AArg) : awX P (.load g n x) K s h = aw P (.load g n x) K s h := rfl
theorem xX_alloc (z : List AV) : awX P (.alloc z) K s h = aw P (.alloc z) K s h := rfl
theorem xX_store (n : Nat) (x v : AArg) : awX P (.store n x v) K s h = aw P (.store n x v) K s h := rfl
theorem xX_storeF (n : Nat) (x v : AArg) : awX P (.storeF n x v) K s h = aw P (.storeF n x v) K s h := rfl
theorem xX_extract (x : AArg) (i : Nat) : awX P (.extract x i) K s h = aw P (.extract x i) K s h := rfl
theorem xX_un (o : UnOp) (x : AArg) : awX P (.un o x) K s h = aw P (.un o x) K s h := rfl
theorem xX_bin (o : BinOp) (x y : AArg) : awX P (.bin o x y) K s h = aw P (.bin o x y) K s h := rfl
theorem xX_call (f : AArg) (l : List AArg) : awX P (.call f l) K s h = aw P (.call f l) K s h := rfl
theorem xX_idx (n : Nat) (x i : AArg) : awX P (.indexAddr n x i) K s h = aw P (.indexAddr n x i) K s h := rfl
theorem xX_fa (n : Nat) (x : AArg) : awX P (.fieldAddr n x) K s h = aw P (.fieldAddr n x) K s h := rfl
theorem xX_rng (x : AArg) : awX P (.rng x) K s h = rngA h K (ev s x) := rfl
theorem rngA_map (id : Nat) : rngA h K (.map id) = (∃ es c, h id = some (.map es c) ∧ ∀ rid, h rid = none → K (.ptr rid 0) (upd h rid (.raw (.mapIter (some id) c #[] c)))) := rfl
theorem nxtA_map (rid m since : Nat) (seen : Array Nat) (last : Nat) : nxtA h rid K (.mapIter (some m) since seen last) = (∃ es c, h m = some (.map es c) ∧ since = c ∧ last = c ∧ (BornOk es c →
      (∀ e ∈ es, e.2.2 ∉ seen → K (.tup [.bool true, e.1, e.2.1]) (upd h rid (.raw (.mapIter (some m) c (seen.push e.2.2) c)))) ∧ ((∀ e ∈ es, e.2.2 ∈ seen) → K (.tup [.bool false]) h))) := rfl
theorem entA_eq (rid : Nat) : entA h rid K = (∃ m since seen es c e, h rid = some (.raw (.mapIter (some m) since seen c)) ∧ h m = some (.map es c) ∧ e ∈ es ∧ seen.back? = some e.2.2 ∧ (BornOk es c → K (.tup [e.1, e.2.1]) h)) := rfl
theorem yldF_eq (l : Nat) (xs : List AV) : yldF P l xs h K = (∃ R, YldA P l xs h R ∧ ∀ h', R h' → K (.bool true) h') := rfl
theorem xX_nxt (x : AArg) : awX P (.nxt x) K s h = (match ev s x with | .ptr rid 0 => (match h rid with | some (.raw o) => nxtA h rid K o | _ => False) | _ => False) := rfl
theorem xX_ent (x : AArg) : awX P (.ent x) K s h = (match ev s x with | .ptr rid 0 => entA h rid K | _ => False) := rfl
theorem xX_callY (f : AArg) (l : List AArg) : awX P (.callY f l) K s h = (match ev s f with | .yld i => yldF P i (l.map (ev s)) h K | _ => False) := rfl
end

/-! ### Regions that draw their order -/

def plainB : AOp → Bool
  | .load .. | .loadG .. | .b2s .. | .store .. | .storeF .. | .call .. | .append .. | .appendN .. | .copy .. | .clear .. | .mapOp .. => false
  | _ => true

def effB : AOp → Bool
  | .loadG .. | .b2s .. | .store .. | .storeF .. | .call .. | .append .. | .appendN .. | .copy .. | .clear .. | .mapOp .. => true
  | _ => false

theorem pl_bad : plainB .bad = true := id rfl
theorem pl_mv (x) : plainB (.mv x) = true := id rfl
theorem pl_pick (a b c) : plainB (.pick a b c) = true := id rfl
theorem pl_alloc (x) : plainB (.alloc x) = true := id rfl
theorem pl_box (x) : plainB (.box x) = true := id rfl
theorem pl_build (a b) : plainB (.build a b) = true := id rfl
theorem pl_buildSlice (a b) : plainB (.buildSlice a b) = true := id rfl
theorem pl_nilCheck (x) : plainB (.nilCheck x) = true := id rfl
theorem pl_bin (a b c) : plainB (.bin a b c) = true := id rfl
theorem pl_eqb (a b c) : plainB (.eqb a b c) = true := id rfl
theorem pl_s2b (a) : plainB (.s2b a) = true := id rfl
theorem pl_mki (a b) : plainB (.mki a b) = true := id rfl
theorem pl_eqi (a b) : plainB (.eqi a b) = true := id rfl
theorem pl_eqn (a b c d) : plainB (.eqn a b c d) = true := id rfl
theorem pl_eqs (a b c d) : plainB (.eqs a b c d) = true := id rfl
theorem pl_un (a b) : plainB (.un a b) = true := id rfl
theorem pl_conv (a b) : plainB (.conv a b) = true := id rfl
theorem pl_bindF (a b) : plainB (.bindF a b) = true := id rfl
theorem pl_makeFunc (a b) : plainB (.makeFunc a b) = true := id rfl
theorem pl_makeSlice (a b c d) : plainB (.makeSlice a b c d) = true := id rfl
theorem pl_slice (a b c d e) : plainB (.slice a b c d e) = true := id rfl
theorem pl_sliceP (a b c d e f) : plainB (.sliceP a b c d e f) = true := id rfl
theorem pl_sliceS (a b c) : plainB (.sliceS a b c) = true := id rfl
theorem pl_sap (a b) : plainB (.sap a b) = true := id rfl
theorem pl_field (a b c d) : plainB (.field a b c d) = true := id rfl
theorem pl_fieldAddr (a b) : plainB (.fieldAddr a b) = true := id rfl
theorem pl_indexAddr (a b c) : plainB (.indexAddr a b c) = true := id rfl
theorem pl_indexArr (a b c d) : plainB (.indexArr a b c d) = true := id rfl
theorem pl_idxS (a b) : plainB (.idxS a b) = true := id rfl
theorem pl_idxV (a b c d e) : plainB (.idxV a b c d e) = true := id rfl
theorem pl_mkMap : plainB .mkMap = true := id rfl
theorem ef_loadG (a b) : effB (.loadG a b) = true := id rfl
theorem ef_b2s (a) : effB (.b2s a) = true := id rfl
theorem ef_mapOp (a b) : effB (.mapOp a b) = true := id rfl
theorem pl_lit (a b) : plainB (.lit a b) = true := id rfl
theorem pl_boxF (a) : plainB (.boxF a) = true := id rfl
theorem pl_cap (a) : plainB (.cap a) = true := id rfl
theorem pl_extract (a b) : plainB (.extract a b) = true := id rfl
theorem pl_len (a b) : plainB (.len a b) = true := id rfl
theorem pl_min (a) : plainB (.min a) = true := id rfl
theorem pl_max (a) : plainB (.max a) = true := id rfl
theorem ef_store (a b c) : effB (.store a b c) = true := id rfl
theorem ef_storeF (a b c) : effB (.storeF a b c) = true := id rfl
theorem ef_call (a b) : effB (.call a b) = true := id rfl
theorem ef_append (a b c d) : effB (.append a b c d) = true := id rfl
theorem ef_appendN (a b c d e) : effB (.appendN a b c d e) = true := id rfl
theorem ef_copy (a b c) : effB (.copy a b c) = true := id rfl
theorem ef_clear (a b) : effB (.clear a b) = true := id rfl

def stabs : List RF → List Nat → AHeap → Prop
  | [], _, _ => True
  | f :: l, un, h => (un.contains f.tag = true → stab f h) ∧ stabs l un h

theorem stabs_iff {pre : List RF} {un : List Nat} {h : AHeap} : (∀ f ∈ pre, f.tag ∈ un → stab f h) ↔ stabs pre un h := by
  induction pre with
  | nil => simp [stabs]
  | cons f l ih =>
    rw [stabs, ← ih]
    simp [List.forall_mem_cons]

/-- What comes behind an effect that readers may come behind. -/
def effK (P : Program) (pre : List RF) (un : List Nat) (l : List DOper) (K : List AV → AHeap → Prop) (s : List AV) (h : AHeap) : Prop := stabs pre un h ∧ awD P l pre K s h
theorem x_effK (P : Program) (pre : List RF) (un : List Nat) (l : List DOper) (K : List AV → AHeap → Prop) (s : List AV) (h : AHeap) : effK P pre un l K s h = (stabs pre un h ∧ awD P l pre K s h) := rfl

/-- A reader under a guard whose value is b; what it reads is laid aside. -/
def readG (P : Program) (t : Nat) (d : Option Nat) (g : Bool) (n : Nat) (x : AArg) (l : List DOper) (pre : List RF) (K : List AV → AHeap → Prop) (s : List AV) (h : AHeap) (w b : Bool) : Prop :=
  (b = w → match rdv g n (ev s x) h with | some v => awD P l (⟨t, g, n, ev s x, v⟩ :: pre) K (put s d v) h | none => False) ∧ (b = !w → awD P l pre K (put s d (.tup [])) h)

section
variable {P : Program} {t : Nat} {d : Option Nat} {g : Bool} {n : Nat} {x : AArg} {l : List DOper} {pre : List RF} {K : List AV → AHeap → Prop} {s : List AV} {h : AHeap} {w b : Bool}
theorem readG_tt : readG P t d g n x l pre K s h true true = (match rdv g n (ev s x) h with | some v => awD P l (⟨t, g, n, ev s x, v⟩ :: pre) K (put s d v) h | none => False) := by simp [readG]
theorem readG_ff : readG P t d g n x l pre K s h false false = (match rdv g n (ev s x) h with | some v => awD P l (⟨t, g, n, ev s x, v⟩ :: pre) K (put s d v) h | none => False) := by simp [readG]
theorem readG_tf : readG P t d g n x l pre K s h true false = awD P l pre K (put s d (.tup [])) h := by simp [readG]
theorem readG_ft : readG P t d g n x l pre K s h false true = awD P l pre K (put s d (.tup [])) h := by simp [readG]
theorem readG_split (h1 : b = true → readG P t d g n x l pre K s h w true) (h2 : b = false → readG P t d g n x l pre K s h w false) : readG P t d g n x l pre K s h w b := by
  cases b
  · exact h2 rfl
  · exact h1 rfl
end

section
variable (P : Program) (K : List AV → AHeap → Prop) (Q : PostA) (s : List AV) (h : AHeap) (pre : List RF) (t : Nat) (un : List Nat) (d : Option Nat) (o : AOp) (l : List DOper) (kp : Bool)

theorem x_regD (l : List DOper) : exec P (.regD l) Q s h = awD P l [] (Q .normal) s h := rfl
theorem d_nil : awD P [] pre K s h = K s h := rfl
theorem d_plain (hp : plainB o = true) : awD P (⟨t, ⟨d, o, none⟩, un, kp⟩ :: l) pre K s h = aw P o (kput (awD P l pre K) s d) s h := by
  cases o <;> first | rfl | cases hp
theorem d_plainG (hp : plainB o = true) (g : Nat) (w : Bool) : awD P (⟨t, ⟨d, o, some (g, w)⟩, un, kp⟩ :: l) pre K s h = (match s.getD g .undef with | .bool b => guardA P o d (awD P l pre K) s h w b | .tup [] => awD P l pre K (put s d (.tup [])) h | _ => False) := by
  cases o <;> first | rfl | cases hp
theorem d_read (g : Bool) (n : Nat) (x : AArg) : awD P (⟨t, ⟨d, .load g n x, none⟩, un, false⟩ :: l) pre K s h = aw P (.load g n x) (kput (awD P l pre K) s d) s h := rfl
theorem d_readG (g : Bool) (n : Nat) (x : AArg) (c : Nat) (w : Bool) : awD P (⟨t, ⟨d, .load g n x, some (c, w)⟩, un, false⟩ :: l) pre K s h = (match s.getD c .undef with | .bool b => guardA P (.load g n x) d (awD P l pre K) s h w b | .tup [] => awD P l pre K (put s d (.tup [])) h | _ => False) := rfl
theorem d_readK (g : Bool) (n : Nat) (x : AArg) : awD P (⟨t, ⟨d, .load g n x, none⟩, un, true⟩ :: l) pre K s h = (match rdv g n (ev s x) h with | some v => awD P l (⟨t, g, n, ev s x, v⟩ :: pre) K (put s d v) h | none => False) := by
  show aw P (.load g n x) (kput (awD P l (rfOf ⟨t, ⟨d, .load g n x, none⟩, un, true⟩ s h pre) K) s d) s h = _
  rw [eq_iff_iff, aw_read]
  have e : rfOf ⟨t, ⟨d, .load g n x, none⟩, un, true⟩ s h pre = (match rdv g n (ev s x) h with | some v => ⟨t, g, n, ev s x, v⟩ :: pre | none => pre) := rfl
  rw [e]
  cases rdv g n (ev s x) h with
  | none => simp
  | some v => simp [kput]
theorem d_readKG (g : Bool) (n : Nat) (x : AArg) (c : Nat) (w : Bool) : awD P (⟨t, ⟨d, .load g n x, some (c, w)⟩, un, true⟩ :: l) pre K s h = (match s.getD c .undef with | .bool b => readG P t d g n x l pre K s h w b | .tup [] => awD P l pre K (put s d (.tup [])) h | _ => False) := by
  rw [eq_iff_iff]
  show awOper P ⟨d, .load g n x, some (c, w)⟩ (awD P l (rfOf ⟨t, ⟨d, .load g n x, some (c, w)⟩, un, true⟩ s h pre) K) s h ↔ _
  unfold awOper rfOf active
  simp only
  cases s.getD c .undef with
  | bool b =>
    simp only [guardA, readG]
    by_cases e : b = w
    · subst e
      simp only [beq_self_eq_true, true_imp_iff]
      rw [show (b = !b) = False from by cases b <;> simp]
      simp only [false_imp_iff, and_true]
      rw [aw_read]
      cases rdv g n (ev s x) h with
      | none => simp
      | some v => simp [kput]
    · have e1 : b = !w := by cases b <;> cases w <;> simp_all
      subst e1
      cases w <;> simp
  | tup vs => cases vs <;> simp
  | _ => simp
theorem d_eff0 (hp : effB o = true) : awD P (⟨t, ⟨d, o, none⟩, [], kp⟩ :: l) pre K s h = aw P o (kput (awD P l pre K) s d) s h := by
  have e : kindOf o = .eff := by cases o <;> first | rfl | cases hp
  rw [awD]; simp only [e]
  rw [show awOper P ⟨d, o, none⟩ (fun s' h' => (∀ f ∈ pre, f.tag ∈ ([] : List Nat) → stab f h') ∧ awD P l pre K s' h') s h = aw P o (kput (fun s' h' => (∀ f ∈ pre, f.tag ∈ ([] : List Nat) → stab f h') ∧ awD P l pre K s' h') s d) s h from rfl]
  simp
theorem d_effG0 (hp : effB o = true) (c : Nat) (w : Bool) : awD P (⟨t, ⟨d, o, some (c, w)⟩, [], kp⟩ :: l) pre K s h = (match s.getD c .undef with | .bool b => guardA P o d (awD P l pre K) s h w b | .tup [] => awD P l pre K (put s d (.tup [])) h | _ => False) := by
  have e : kindOf o = .eff := by cases o <;> first | rfl | cases hp
  rw [awD]; simp only [e]
  rw [show awOper P ⟨d, o, some (c, w)⟩ (fun s' h' => (∀ f ∈ pre, f.tag ∈ ([] : List Nat) → stab f h') ∧ awD P l pre K s' h') s h = (match s.getD c .undef with | .bool b => guardA P o d (fun s' h' => (∀ f ∈ pre, f.tag ∈ ([] : List Nat) → stab f h') ∧ awD P l pre K s' h') s h w b | .tup [] => (∀ f ∈ pre, f.tag ∈ ([] : List Nat) → stab f h) ∧ awD P l pre K (put s d (.tup [])) h | _ => False) from rfl]
  simp
theorem d_eff (hp : effB o = true) (u : Nat) (un : List Nat) : awD P (⟨t, ⟨d, o, none⟩, u :: un, kp⟩ :: l) pre K s h = aw P o (kput (effK P pre (u :: un) l K) s d) s h := by
  have e : kindOf o = .eff := by cases o <;> first | rfl | cases hp
  rw [awD]; simp only [e, stabs_iff]
  rfl
theorem d_effG (hp : effB o = true) (c : Nat) (w : Bool) (u : Nat) (un : List Nat) : awD P (⟨t, ⟨d, o, some (c, w)⟩, u :: un, kp⟩ :: l) pre K s h = (match s.getD c .undef with | .bool b => guardA P o d (effK P pre (u :: un) l K) s h w b | .tup [] => effK P pre (u :: un) l K (put s d (.tup [])) h | _ => False) := by
  have e : kindOf o = .eff := by cases o <;> first | rfl | cases hp
  rw [awD]; simp only [e, stabs_iff]
  rfl
theorem stabs_nil : stabs [] un h = True := rfl
theorem stabs_cons (g : Bool) (n : Nat) (p v : AV) : stabs (⟨t, g, n, p, v⟩ :: pre) un h = ((un.contains t = true → rdv g n p h = some v) ∧ stabs pre un h) := rfl
theorem rdv_f (n : Nat) (p : AV) : rdv false n p h = aload h p := rfl
theorem rdv_t (n : Nat) (p : AV) : rdv true n p h = (aloads h n p).map .agg := rfl
end

section
variable {P : Program} {o : AOp} {dst : Option Nat} {K : List AV → AHeap → Prop} {s : List AV} {h : AHeap} {Q : PostA} {x y : PostA → List AV → AHeap → Prop} {want b t : Bool}
theorem guard_tt : guardA P o dst K s h true true = aw P o (kput K s dst) s h := by simp [guardA]
theorem guard_ff : guardA P o dst K s h false false = aw P o (kput K s dst) s h := by simp [guardA]
theorem guard_tf : guardA P o dst K s h true false = K (put s dst (.tup [])) h := by simp [guardA]
theorem guard_ft : guardA P o dst K s h false true = K (put s dst (.tup [])) h := by simp [guardA]
theorem guard_split (h1 : b = true → guardA P o dst K s h want true) (h2 : b = false → guardA P o dst K s h want false) : guardA P o dst K s h want b := by
  cases b
  · exact h2 rfl
  · exact h1 rfl
theorem cond_t : condA x y Q s h true = x Q s h := by simp [condA]
theorem cond_f : condA x y Q s h false = y Q s h := by simp [condA]
theorem cond_split (h1 : t = true → x Q s h) (h2 : t = false → y Q s h) : condA x y Q s h t := ⟨h1, h2⟩
end

/-- A loop that goes through 0 .. n-1: 'f k' writes into the slots at its head what they hold in round k. -/
theorem loop_range {body : PostA → List AV → AHeap → Prop} {Q : PostA} {s : List AV} {h : AHeap} (ds : List Nat) (n : Nat) (f : Nat → List AV → List AV) (I : Nat → AHeap → Prop)
    (h0 : kill ds s = f 0 (kill ds s)) (i0 : I 0 h) (round : ∀ (N : List AV → AHeap → Prop) k h', k ≤ n → I k h' → (∀ s' h'', k < n → kill ds s' = f (k + 1) (kill ds s) → I (k + 1) h'' → N s' h'') → body (thenA N Q) (f k (kill ds s)) h') : loopA body Q s h := by
  refine ⟨fun m s' h' => ∃ k, m = n - k ∧ k ≤ n ∧ s' = f k (kill ds s) ∧ I k h', n, ds, kill ds s, h, .refl h, .refl _ _ _, ⟨0, by omega, by omega, h0, i0⟩, ?_⟩
  rintro m s' h' ⟨k, rfl, hk, rfl, hi⟩
  exact round _ k h' hk hi fun s' h'' h1 h2 h3 => ⟨n - (k + 1), _, _, by omega, .refl h'', .refl _ _ _, k + 1, rfl, by omega, h2, h3⟩

/-- A loop with a state of one's own: 'f x' writes into the slots at its head what they hold at state x; m lowers; at its head blocks of one's own may be laid still. -/
theorem loop_fz {α : Type} {body : PostA → List AV → AHeap → Prop} {Q : PostA} {s : List AV} {h : AHeap} (ds : List Nat) (m : α → Nat) (f : α → List AV) (I : α → AHeap → Prop) (x0 : α) (h0 : AHeap)
    (z0 : FzH h h0) (z1 : FzL h h0 (kill ds s) (f x0)) (i0 : I x0 h0)
    (round : ∀ (N : List AV → AHeap → Prop) x h', I x h' → (∀ y s' h'' h2, m y < m x → FzH h'' h2 → FzL h'' h2 (kill ds s') (f y) → I y h2 → N s' h'') → body (thenA N Q) (f x) h') : loopA body Q s h := by
  refine ⟨fun n s' h' => ∃ x, n = m x ∧ s' = f x ∧ I x h', m x0, ds, f x0, h0, z0, z1, ⟨x0, rfl, rfl, i0⟩, ?_⟩
  rintro n s' h' ⟨x, rfl, rfl, hi⟩
  exact round _ x h' hi fun y s' h'' h2 h1 y0 y1 h3 => ⟨m y, f y, h2, h1, y0, y1, y, rfl, rfl, h3⟩

/-- A loop with a state of one's own: 'f x' writes into the slots at its head what they hold at state x; m lowers. -/
theorem loop_st {α : Type} {body : PostA → List AV → AHeap → Prop} {Q : PostA} {s : List AV} {h : AHeap} (ds : List Nat) (m : α → Nat) (f : α → List AV → List AV) (I : α → AHeap → Prop) (x0 : α)
    (h0 : kill ds s = f x0 (kill ds s)) (i0 : I x0 h) (round : ∀ (N : List AV → AHeap → Prop) x h', I x h' → (∀ y s' h'', m y < m x → kill ds s' = f y (kill ds s) → I y h'' → N s' h'') → body (thenA N Q) (f x (kill ds s)) h') : loopA body Q s h := by
  refine loop_fz ds m (fun x => f x (kill ds s)) I x0 h (.refl h) (by rw [← h0]; exact .refl _ _ _) i0 fun N x h' hi hN => round N x h' hi fun y s' h'' h1 h2 h3 => hN y s' h'' h'' h1 (.refl _) (by rw [← h2]; exact .refl _ _ _) h3

section
variable {P : Program}
theorem awOps_mono : ∀ (l : List AOper) {K K' : List AV → AHeap → Prop} {s : List AV} {h : AHeap}, (∀ s h, K s h → K' s h) → awOps P l K s h → awOps P l K' s h
  | [], K, K', s, h, hk, g => hk _ _ g
  | o :: l, K, K', s, h, hk, g => awOper_mono (fun s' h' k => awOps_mono l hk k) g
theorem awD_mono : ∀ (l : List DOper) {pre : List RF} {K K' : List AV → AHeap → Prop} {s : List AV} {h : AHeap}, (∀ s h, K s h → K' s h) → awD P l pre K s h → awD P l pre K' s h
  | [], pre, K, K', s, h, hk, g => hk _ _ g
  | o :: l, pre, K, K', s, h, hk, g => by
    unfold awD at g ⊢
    split
    · rename_i e; rw [e] at g; exact awOper_mono (fun s' h' k => awD_mono l hk k) g
    · rename_i e; rw [e] at g; exact awOper_mono (fun s' h' k => ⟨k.1, awD_mono l hk k.2⟩) g
    · rename_i e1 e2
      split at g
      · rename_i e; exact absurd e e1
      · rename_i e; exact absurd e e2
      · exact awOper_mono (fun s' h' k => awD_mono l hk k) g
theorem awX_mono {o : AOp} {K K' : AV → AHeap → Prop} {s : List AV} {h : AHeap} (hk : ∀ v h, K v h → K' v h) (g : awX P o K s h) : awX P o K' s h := by
  by_cases hx : isX o = false
  · rw [awX_of hx] at g ⊢
    exact aw_mono hk g
  · cases o <;> first | (exact absurd rfl hx) | skip
    case rng x =>
      simp only [awX] at g ⊢
      unfold rngA at g ⊢
      split at g
      · obtain ⟨es, c, h1, k⟩ := g; exact ⟨es, c, h1, fun rid hr => hk _ _ (k rid hr)⟩
      · exact fun rid hr => hk _ _ (g rid hr)
      · exact g.elim
    case nxt x =>
      simp only [awX] at g ⊢
      split at g
      · split at g
        · unfold nxtA at g ⊢
          split at g
          · exact hk _ _ g
          · obtain ⟨es, c, h1, h2, h3, k⟩ := g
            exact ⟨es, c, h1, h2, h3, fun hb => ⟨fun e he hn => hk _ _ ((k hb).1 e he hn), fun ha => hk _ _ ((k hb).2 ha)⟩⟩
          · exact g.elim
        · exact g.elim
      · exact g.elim
    case ent x =>
      simp only [awX] at g ⊢
      split at g
      · obtain ⟨m, since, seen, es, c, e, h1, h2, h3, h4, k⟩ := g
        exact ⟨m, since, seen, es, c, e, h1, h2, h3, h4, fun hb => hk _ _ (k hb)⟩
      · exact g.elim
    case callY f xs =>
      simp only [awX] at g ⊢
      split at g
      · obtain ⟨R, h1, k⟩ := g; exact ⟨R, h1, fun h' r => hk _ _ (k h' r)⟩
      · exact g.elim
theorem awOpsX_mono : ∀ (l : List AOper) {K K' : List AV → AHeap → Prop} {s : List AV} {h : AHeap}, (∀ s h, K s h → K' s h) → awOpsX P l K s h → awOpsX P l K' s h
  | [], K, K', s, h, hk, g => hk _ _ g
  | o :: l, K, K', s, h, hk, g => by
    simp only [awOpsX, awOperX] at g ⊢
    split at g
    · exact awX_mono (fun v h' k => awOpsX_mono l hk k) g
    · split at g
      · exact ⟨fun e => awX_mono (fun v h' k => awOpsX_mono l hk k) (g.1 e), fun e => awOpsX_mono l hk (g.2 e)⟩
      · exact awOpsX_mono l hk g
      · exact g.elim
theorem exec_mono : ∀ (c : ACode) {Q Q' : PostA} {s : List AV} {h : AHeap}, (∀ e s h, Q e s h → Q' e s h) → exec P c Q s h → exec P c Q' s h
  | .skip, Q, Q', s, h, hq, g => hq _ _ _ g
  | .reg l, Q, Q', s, h, hq, g => awOps_mono l (fun s h k => hq _ _ _ k) g
  | .regD l, Q, Q', s, h, hq, g => awD_mono l (fun s h k => hq _ _ _ k) g
  | .seq a b, Q, Q', s, h, hq, g => exec_mono a (fun e s h k => by
      cases e with
      | normal => exact exec_mono b hq k
      | _ => exact hq _ _ _ k) g
  | .cond c x y, Q, Q', s, h, hq, g => by
    simp only [exec] at g ⊢
    split at g
    · exact ⟨fun e => exec_mono x hq (g.1 e), fun e => exec_mono y hq (g.2 e)⟩
    · exact g.elim
  | .block id c, Q, Q', s, h, hq, g => exec_mono c (fun e s h k => by
      cases e with
      | exit i =>
        cases c <;> simp only [blockQ, blockF, blockA] at k ⊢ <;> (split at k <;> rename_i hi <;> simp only [hi, if_true, if_false]) <;> first | exact hq _ _ _ k | (obtain ⟨s2, h2, z0, z1, k2⟩ := k; exact ⟨s2, h2, z0, z1, hq _ _ _ k2⟩)
      | _ => cases c <;> exact hq _ _ _ k) g
  | .loop c, Q, Q', s, h, hq, g => by
    obtain ⟨J, n₀, ds, s₀, h₀, z0, z1, h0, round⟩ := g
    exact ⟨J, n₀, ds, s₀, h₀, z0, z1, h0, fun n s h hj => exec_mono c (fun e s h k => by
      cases e with
      | normal => exact k
      | _ => exact hq _ _ _ k) (round n s h hj)⟩
  | .exit id, Q, Q', s, h, hq, g => hq _ _ _ g
  | .ret, Q, Q', s, h, hq, g => hq _ _ _ g
  | .regX l, Q, Q', s, h, hq, g => awOpsX_mono l (fun s h k => hq _ _ _ k) g
  | .rangeF f ps a b, Q, Q', s, h, hq, g => by
    simp only [exec] at g ⊢
    split at g
    · intro l m1 m2 hl hy
      obtain ⟨h', args', z1, z2, c⟩ := g l m1 m2 hl hy
      exact ⟨h', args', z1, z2, c.mono fun r h2 k => ⟨k.1, hq _ _ _ k.2⟩⟩
    · exact g.elim
  | .bad, Q, Q', s, h, hq, g => g.elim

/-- A loop of at most so many rounds, written out. -/
def loopN (P : Program) (c : ACode) (Q : PostA) : Nat → List AV → AHeap → Prop
  | 0, _, _ => False
  | k + 1, s, h => exec P c (thenA (loopN P c Q k) Q) s h
theorem loopN_succ (c : ACode) (Q : PostA) (k : Nat) (s : List AV) (h : AHeap) : loopN P c Q (k + 1) s h = exec P c (thenA (loopN P c Q k) Q) s h := rfl
theorem loop_n {c : ACode} {Q : PostA} {s : List AV} {h : AHeap} (k : Nat) (g : loopN P c Q k s h) : loopA (exec P c) Q s h := by
  refine ⟨fun n s h => loopN P c Q n s h, k, [], s, h, .refl h, .refl _ _ _, g, fun n s h hn => ?_⟩
  cases n with
  | zero => exact hn.elim
  | succ n => exact exec_mono c (fun e s h k => by
      cases e with
      | normal => exact ⟨n, s, h, Nat.lt_succ_self n, .refl h, .refl _ _ _, k⟩
      | _ => exact k) hn
end

/-- As 'loop_st'; at a round's end blocks may be laid still that no slot names. -/
theorem loop_sh {α : Type} {body : PostA → List AV → AHeap → Prop} {Q : PostA} {s : List AV} {h : AHeap} (ds : List Nat) (m : α → Nat) (f : α → List AV → List AV) (I : α → AHeap → Prop) (x0 : α)
    (h0 : kill ds s = f x0 (kill ds s)) (i0 : I x0 h) (round : ∀ (N : List AV → AHeap → Prop) x h', I x h' → (∀ y s' h'' h2, m y < m x → kill ds s' = f y (kill ds s) → FzH h'' h2 → I y h2 → N s' h'') → body (thenA N Q) (f x (kill ds s)) h') : loopA body Q s h := by
  refine loop_fz ds m (fun x => f x (kill ds s)) I x0 h (.refl h) (by rw [← h0]; exact .refl _ _ _) i0 fun N x h' hi hN => round N x h' hi fun y s' h'' h2 h1 e z h3 => hN y s' h'' h2 h1 z (by rw [← e]; exact .refl _ _ _) h3

/-- Nothing is laid still. -/
theorem frz_id {K : List AV → AHeap → Prop} {s : List AV} {h : AHeap} (k : K s h) : frzA K s h := ⟨s, h, .refl h, .refl _ _ _, k⟩

/-- One slot that is laid still. -/
theorem FzL.set {h h' : AHeap} : ∀ {l : List AV} (i : Nat) {x y : AV}, l[i]? = some x → Fz h h' x y → FzL h h' l (l.set i y)
  | [], i, x, y, e, z => by simp at e
  | u :: l, 0, x, y, e, z => by simp at e; subst e; exact .cons z (.refl _ _ _)
  | u :: l, i + 1, x, y, e, z => by simp at e; exact .cons (.refl _) (FzL.set i e z)

theorem frz_at {K : List AV → AHeap → Prop} {s : List AV} {h : AHeap} (i : Nat) {x y : AV} {h' : AHeap} (e : s[i]? = some x) (z0 : FzH h h') (z : Fz h h' x y) (k : K (s.set i y) h') : frzA K s h := ⟨_, h', z0, FzL.set i e z, k⟩

theorem FzL.trans_set {h h' : AHeap} : ∀ {l m : List AV} (i : Nat) {x y : AV}, FzL h h' l m → l[i]? = some x → Fz h h' x y → FzL h h' l (m.set i y)
  | [], _, i, x, y, _, e, z => by simp at e
  | u :: l, _, 0, x, y, .cons a b, e, z => by simp at e; subst e; exact .cons z b
  | u :: l, _, i + 1, x, y, .cons a b, e, z => by simp at e; exact .cons a (FzL.trans_set i b e z)
theorem frz_at2 {K : List AV → AHeap → Prop} {s : List AV} {h : AHeap} (i j : Nat) {x y x2 y2 : AV} {h' : AHeap} (e : s[i]? = some x) (e2 : s[j]? = some x2) (z0 : FzH h h') (z : Fz h h' x y) (z2 : Fz h h' x2 y2) (k : K ((s.set i y).set j y2) h') : frzA K s h := ⟨_, h', z0, FzL.trans_set j (FzL.set i e z) e2 z2, k⟩

section
variable {h : AHeap} {x y : Nat} {o o' : AObj}
theorem upd_same : upd h x o x = some o := by simp [upd]
theorem upd_ne (e : y ≠ x) : upd h x o y = h y := by simp [upd, e]
theorem ne_of_fresh {p : AObj} (h1 : h x = none) (h2 : h y = some p) : y ≠ x := by rintro rfl; rw [h1] at h2; cases h2
theorem upd_none : upd h x o y = none ↔ (y ≠ x ∧ x ≠ y ∧ h y = none) := by
  unfold upd; split
  · rename_i e; simp [e]
  · rename_i e; simp [e]; intro _ e2; exact e e2.symm
theorem upd_upd : upd (upd h x o) x o' = upd h x o' := by funext z; simp only [upd]; split <;> rfl
theorem upd_comm (e : x ≠ y) : upd (upd h x o) y o' = upd (upd h y o') x o := by
  funext z; simp only [upd]
  by_cases h1 : z = x <;> by_cases h2 : z = y <;> simp_all
theorem Sub.trans {a b c : AHeap} (h1 : Sub a b) (h2 : Sub b c) : Sub a c := fun x o e => h2 x o (h1 x o e)
/-- What is new is no part of what was. -/
theorem Sub.upd {h0 : AHeap} (s : Sub h0 h) (hx : h0 x = none) : Sub h0 (E.upd h x o) := fun z p e => by
  have : z ≠ x := by rintro rfl; rw [hx] at e; cases e
  rw [upd_ne this]; exact s z p e
theorem Sub.isNone {h0 : AHeap} (s : Sub h0 h) (hx : h x = Option.none) : h0 x = Option.none := by
  cases e : h0 x with
  | none => rfl
  | some p => rw [s x p e] at hx; cases hx
theorem Sub.fresh {h0 : AHeap} (s : Sub h0 h) (hx : h x = none) : Sub h0 (E.upd h x o) := s.upd (s.isNone hx)
end

end Go.Proofs.YteijaibggalapaaGreatDoor.E
