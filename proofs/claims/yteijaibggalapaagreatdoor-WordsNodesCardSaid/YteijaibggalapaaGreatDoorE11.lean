/-
  The set of rules by which a function's code is walked ('simp only [go_sem, ..]').
-/
import Derived.Test.YteijaibggalapaaGreatDoorE10
namespace Go.Proofs.YteijaibggalapaaGreatDoor.E
open Go
set_option linter.unusedVariables false
set_option linter.unusedSimpArgs false

/-- A call that yields one value and leaves memory alone. -/
def PureA (P : Program) (f : FuncId) (args : List AV) (h : AHeap) (v : AV) : Prop := CallsA P f args h fun r h' => r = v ∧ h' = h

theorem PureA.use {P : Program} {f : FuncId} {args : List AV} {h : AHeap} {v : AV} {K : AV → AHeap → Prop} (c : PureA P f args h v) (k : K v h) : callF P f args h K :=
  (c.mono fun r h' ⟨e1, e2⟩ => by rw [e1, e2]; exact k).go

/-- A function's contract from its body: what is asked at its end stays shut. -/
theorem CallsA.enterR {P : Program} {f : FuncId} {fn : Func} {c : Code} {F : List Nat} {ac : ACode} {rs : List RV} {args : List AV} {h : AHeap} {R : AV → AHeap → Prop} (hf : P.funcs[f]? = some fn) (hb : fn.body = some c) (hname : (fn.name == "runtime.NumGoroutine") = false)
    (hc : cCode P F c = some ac) (hr : cRes P fn.results.toList = some rs)
    (he : ∀ Q : PostA, (∀ e s' h' vs h2 vs', (e = .normal ∨ e = .ret) → resAll s' h' rs = some vs → FzH h' h2 → FzL h' h2 vs vs' → R (tupA vs') h2 → Q e s' h') → exec P ac Q (args ++ List.replicate (fn.ntmps - args.length) .undef) h) : CallsA P f args h R :=
  CallsA.enter hf hb hname hc hr (he _ fun e s' h' vs h2 vs' h3 h4 h5 h6 h7 => ⟨h3, vs, vs', h2, h4, h5, h6, h7⟩)

theorem PureA.enter {P : Program} {f : FuncId} {fn : Func} {c : Code} {F : List Nat} {ac : ACode} {rs : List RV} {args : List AV} {h : AHeap} {v : AV} (hf : P.funcs[f]? = some fn) (hb : fn.body = some c) (hname : (fn.name == "runtime.NumGoroutine") = false)
    (hc : cCode P F c = some ac) (hr : cRes P fn.results.toList = some rs)
    (he : ∀ Q : PostA, (∀ e s' h' vs vs', (e = .normal ∨ e = .ret) → resAll s' h' rs = some vs → FzH h' h → FzL h' h vs vs' → tupA vs' = v → Q e s' h') → exec P ac Q (args ++ List.replicate (fn.ntmps - args.length) .undef) h) : PureA P f args h v :=
  CallsA.enterR hf hb hname hc hr fun Q hq => he Q fun e s' h' vs vs' h1 h2 h3 h4 h5 => hq e s' h' vs h vs' h1 h2 h3 h4 ⟨h5, rfl⟩

section
variable (s : List AV) (h : AHeap)
theorem resAll_nil : resAll s h [] = some [] := rfl
theorem resAll_t (n : Nat) (l : List RV) : resAll s h (.t n :: l) = (match resAll s h l with | some vs => some (s.getD n .undef :: vs) | none => none) := by
  simp only [resAll, resOne]; cases resAll s h l <;> rfl
theorem resAll_m1 (a n : Nat) (l : List RV) : resAll s h (.m a false n :: l) = (match aload h (s.getD a .undef), resAll s h l with | some v, some vs => some (v :: vs) | _, _ => none) := by
  simp only [resAll, resOne]; cases aload h (s.getD a .undef) <;> cases resAll s h l <;> simp
theorem resAll_mn (a n : Nat) (l : List RV) : resAll s h (.m a true n :: l) = (match aloads h n (s.getD a .undef), resAll s h l with | some v, some vs => some (.agg v :: vs) | _, _ => none) := by
  simp only [resAll, resOne, if_true]; cases aloads h n (s.getD a .undef) <;> cases resAll s h l <;> simp
end
theorem tupA_one (v : AV) : tupA [v] = v := rfl
theorem tupA_nil : tupA [] = .tup [] := rfl
theorem tupA_two (v u : AV) (l : List AV) : tupA (v :: u :: l) = .tup (v :: u :: l) := rfl

section
variable (k : IntKind) (a b : Int)
theorem binA_add : binA .add (.int k a) (.int k b) = some (.int k (k.wrap (a + b))) := by simp [binA]
theorem binA_sub : binA .sub (.int k a) (.int k b) = some (.int k (k.wrap (a - b))) := by simp [binA]
theorem binA_mul : binA .mul (.int k a) (.int k b) = some (.int k (k.wrap (a * b))) := by simp [binA]
theorem binA_quo (h : (b == 0) = false) : binA .quo (.int k a) (.int k b) = some (.int k (k.wrap (a.tdiv b))) := by
  have : ¬ b = 0 := by simpa using h
  simp [binA, this]
theorem binA_rem (h : (b == 0) = false) : binA .rem (.int k a) (.int k b) = some (.int k (a.tmod b)) := by
  have : ¬ b = 0 := by simpa using h
  simp [binA, this]
theorem binA_cat {x y : ByteArray} (h : ((x.size + y.size : Nat) : Int) ≤ IntKind.i64.max) : binA .add (.str x) (.str y) = some (.str (x ++ y)) := by
  have e : IntKind.i64.max = 9223372036854775807 := rfl
  rw [e] at h
  have h' : Nat.ble (x.size + y.size) 9223372036854775807 = true := Nat.ble_eq_true_of_le (by omega)
  simp only [binA, if_pos h']
theorem binA_seq {x y : ByteArray} : binA .eql (.str x) (.str y) = some (.bool (x.toList == y.toList)) := by simp only [binA]
theorem binA_sne {x y : ByteArray} : binA .neq (.str x) (.str y) = some (.bool (!(x.toList == y.toList))) := by simp only [binA]
theorem binA_eql : binA .eql (.int k a) (.int k b) = some (.bool (decide (a = b))) := by simp [binA]
theorem binA_neq : binA .neq (.int k a) (.int k b) = some (.bool (!decide (a = b))) := by simp [binA]
theorem binA_lss : binA .lss (.int k a) (.int k b) = some (.bool (decide (a < b))) := by simp [binA]
theorem binA_leq : binA .leq (.int k a) (.int k b) = some (.bool (decide (a ≤ b))) := by simp [binA]
theorem binA_gtr : binA .gtr (.int k a) (.int k b) = some (.bool (decide (b < a))) := by simp [binA]
theorem binA_geq : binA .geq (.int k a) (.int k b) = some (.bool (decide (b ≤ a))) := by simp [binA]
theorem minA_nil (x : AV) : minA x [] = some x := by simp [minA]
theorem minA_cons (r : List AV) : minA (.int k a) (.int k b :: r) = minA (.int k (if b < a then b else a)) r := by simp [minA]
theorem maxA_nil (x : AV) : maxA x [] = some x := by simp [maxA]
theorem maxA_cons (r : List AV) : maxA (.int k a) (.int k b :: r) = maxA (.int k (if a < b then b else a)) r := by simp [maxA]
end

theorem aload_ptr (h : AHeap) (id off : Nat) : aload h (.ptr id off) = (match h id with | some (.cells cs _) => cs[off]? | _ => none) := rfl
theorem aload_gp (h : AHeap) (g off : Nat) : aload h (.gp g off) = (match globs g with | some cs => cs[off]? | none => none) := rfl
theorem aload_rp (h : AHeap) (cs : List AV) : aload h (.rp cs) = cs.head? := rfl
theorem aloads_ptr (h : AHeap) (id off n : Nat) : aloads h n (.ptr id off) = (match h id with | some (.cells cs _) => if off + n ≤ cs.length then some ((cs.drop off).take n) else none | _ => none) := rfl
theorem aloads_rp (h : AHeap) (cs : List AV) (n : Nat) : aloads h n (.rp cs) = if n ≤ cs.length then some (cs.take n) else none := rfl
theorem awrite_ptr (h : AHeap) (id off : Nat) (l : List AV) : awrite h (.ptr id off) l = (match h id with | some (.cells cs tot) => if off + l.length ≤ cs.length then some (upd h id (.cells (splice cs off l) tot)) else none | _ => none) := rfl
theorem catA_nil (s : List AV) (n : Nat) : catA s n [] = some [] := rfl
theorem catA_cons (s : List AV) (n : Nat) (x : AArg) (l : List AArg) : catA s n (x :: l) = (match cellsOf (ev s x), catA s n l with | some c, some r => if c.length = n then some (c ++ r) else none | _, _ => none) := rfl
theorem fillA_nil (s cs : List AV) : fillA s cs [] = some cs := rfl
theorem fillA_cons (s cs : List AV) (off n : Nat) (x : AArg) (l : List (Nat × Nat × AArg)) : fillA s cs ((off, n, x) :: l) = (match cellsOf (ev s x) with | some c => if c.length = n ∧ off + n ≤ cs.length then fillA s (splice cs off c) l else none | none => none) := rfl
theorem lenA_sl (id off n c : Nat) : lenA false (.sl id off n c) = some (.int .i64 n) := rfl
theorem lenA_ro (cs : List AV) (n : Nat) (e : Bool) : lenA false (.ro cs n e) = some (.int .i64 n) := rfl
theorem lenA_rz : lenA false .rz = some (.int .i64 0) := rfl
theorem lenA_nils : lenA false .nils = some (.int .i64 0) := rfl
theorem co_int (k : IntKind) (n : Int) : cellsOf (.int k n) = some [.int k n] := rfl
theorem co_bool (b : Bool) : cellsOf (.bool b) = some [.bool b] := rfl
theorem co_str (b : ByteArray) : cellsOf (.str b) = some [.str b] := rfl
theorem co_ptr (a b : Nat) : cellsOf (.ptr a b) = some [.ptr a b] := rfl
theorem co_nilp : cellsOf .nilp = some [.nilp] := rfl
theorem co_sl (a b c d : Nat) : cellsOf (.sl a b c d) = some [.sl a b c d] := rfl
theorem co_nils : cellsOf .nils = some [.nils] := rfl
theorem co_ro (cs : List AV) (n : Nat) (e : Bool) : cellsOf (.ro cs n e) = some [.ro cs n e] := rfl
theorem co_rz : cellsOf .rz = some [.rz] := rfl
theorem sc_rz : scalar .rz = true := rfl
theorem co_rp (l : List AV) : cellsOf (.rp l) = some [.rp l] := rfl
theorem sc_rp (l : List AV) : scalar (.rp l) = true := rfl
theorem co_nilf : cellsOf .nilf = some [.nilf] := rfl
theorem sc_nilf : scalar .nilf = true := rfl
theorem co_bd (f : FuncId) (cs : List AV) : cellsOf (.bd f cs) = some [.bd f cs] := rfl
theorem sc_bd (f : FuncId) (cs : List AV) : scalar (.bd f cs) = true := rfl
theorem co_fn (f : FuncId) (cs : List AV) : cellsOf (.fn f cs) = some [.fn f cs] := rfl
theorem co_map (a : Nat) : cellsOf (.map a) = some [.map a] := rfl
theorem co_gp (a b) : cellsOf (.gp a b) = some [.gp a b] := rfl
theorem co_nili : cellsOf .nili = some [.nili] := rfl
theorem co_iface (t v) : cellsOf (.iface t v) = some [.iface t v] := rfl
theorem sc_nili : scalar .nili = true := rfl
theorem sc_iface (t v) : scalar (.iface t v) = true := rfl
theorem co_nilm : cellsOf .nilm = some [.nilm] := rfl
theorem co_agg (cs : List AV) : cellsOf (.agg cs) = some cs := rfl
theorem sc_int (k : IntKind) (n : Int) : scalar (.int k n) = true := rfl
theorem sc_bool (b : Bool) : scalar (.bool b) = true := rfl
theorem sc_str (b : ByteArray) : scalar (.str b) = true := rfl
theorem sc_ptr (a b : Nat) : scalar (.ptr a b) = true := rfl
theorem sc_nilp : scalar .nilp = true := rfl
theorem sc_sl (a b c d : Nat) : scalar (.sl a b c d) = true := rfl
theorem sc_nils : scalar .nils = true := rfl
theorem sc_ro (cs : List AV) (n : Nat) (e : Bool) : scalar (.ro cs n e) = true := rfl
theorem sc_fn (f : FuncId) (cs : List AV) : scalar (.fn f cs) = true := rfl
theorem sc_map (a : Nat) : scalar (.map a) = true := rfl
theorem sc_nilm : scalar .nilm = true := rfl

theorem nil_p1 : nilA .p .nilp .nilp = some true := rfl
theorem nil_p2 (a b : Nat) : nilA .p (.ptr a b) .nilp = some false := rfl
theorem nil_p3 (a b : Nat) : nilA .p .nilp (.ptr a b) = some false := rfl
theorem nil_p4 (l : List AV) : nilA .p (.rp l) .nilp = some false := rfl
theorem nil_p5 (l : List AV) : nilA .p .nilp (.rp l) = some false := rfl
theorem nil_s1 : nilA .s .nils .nils = some true := rfl
theorem nil_s2 (a b c d : Nat) : nilA .s (.sl a b c d) .nils = some false := rfl
theorem nil_s3 (a b c d : Nat) : nilA .s .nils (.sl a b c d) = some false := rfl
theorem nil_s4 (l : List AV) (n : Nat) (e : Bool) : nilA .s (.ro l (n + 1) e) .nils = some false := rfl
theorem nil_s5 (l : List AV) (n : Nat) (e : Bool) : nilA .s .nils (.ro l (n + 1) e) = some false := rfl
theorem nil_s6 : nilA .s .rz .nils = some false := rfl
theorem nil_s7 : nilA .s .nils .rz = some false := rfl
theorem nil_f1 : nilA .f .nilf .nilf = some true := rfl
theorem nil_f2 (f : FuncId) (l : List AV) : nilA .f (.fn f l) .nilf = some false := rfl
theorem nil_f3 (f : FuncId) (l : List AV) : nilA .f .nilf (.fn f l) = some false := rfl
theorem nil_m1 : nilA .m .nilm .nilm = some true := rfl
theorem nil_m2 (a : Nat) : nilA .m (.map a) .nilm = some false := rfl
theorem nil_m3 (a : Nat) : nilA .m .nilm (.map a) = some false := rfl

theorem del_same {h : AHeap} {x : Nat} {o : AObj} : del (upd h x o) x = del h x := by
  funext y; simp only [del, upd]
  split <;> rfl
theorem del_none {h : AHeap} {x : Nat} (hx : h x = none) : del h x = h := by
  funext y; simp only [del]
  split
  · rename_i e; rw [e, hx]
  · rfl

theorem kill_nil (s : List AV) : kill [] s = s := rfl
theorem kill_cons (d : Nat) (ds : List Nat) (s : List AV) : kill (d :: ds) s = kill ds (s.set d .undef) := rfl

attribute [go_sem] Bool.true_xor Bool.false_xor Bool.and_false Bool.false_and Bool.or_true Bool.true_or pl_mv pl_pick pl_alloc pl_box pl_build pl_buildSlice pl_nilCheck pl_bin pl_eqb pl_s2b pl_eqi pl_mki pl_eqn pl_eqs pl_un pl_conv pl_makeFunc pl_bindF pl_makeSlice pl_slice pl_sap pl_sliceP pl_sliceS pl_field pl_fieldAddr pl_indexAddr pl_extract pl_indexArr pl_idxS pl_idxV pl_mkMap ef_mapOp ef_loadG ef_b2s pl_lit pl_boxF pl_cap pl_len pl_min pl_max ef_store ef_storeF ef_call ef_append ef_appendN ef_copy ef_clear x_regD d_nil d_plain d_plainG d_read d_readG d_readK d_readKG readG_tt readG_ff readG_tf readG_ft d_eff0 d_effG0 d_eff d_effG x_effK stabs_nil stabs_cons rdv_f rdv_t List.contains_cons List.contains_nil Nat.reduceBEq beq_self_eq_true Bool.or_false Bool.false_or Bool.or_true Bool.true_or forall_const true_implies true_imp_iff false_imp_iff Option.map_some Option.map_none
attribute [go_sem] kill_nil kill_cons x_nil x_cons x_guard x_kput x_kput' x_put x_put' x_skip x_reg x_seq x_cond x_blL x_blS x_blC x_blR x_blD x_blB x_blK x_blT x_blX x_blY x_blF x_regX x_rangeF xX_nil xX_cons xX_mv xX_load xX_alloc xX_store xX_storeF xX_extract xX_un xX_bin xX_call xX_idx xX_fa rngA_map nxtA_map entA_eq yldF_eq xX_rng xX_nxt xX_ent xX_callY pl_bad setps x_fN x_fR x_fE x_fE' x_loop x_exit x_ret x_thenN x_thenE x_thenR x_blockN x_blockR x_blockE x_blockE' x_evt x_evc
  guard_tt guard_ff guard_tf guard_ft cond_t cond_f
  aw_mv aw_pick aw_nilCheck aw_bin aw_un_not aw_un_neg aw_eqb aw_eqi aw_mki aw_s2b aw_loadG aw_b2s aw_eqn aw_eqs aw_conv aw_makeFunc aw_bindF aw_build aw_slice aw_sap aw_sliceP aw_sliceS aw_fieldAddr aw_indexAddr idxK_sl idxK_ro aw_indexArr aw_cap aw_extract aw_len aw_min aw_max aw_alloc aw_box aw_buildSlice aw_lit aw_boxF aw_load1 aw_loadn aw_store aw_storeF aw_call aw_append aw_appendN aw_copy aw_clear aw_mkMap aw_mapOp aw_idxS aw_idxV
  binA_add binA_sub binA_mul binA_quo binA_rem binA_eql binA_neq binA_lss binA_leq binA_gtr binA_geq binA_cat binA_seq binA_sne minA_nil minA_cons maxA_nil maxA_cons
  aload_ptr aload_gp aload_rp aloads_ptr aloads_rp awrite_ptr catA_nil catA_cons fillA_nil fillA_cons lenA_sl lenA_ro lenA_nils lenA_rz nil_p1 nil_p2 nil_p3 nil_p4 nil_p5 nil_s1 nil_s2 nil_s3 nil_s4 nil_s5 nil_s6 nil_s7 nil_f1 nil_f2 nil_f3 nil_m1 nil_m2 nil_m3
  co_int co_bool co_str co_ptr co_nilp co_sl co_nils co_ro co_rz co_rp co_nilf sc_rz sc_rp sc_nilf co_fn co_bd sc_bd co_map co_gp co_nili co_iface sc_nili sc_iface co_nilm co_agg sc_int sc_bool sc_str sc_ptr sc_nilp sc_sl sc_nils sc_ro sc_fn sc_map sc_nilm
  upd_same del_same resAll_nil resAll_t resAll_m1 resAll_mn tupA_one tupA_nil tupA_two
  List.replicate List.length_cons List.length_nil List.cons_append List.nil_append List.append_nil List.getD_cons_zero List.getD_cons_succ List.set_cons_zero List.set_cons_succ List.getElem?_cons_zero List.getElem?_cons_succ
  Nat.zero_add Nat.add_zero List.drop_zero List.drop_succ_cons List.take_succ_cons List.take_zero List.take_nil List.drop_nil List.head?_cons List.map_cons List.map_nil List.all_cons List.all_nil splice

end Go.Proofs.YteijaibggalapaaGreatDoor.E
