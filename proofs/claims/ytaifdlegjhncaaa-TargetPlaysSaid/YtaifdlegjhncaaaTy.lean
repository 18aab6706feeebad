/-
  TargetPlays.
-/
import Derived.Test.YtaifdlegjhncaaaTx
import Derived.Test.YtaifdlegjhncaaaEY
namespace Go.Proofs.Ytaifdlegjhncaaa
open Go E
set_option linter.unusedVariables false
set_option linter.unusedSimpArgs false
set_option maxRecDepth 100000

theorem umod_spec (x n : Int) (hn : 0 < n) : (IntKind.u64.wrap x).tmod n = x % 18446744073709551616 % n := by
  have : IntKind.u64.wrap x = x % 18446744073709551616 := by
    simp [IntKind.wrap, IntKind.bits, IntKind.signed]
  rw [this, Int.tmod_eq_emod_of_nonneg (by omega)]

structure Ac where
  kind : Int
  r : Rt
def encA (a : Ac) : List AV := .int .i64 a.kind :: a.r.av
theorem encA_len (a : Ac) : (encA a).length = 5 := rfl
theorem encA_sca (a : Ac) : (encA a).all scalar = true := rfl

theorem tnew_bad (most : Int) (hm : ¬ (1 ≤ most ∧ most ≤ 32)) (h : AHeap) : PureA Try.prog 4 [.int .i64 most] h (.tup [.nilp, .int .i64 1]) := by
  (refine PureA.enter (ac := c4) (rs := r4) Try.func4 rfl (by decide) c4_ok r4_ok ?_; intro Q hQ; simp only [go_sem, Int.reduceEq, Int.reduceAdd, Int.reduceSub, Int.reduceMul, Nat.reduceLT, Int.reduceLT, Int.reduceLE, Int.reduceToNat, Nat.reduceAdd, Nat.reduceSub, Nat.reduceMul, Nat.reduceLeDiff, reduceCtorEq, c4, Try.ntmps4])
  by_cases g1 : most < 1
  · simp only [go_sem, Int.reduceEq, Int.reduceAdd, Int.reduceSub, Int.reduceMul, Nat.reduceLT, Int.reduceLT, Int.reduceLE, Int.reduceToNat, Nat.reduceAdd, Nat.reduceSub, Nat.reduceMul, Nat.reduceLeDiff, reduceCtorEq, g1]
    (refine hQ _ _ _ _ _ (by first | exact .inr rfl | exact .inl rfl) rfl (by first | exact FzH.refl _ | exact FzH.sub (by (repeat' (first | exact Sub.refl _ | assumption | (refine Sub.upd ?_ (by first | assumption | (simp only [*]; done) | exact Sub.isNone (by assumption) (by assumption) | exact Sub.isNone (by assumption) (by simp only [*]))))))) (FzL.refl _ _ _) ?_; try (simp only [go_sem, Int.reduceEq, Int.reduceAdd, Int.reduceSub, Int.reduceMul, Nat.reduceLT, Int.reduceLT, Int.reduceLE, Int.reduceToNat, Nat.reduceAdd, Nat.reduceSub, Nat.reduceMul, Nat.reduceLeDiff, reduceCtorEq]))
  · have g2 : 32 < most := by omega
    simp only [go_sem, Int.reduceEq, Int.reduceAdd, Int.reduceSub, Int.reduceMul, Nat.reduceLT, Int.reduceLT, Int.reduceLE, Int.reduceToNat, Nat.reduceAdd, Nat.reduceSub, Nat.reduceMul, Nat.reduceLeDiff, reduceCtorEq, g1, g2]
    (refine hQ _ _ _ _ _ (by first | exact .inr rfl | exact .inl rfl) rfl (by first | exact FzH.refl _ | exact FzH.sub (by (repeat' (first | exact Sub.refl _ | assumption | (refine Sub.upd ?_ (by first | assumption | (simp only [*]; done) | exact Sub.isNone (by assumption) (by assumption) | exact Sub.isNone (by assumption) (by simp only [*]))))))) (FzL.refl _ _ _) ?_; try (simp only [go_sem, Int.reduceEq, Int.reduceAdd, Int.reduceSub, Int.reduceMul, Nat.reduceLT, Int.reduceLT, Int.reduceLE, Int.reduceToNat, Nat.reduceAdd, Nat.reduceSub, Nat.reduceMul, Nat.reduceLeDiff, reduceCtorEq]))

theorem TB.at {h H : AHeap} {p id q : Nat} {most : Int} {f : Tr} (t : TB h p id most f H) (o : AObj) (h1 : p ≠ q) (h2 : id ≠ q) : TB (upd h q o) p id most f (upd H q o) := by
  obtain ⟨es, c, k1, rfl⟩ := t.how
  refine ⟨by rw [upd_ne h1]; exact t.hp, by rw [upd_ne h2]; exact t.hid, t.ne, t.keys, es, c, k1, ?_⟩
  rw [upd_comm h1, upd_comm h2]

/-- What holds at the head of each round. -/
structure TpIn (h : AHeap) (q : Nat) (most : Int) (p id : Nat) (f : Tr) (H : AHeap) : Prop where
  t : TB (upd h q (dT most (allR f))) p id most f H
  hq : h q = none
  ok : trOk f
  gd : tGood f
  len : (f.length : Int) ≤ most

theorem TpIn.d {h H : AHeap} {q p id : Nat} {most : Int} {f : Tr} (n : TpIn h q most p id f H) : H q = some (dT most (allR f)) := n.t.sub _ _ upd_same
theorem TpIn.sub {h H : AHeap} {q p id : Nat} {most : Int} {f : Tr} (n : TpIn h q most p id f H) : Sub h H := Sub.trans (Sub.upd (Sub.refl h) n.hq) n.t.sub
theorem TpIn.ne {h H : AHeap} {q p id : Nat} {most : Int} {f : Tr} (n : TpIn h q most p id f H) : p ≠ q ∧ id ≠ q := by
  constructor
  · rintro rfl
    have := n.t.hp
    rw [upd_same] at this; cases this
  · rintro rfl
    have := n.t.hid
    rw [upd_same] at this; cases this
theorem TpIn.set {h H H1 : AHeap} {q p id : Nat} {most : Int} {f f' : Tr} (n : TpIn h q most p id f H) (t : TB (upd h q (dT most (allR f))) p id most f' H1) (ok : trOk f') (gd : tGood f') (hl : f'.length ≤ f.length ∨ (f'.length : Int) ≤ most) : TpIn h q most p id f' (upd H1 q (dT most (allR f'))) := by
  have := t.at (dT most (allR f')) n.ne.1 n.ne.2
  rw [upd_upd] at this
  refine ⟨this, n.hq, ok, gd, ?_⟩
  have := n.len
  omega

theorem tGood_sub {f f' : Tr} (g : tGood f) (h : ∀ p ∈ f', p ∈ f) : tGood f' := fun p hp => g p (h p hp)
theorem left_len (f : Tr) (pr : Rt → Bool) : (leftF f pr).length ≤ f.length := List.length_filter_le _ _
theorem left_mem {f : Tr} {pr : Rt → Bool} : ∀ p ∈ leftF f pr, p ∈ f := fun p hp => (List.mem_filter.1 hp).1
theorem del_len (f : Tr) (n : Int) : (adel f n).length ≤ f.length := List.length_filter_le _ _
theorem del_mem {f : Tr} {n : Int} : ∀ p ∈ adel f n, p ∈ f := fun p hp => (List.mem_filter.1 (show p ∈ List.filter _ f from hp)).1

theorem learn_ok {most : Int} {f : Tr} {r : Rt} (ok : trOk f) (gd : tGood f) : trOk (learnF most f r) ∧ tGood (learnF most f r) := by
  unfold learnF
  split
  · rename_i e
    have g : okR r = true := by
      cases g : okR r with
      | true => rfl
      | false => unfold learnE at e; rw [g] at e; cases e
    refine ⟨trOk_set ok r, fun p hp => ?_⟩
    rcases mem_aset hp with rfl | hp
    · exact g
    · exact gd p hp
  · exact ⟨ok, gd⟩

theorem forget_cases (f : Tr) (n v s : Int) : (forgetN f n v s).1 = f ∨ (forgetN f n v s).1 = adel f n := by
  unfold forgetN
  split
  · split
    · exact .inl rfl
    · split
      · split
        · exact .inr rfl
        · exact .inl rfl
      · exact .inl rfl
  · exact .inl rfl

theorem forget_ok {f : Tr} (ok : trOk f) (gd : tGood f) (n v s : Int) : trOk (forgetN f n v s).1 ∧ tGood (forgetN f n v s).1 ∧ (forgetN f n v s).1.length ≤ f.length := by
  rcases forget_cases f n v s with e | e <;> rw [e]
  · exact ⟨ok, gd, Nat.le_refl _⟩
  · exact ⟨trOk_del ok n, tGood_sub gd del_mem, del_len f n⟩

theorem tall_pure {h H : AHeap} {p id : Nat} {most : Int} {f : Tr} (t : TB h p id most f H) (ok : trOk f) (hn : f.length ≤ 100) : PureA Try.prog 18 [.ptr p 0] H (.ro (cat Rt.av (allR f)) (allR f).length false) :=
  Grow.pure ((tall_spec t ok hn).mono fun r H' h => h.1)

theorem via_pos {f : Tr} (gd : tGood f) {x : Rt} (hx : x ∈ allR f) : 0 ≤ x.via := by
  have := (okR_parts (tGood_all gd hx)).2.1
  unfold isNode at this
  exact (of_decide_eq_true this).1

theorem gone_none {f : Tr} (gd : tGood f) {v : Int} (hv : v < 0) : goneN f (fun r => [v].contains r.via) = [] := by
  unfold goneN
  rw [List.filter_eq_nil_iff.2]; · rfl
  intro x hx
  have := via_pos gd hx
  simp
  omega
theorem left_none {f : Tr} (gd : tGood f) {v : Int} (hv : v < 0) : leftF f (fun r => [v].contains r.via) = f := by
  unfold leftF
  refine List.filter_eq_self.2 fun p hp => ?_
  have := (okR_parts (gd p hp)).2.1
  unfold isNode at this
  have := (of_decide_eq_true this).1
  simp
  omega
theorem pr_via {v : Int} (hv : ¬ v < 0) : (fun r : Rt => [v].contains r.via) = prG 0 v := by
  funext r
  unfold prG
  rw [if_neg hv, Bool.eq_iff_iff]
  simp
theorem pr_now {n : Int} : (fun r : Rt => decide (r.til ≤ n)) = prG n (-1) := by
  funext r
  unfold prG
  rw [if_pos (by decide)]

theorem loop_hs {α : Type} {body : PostA → List AV → AHeap → Prop} {Q : PostA} {s : List AV} {h : AHeap} (ds : List Nat) (m : α → Nat) (f : α → List AV → List AV) (I : α → AHeap → Prop) (x0 : α) (h0 : AHeap)
    (z0 : FzH h h0) (e0 : kill ds s = f x0 (kill ds s)) (i0 : I x0 h0) (round : ∀ (N : List AV → AHeap → Prop) x h', I x h' → (∀ y s' h'' h2, m y < m x → kill ds s' = f y (kill ds s) → FzH h'' h2 → I y h2 → N s' h'') → body (thenA N Q) (f x (kill ds s)) h') : loopA body Q s h :=
  loop_fz ds m (fun x => f x (kill ds s)) I x0 h0 z0 (by rw [← e0]; exact .refl _ _ _) i0 fun N x h' hi hN => round N x h' hi fun y s' h'' h2 h1 e z h3 => hN y s' h'' h2 h1 z (by rw [← e]; exact .refl _ _ _) h3

theorem gone_len {f : Tr} (h : f.length ≤ 1000) (pr : Rt → Bool) : (goneN f pr).length ≤ 4611686018427387904 := by
  unfold goneN
  rw [List.length_map]
  have := List.length_filter_le pr (allR f)
  rw [allR_len] at this
  omega

theorem rd_act {l : List Ac} {k : Nat} (hk : k < l.length) (h : AHeap) : aloads h 4 (.rp (List.drop 1 ((cat encA l).drop (k * 5)))) = some l[k].r.av := by
  rw [cat_at encA_len hk]
  have e : encA l[k] ++ cat encA (l.drop (k + 1)) = .int .i64 l[k].kind :: (l[k].r.av ++ cat encA (l.drop (k + 1))) := rfl
  rw [e, List.drop_one, List.tail_cons]
  simp only [aloads]
  rw [if_pos (by rw [List.length_append, Rt.len]; omega), List.take_append_of_le_length (by rw [Rt.len]; omega), List.take_of_length_le (by rw [Rt.len]; omega)]

set_option maxHeartbeats 8000000 in
theorem tplays_spec (most : Int) (l : List Ac) (h : AHeap) (hn : l.length ≤ 9223372036854775807) : PureA Try.prog 3 [.int .i64 most, .ro (cat encA l) l.length false] h (.bool true) := by
  have eqs_same : ∀ x : Rt, eqCells [.i, .i, .i, .i] (Rt.av x) (Rt.av x) = some true := fun x => by simp [eqCells, eqCell, Rt.av]
  have htk : ∀ x : Rt, List.take 4 (Rt.av x) = Rt.av x := fun _ => rfl
  (refine PureA.enter (ac := c3) (rs := r3) Try.func3 rfl (by decide) c3_ok r3_ok ?_; intro Q hQ; simp only [go_sem, Int.reduceEq, Int.reduceAdd, Int.reduceSub, Int.reduceMul, Nat.reduceLT, Int.reduceLT, Int.reduceLE, Int.reduceToNat, Nat.reduceAdd, Nat.reduceSub, Nat.reduceMul, Nat.reduceLeDiff, reduceCtorEq, c3, Try.ntmps3])
  by_cases hm : 1 ≤ most ∧ most ≤ 32
  · obtain ⟨hm1, hm2⟩ := hm
    have g1 : ¬ most < 1 := by omega
    have g2 : ¬ 32 < most := by omega
    refine (tnew_spec most hm1 hm2 h).use ?_
    rintro _ H ⟨p, id, rfl, tb⟩
    simp only [go_sem, Int.reduceEq, Int.reduceAdd, Int.reduceSub, Int.reduceMul, Nat.reduceLT, Int.reduceLT, Int.reduceLE, Int.reduceToNat, Nat.reduceAdd, Nat.reduceSub, Nat.reduceMul, Nat.reduceLeDiff, reduceCtorEq, g1, g2]
    intro q hq
    have hq0 : h q = none := tb.sub.isNone hq
    have hz : FzH (upd H q (.cells [.int .i64 most, .nils] 2)) (upd H q (dT most (allR []))) := fun x o e => by
      by_cases hx : x = q
      · subst hx
        rw [upd_same] at e ⊢
        cases e
        exact ⟨_, rfl, .cells (.cons (.refl _) (.cons .nils .nil))⟩
      · rw [upd_ne hx] at e ⊢
        exact ⟨o, e, .refl _⟩
    have n0 : TpIn h q most p id [] (upd H q (dT most (allR []))) := by
      obtain ⟨es, c, _, k1, k2⟩ := tb.own
      have a1 : p ≠ q := by rintro rfl; rw [k1] at hq; cases hq
      have a2 : id ≠ q := by rintro rfl; rw [k2] at hq; cases hq
      exact ⟨tb.at _ a1 a2, hq0, trOk_nil, fun p hp => by simp at hp, by simp; omega⟩
    refine loop_hs d3_0 (fun x : Nat × Tr => 60 - x.1) (fun x s => s.set 8 (.int .i64 (x.1 : Int))) (fun x H => x.1 ≤ 60 ∧ x.1 ≤ l.length ∧ TpIn h q most p id x.2 H) (0, []) (upd H q (dT most (allR []))) hz ?_ ⟨by simp, by simp, n0⟩ ?_
    · (simp only [go_sem, Int.reduceEq, Int.reduceAdd, Int.reduceSub, Int.reduceMul, Nat.reduceLT, Int.reduceLT, Int.reduceLE, Int.reduceToNat, Nat.reduceAdd, Nat.reduceSub, Nat.reduceMul, Nat.reduceLeDiff, reduceCtorEq, d3_0] <;> rfl)
    rintro N ⟨k, f⟩ H1 ⟨hk, hkl, np⟩ hN
    simp only at hk hkl np hN
    clear tb n0 hz
    simp only [go_sem, Int.reduceEq, Int.reduceAdd, Int.reduceSub, Int.reduceMul, Nat.reduceLT, Int.reduceLT, Int.reduceLE, Int.reduceToNat, Nat.reduceAdd, Nat.reduceSub, Nat.reduceMul, Nat.reduceLeDiff, reduceCtorEq, d3_0]
    have hadd := wadd1 (k := k) (by omega)
    have hlen := np.len
    by_cases hlt : k < l.length ∧ (k : Int) < 60
    · obtain ⟨h1, h2⟩ := hlt
      have ra := rd_act h1
      have q0 : ∀ t : Ac, (encA t)[0]? = some (.int .i64 t.kind) := fun _ => rfl
      have r0 := fun h' => (rd_first (h := h') encA_len (by omega) h1).trans (q0 _)
      have e1 := umod_spec l[k].kind 5 (by omega)
      have m1 : 0 ≤ l[k].kind % 18446744073709551616 % 5 ∧ l[k].kind % 18446744073709551616 % 5 < 5 := by omega
      generalize l[k] = a at *
      simp only [go_sem, Int.reduceEq, Int.reduceAdd, Int.reduceSub, Int.reduceMul, Nat.reduceLT, Int.reduceLT, Int.reduceLE, Int.reduceToNat, Nat.reduceAdd, Nat.reduceSub, Nat.reduceMul, Nat.reduceLeDiff, reduceCtorEq, h1, h2, ra, r0, Rt.len, Rt.sca]
      intro u hu
      simp only [go_sem, Int.reduceEq, Int.reduceAdd, Int.reduceSub, Int.reduceMul, Nat.reduceLT, Int.reduceLT, Int.reduceLE, Int.reduceToNat, Nat.reduceAdd, Nat.reduceSub, Nat.reduceMul, Nat.reduceLeDiff, reduceCtorEq, Rt.av, del_same, del_none hu, r0, h1, e1, show ((5 : Int) == 0) = false from rfl]
      generalize a.kind % 18446744073709551616 % 5 = M at *
      have hpc := np.d
      have leN : f.length ≤ 1000 := by omega
      rcases (show M = 0 ∨ M = 1 ∨ M = 2 ∨ (M = 3 ∧ a.r.via < 0) ∨ (M = 3 ∧ ¬ a.r.via < 0) ∨ M = 4 by omega) with rfl | rfl | rfl | ⟨rfl, hv⟩ | ⟨rfl, hv⟩ | rfl
      · simp only [go_sem, Int.reduceEq, Int.reduceAdd, Int.reduceSub, Int.reduceMul, Nat.reduceLT, Int.reduceLT, Int.reduceLE, Int.reduceToNat, Nat.reduceAdd, Nat.reduceSub, Nat.reduceMul, Nat.reduceLeDiff, reduceCtorEq, show decide ((0 : Int) = 0) = true from rfl]
        refine (to19_spec a.r _).use ?_
        simp only [go_sem, Int.reduceEq, Int.reduceAdd, Int.reduceSub, Int.reduceMul, Nat.reduceLT, Int.reduceLT, Int.reduceLE, Int.reduceToNat, Nat.reduceAdd, Nat.reduceSub, Nat.reduceMul, Nat.reduceLeDiff, reduceCtorEq]
        refine (tlearn_spec np.t a.r).use ?_
        rintro _ H2 ⟨rfl, t2⟩
        obtain ⟨ok2, gd2⟩ := learn_ok (most := most) (r := a.r) np.ok np.gd
        have np2 := np.set t2 ok2 gd2 (.inr (learnF_len hlen))
        simp only [go_sem, Int.reduceEq, Int.reduceAdd, Int.reduceSub, Int.reduceMul, Nat.reduceLT, Int.reduceLT, Int.reduceLE, Int.reduceToNat, Nat.reduceAdd, Nat.reduceSub, Nat.reduceMul, Nat.reduceLeDiff, reduceCtorEq]
        refine (rlearn_spec (most := most) np.ok np.gd a.r (t2.sub _ _ upd_same) leN).use ?_
        rintro _ H3 ⟨rfl, rfl⟩
        simp only [go_sem, Int.reduceEq, Int.reduceAdd, Int.reduceSub, Int.reduceMul, Nat.reduceLT, Int.reduceLT, Int.reduceLE, Int.reduceToNat, Nat.reduceAdd, Nat.reduceSub, Nat.reduceMul, Nat.reduceLeDiff, reduceCtorEq]
        refine (to19_spec a.r _).use ?_
        simp only [go_sem, Int.reduceEq, Int.reduceAdd, Int.reduceSub, Int.reduceMul, Nat.reduceLT, Int.reduceLT, Int.reduceLE, Int.reduceToNat, Nat.reduceAdd, Nat.reduceSub, Nat.reduceMul, Nat.reduceLeDiff, reduceCtorEq]
        refine (tcheck_spec a.r _).use ?_
        simp only [go_sem, Int.reduceEq, Int.reduceAdd, Int.reduceSub, Int.reduceMul, Nat.reduceLT, Int.reduceLT, Int.reduceLE, Int.reduceToNat, Nat.reduceAdd, Nat.reduceSub, Nat.reduceMul, Nat.reduceLeDiff, reduceCtorEq]
        refine (rright_spec a.r _).use ?_
        have hE : ((decide ((if okR a.r = true then (0 : Int) else 1) = 0)) == okR a.r) = true := by cases okR a.r <;> rfl
        simp only [go_sem, Int.reduceEq, Int.reduceAdd, Int.reduceSub, Int.reduceMul, Nat.reduceLT, Int.reduceLT, Int.reduceLE, Int.reduceToNat, Nat.reduceAdd, Nat.reduceSub, Nat.reduceMul, Nat.reduceLeDiff, reduceCtorEq, hE]
        have hz := FzH.refl (upd H2 q (dT most (allR (learnF most f a.r))))
        refine PureA.useH (tall_pure np2.t np2.ok (by have := np2.len; omega)) hz (FzL.refl _ _ _) ?_
        have len2 := np2.len
        have hd2 := np2.d
        generalize hH2 : (upd H2 q (dT most (allR (learnF most f a.r)))) = H2' at *
        generalize hf2 : (learnF most f a.r) = f2 at *
        have hal := allR_len f2
        have hlk : ∀ (j : Nat) (hj : j < (allR f2).length), alook f2 (allR f2)[j].node = some (allR f2)[j] := fun j hj => valR_look np2.ok (mem_allN.1 (List.getElem_mem hj))
        have hdc2 := hd2
        unfold dT at hdc2
        have d1 : decide (f2.length = (allR f2).length) = true := decide_eq_true (by omega)
        have d2 : decide ((f2.length : Int) = ((allR f2).length : Int)) = true := decide_eq_true (by omega)
        simp only [go_sem, Int.reduceEq, Int.reduceAdd, Int.reduceSub, Int.reduceMul, Nat.reduceLT, Int.reduceLT, Int.reduceLE, Int.reduceToNat, Nat.reduceAdd, Nat.reduceSub, Nat.reduceMul, Nat.reduceLeDiff, reduceCtorEq, hdc2, decide_true, Bool.not_true, Bool.not_false]
        refine (tlen_spec np2.t).use ?_
        have hgt := fun n => tget_spec np2.t n
        have hix := idx_allR np2.ok a.r.node
        have hfd := rfind_spec hd2 (by omega) a.r.node
        simp only [go_sem, Int.reduceEq, Int.reduceAdd, Int.reduceSub, Int.reduceMul, Nat.reduceLT, Int.reduceLT, Int.reduceLE, Int.reduceToNat, Nat.reduceAdd, Nat.reduceSub, Nat.reduceMul, Nat.reduceLeDiff, reduceCtorEq, hdc2, d1, d2]
        generalize allR f2 = L at *
        refine loop_st d3_1 (fun j : Nat => L.length - j) (fun j s => s.set 13 (.int .i64 (j : Int))) (fun j H => j ≤ L.length ∧ H = H2') 0 ?_ ⟨Nat.zero_le _, rfl⟩ ?_
        · (simp only [go_sem, Int.reduceEq, Int.reduceAdd, Int.reduceSub, Int.reduceMul, Nat.reduceLT, Int.reduceLT, Int.reduceLE, Int.reduceToNat, Nat.reduceAdd, Nat.reduceSub, Nat.reduceMul, Nat.reduceLeDiff, reduceCtorEq, d3_1] <;> rfl)
        rintro N2 j H5 ⟨hj, eH⟩ hN2
        rw [eH]
        simp only [go_sem, Int.reduceEq, Int.reduceAdd, Int.reduceSub, Int.reduceMul, Nat.reduceLT, Int.reduceLT, Int.reduceLE, Int.reduceToNat, Nat.reduceAdd, Nat.reduceSub, Nat.reduceMul, Nat.reduceLeDiff, reduceCtorEq, d3_1]
        have haddj := wadd1 (k := j) (by omega)
        by_cases hjl : j < L.length
        · have q0 : ∀ t : Rt, (Rt.av t)[0]? = some (.int .i64 t.node) := fun _ => rfl
          have r0 := fun h' => (rd_first (h := h') Rt.len (by omega) hjl).trans (q0 _)
          have rj : ∀ h', aloads h' 4 (.rp ((cat Rt.av L).drop (j * 4))) = some (Rt.av L[j]) := fun h' => rd_all (h := h') Rt.len hjl
          have hg := hgt L[j].node
          rw [hlk j hjl] at hg
          simp only [Option.getD_some, Option.isSome_some, if_true] at hg
          have rjl : 4 ≤ (List.drop (j * 4) (cat Rt.av L)).length := by rw [List.length_drop, cat_len Rt.len]; omega
          have rjt : List.take 4 (List.drop (j * 4) (cat Rt.av L)) = L[j].av := by
            rw [cat_at Rt.len hjl]
            exact List.take_left' rfl
          simp only [go_sem, Int.reduceEq, Int.reduceAdd, Int.reduceSub, Int.reduceMul, Nat.reduceLT, Int.reduceLT, Int.reduceLE, Int.reduceToNat, Nat.reduceAdd, Nat.reduceSub, Nat.reduceMul, Nat.reduceLeDiff, reduceCtorEq, hjl, r0]
          refine hg.use ?_
          simp only [go_sem, Int.reduceEq, Int.reduceAdd, Int.reduceSub, Int.reduceMul, Nat.reduceLT, Int.reduceLT, Int.reduceLE, Int.reduceToNat, Nat.reduceAdd, Nat.reduceSub, Nat.reduceMul, Nat.reduceLeDiff, reduceCtorEq, Rt.len, Rt.sca]
          intro w hw
          simp only [go_sem, Int.reduceEq, Int.reduceAdd, Int.reduceSub, Int.reduceMul, Nat.reduceLT, Int.reduceLT, Int.reduceLE, Int.reduceToNat, Nat.reduceAdd, Nat.reduceSub, Nat.reduceMul, Nat.reduceLeDiff, reduceCtorEq, del_same, del_none hw, hjl, rjl, rjt, hdc2]
          refine (of19_spec L[j] _).use ?_
          simp only [go_sem, Int.reduceEq, Int.reduceAdd, Int.reduceSub, Int.reduceMul, Nat.reduceLT, Int.reduceLT, Int.reduceLE, Int.reduceToNat, Nat.reduceAdd, Nat.reduceSub, Nat.reduceMul, Nat.reduceLeDiff, reduceCtorEq, hdc2, hjl, rjl, rjt, htk, eqs_same, haddj, Rt.len]
          refine hN2 (j + 1) _ _ (by omega) ?_ ⟨hjl, rfl⟩
          simp only [go_sem, Int.reduceEq, Int.reduceAdd, Int.reduceSub, Int.reduceMul, Nat.reduceLT, Int.reduceLT, Int.reduceLE, Int.reduceToNat, Nat.reduceAdd, Nat.reduceSub, Nat.reduceMul, Nat.reduceLeDiff, reduceCtorEq, d3_1]
        · have hg := hgt a.r.node
          simp only [go_sem, Int.reduceEq, Int.reduceAdd, Int.reduceSub, Int.reduceMul, Nat.reduceLT, Int.reduceLT, Int.reduceLE, Int.reduceToNat, Nat.reduceAdd, Nat.reduceSub, Nat.reduceMul, Nat.reduceLeDiff, reduceCtorEq, hjl]
          refine frz_id ?_
          simp only [go_sem, Int.reduceEq, Int.reduceAdd, Int.reduceSub, Int.reduceMul, Nat.reduceLT, Int.reduceLT, Int.reduceLE, Int.reduceToNat, Nat.reduceAdd, Nat.reduceSub, Nat.reduceMul, Nat.reduceLeDiff, reduceCtorEq]
          rcases hix with ⟨i1, i2⟩ | ⟨i, hi, i1, i2, i3⟩
          · rw [i1] at hg
            rw [i2] at hfd
            simp only [Option.getD_none, Option.isSome_none, Bool.false_eq_true, if_false] at hg
            refine hg.use ?_
            simp only [go_sem, Int.reduceEq, Int.reduceAdd, Int.reduceSub, Int.reduceMul, Nat.reduceLT, Int.reduceLT, Int.reduceLE, Int.reduceToNat, Nat.reduceAdd, Nat.reduceSub, Nat.reduceMul, Nat.reduceLeDiff, reduceCtorEq, Rt.len, Rt.sca]
            intro w hw
            simp only [go_sem, Int.reduceEq, Int.reduceAdd, Int.reduceSub, Int.reduceMul, Nat.reduceLT, Int.reduceLT, Int.reduceLE, Int.reduceToNat, Nat.reduceAdd, Nat.reduceSub, Nat.reduceMul, Nat.reduceLeDiff, reduceCtorEq, del_same, del_none hw]
            refine hfd.use ?_
            simp only [go_sem, Int.reduceEq, Int.reduceAdd, Int.reduceSub, Int.reduceMul, Nat.reduceLT, Int.reduceLT, Int.reduceLE, Int.reduceToNat, Nat.reduceAdd, Nat.reduceSub, Nat.reduceMul, Nat.reduceLeDiff, reduceCtorEq, hadd]
            refine hN (k + 1, f2) _ _ _ (by simp only; omega) ?_ (.refl _) ⟨by simp only; omega, h1, np2⟩
            simp (config := { maxSteps := 2000000 }) only [go_sem, d3_0]
          · rw [i2] at hg
            rw [i3] at hfd
            simp only [Option.getD_some, Option.isSome_some, if_true] at hg
            have hi0 : (0 : Int) ≤ (i : Int) := by omega
            refine hg.use ?_
            simp only [go_sem, Int.reduceEq, Int.reduceAdd, Int.reduceSub, Int.reduceMul, Nat.reduceLT, Int.reduceLT, Int.reduceLE, Int.reduceToNat, Nat.reduceAdd, Nat.reduceSub, Nat.reduceMul, Nat.reduceLeDiff, reduceCtorEq, Rt.len, Rt.sca]
            intro w hw
            simp only [go_sem, Int.reduceEq, Int.reduceAdd, Int.reduceSub, Int.reduceMul, Nat.reduceLT, Int.reduceLT, Int.reduceLE, Int.reduceToNat, Nat.reduceAdd, Nat.reduceSub, Nat.reduceMul, Nat.reduceLeDiff, reduceCtorEq, del_same, del_none hw]
            refine hfd.use ?_
            simp only [go_sem, Int.reduceEq, Int.reduceAdd, Int.reduceSub, Int.reduceMul, Nat.reduceLT, Int.reduceLT, Int.reduceLE, Int.reduceToNat, Nat.reduceAdd, Nat.reduceSub, Nat.reduceMul, Nat.reduceLeDiff, reduceCtorEq, hi0, hadd]
            refine hN (k + 1, f2) _ _ _ (by simp only; omega) ?_ (.refl _) ⟨by simp only; omega, h1, np2⟩
            simp (config := { maxSteps := 2000000 }) only [go_sem, d3_0]

      · simp only [go_sem, Int.reduceEq, Int.reduceAdd, Int.reduceSub, Int.reduceMul, Nat.reduceLT, Int.reduceLT, Int.reduceLE, Int.reduceToNat, Nat.reduceAdd, Nat.reduceSub, Nat.reduceMul, Nat.reduceLeDiff, reduceCtorEq, show decide ((1 : Int) = 0) = false from rfl, show decide ((1 : Int) = 1) = true from rfl]
        refine (tforget_spec np.t a.r.node a.r.via a.r.sq).use ?_
        rintro _ H2 ⟨rfl, t2⟩
        obtain ⟨ok2, gd2, l2⟩ := forget_ok np.ok np.gd a.r.node a.r.via a.r.sq
        have np2 := np.set t2 ok2 gd2 (.inl l2)
        simp only [go_sem, Int.reduceEq, Int.reduceAdd, Int.reduceSub, Int.reduceMul, Nat.reduceLT, Int.reduceLT, Int.reduceLE, Int.reduceToNat, Nat.reduceAdd, Nat.reduceSub, Nat.reduceMul, Nat.reduceLeDiff, reduceCtorEq]
        refine (rforget_spec np.ok np.gd a.r.node a.r.via a.r.sq (t2.sub _ _ upd_same) leN).use ?_
        rintro _ H3 ⟨rfl, rfl⟩
        simp only [go_sem, Int.reduceEq, Int.reduceAdd, Int.reduceSub, Int.reduceMul, Nat.reduceLT, Int.reduceLT, Int.reduceLE, Int.reduceToNat, Nat.reduceAdd, Nat.reduceSub, Nat.reduceMul, Nat.reduceLeDiff, reduceCtorEq]
        have hz := FzH.refl (upd H2 q (dT most (allR (forgetN f a.r.node a.r.via a.r.sq).1)))
        refine PureA.useH (tall_pure np2.t np2.ok (by have := np2.len; omega)) hz (FzL.refl _ _ _) ?_
        have len2 := np2.len
        have hd2 := np2.d
        generalize hH2 : (upd H2 q (dT most (allR (forgetN f a.r.node a.r.via a.r.sq).1))) = H2' at *
        generalize hf2 : ((forgetN f a.r.node a.r.via a.r.sq).1) = f2 at *
        have hal := allR_len f2
        have hlk : ∀ (j : Nat) (hj : j < (allR f2).length), alook f2 (allR f2)[j].node = some (allR f2)[j] := fun j hj => valR_look np2.ok (mem_allN.1 (List.getElem_mem hj))
        have hdc2 := hd2
        unfold dT at hdc2
        have d1 : decide (f2.length = (allR f2).length) = true := decide_eq_true (by omega)
        have d2 : decide ((f2.length : Int) = ((allR f2).length : Int)) = true := decide_eq_true (by omega)
        simp only [go_sem, Int.reduceEq, Int.reduceAdd, Int.reduceSub, Int.reduceMul, Nat.reduceLT, Int.reduceLT, Int.reduceLE, Int.reduceToNat, Nat.reduceAdd, Nat.reduceSub, Nat.reduceMul, Nat.reduceLeDiff, reduceCtorEq, hdc2, decide_true, Bool.not_true, Bool.not_false]
        refine (tlen_spec np2.t).use ?_
        have hgt := fun n => tget_spec np2.t n
        have hix := idx_allR np2.ok a.r.node
        have hfd := rfind_spec hd2 (by omega) a.r.node
        simp only [go_sem, Int.reduceEq, Int.reduceAdd, Int.reduceSub, Int.reduceMul, Nat.reduceLT, Int.reduceLT, Int.reduceLE, Int.reduceToNat, Nat.reduceAdd, Nat.reduceSub, Nat.reduceMul, Nat.reduceLeDiff, reduceCtorEq, hdc2, d1, d2]
        generalize allR f2 = L at *
        refine loop_st d3_1 (fun j : Nat => L.length - j) (fun j s => s.set 13 (.int .i64 (j : Int))) (fun j H => j ≤ L.length ∧ H = H2') 0 ?_ ⟨Nat.zero_le _, rfl⟩ ?_
        · (simp only [go_sem, Int.reduceEq, Int.reduceAdd, Int.reduceSub, Int.reduceMul, Nat.reduceLT, Int.reduceLT, Int.reduceLE, Int.reduceToNat, Nat.reduceAdd, Nat.reduceSub, Nat.reduceMul, Nat.reduceLeDiff, reduceCtorEq, d3_1] <;> rfl)
        rintro N2 j H5 ⟨hj, eH⟩ hN2
        rw [eH]
        simp only [go_sem, Int.reduceEq, Int.reduceAdd, Int.reduceSub, Int.reduceMul, Nat.reduceLT, Int.reduceLT, Int.reduceLE, Int.reduceToNat, Nat.reduceAdd, Nat.reduceSub, Nat.reduceMul, Nat.reduceLeDiff, reduceCtorEq, d3_1]
        have haddj := wadd1 (k := j) (by omega)
        by_cases hjl : j < L.length
        · have q0 : ∀ t : Rt, (Rt.av t)[0]? = some (.int .i64 t.node) := fun _ => rfl
          have r0 := fun h' => (rd_first (h := h') Rt.len (by omega) hjl).trans (q0 _)
          have rj : ∀ h', aloads h' 4 (.rp ((cat Rt.av L).drop (j * 4))) = some (Rt.av L[j]) := fun h' => rd_all (h := h') Rt.len hjl
          have hg := hgt L[j].node
          rw [hlk j hjl] at hg
          simp only [Option.getD_some, Option.isSome_some, if_true] at hg
          have rjl : 4 ≤ (List.drop (j * 4) (cat Rt.av L)).length := by rw [List.length_drop, cat_len Rt.len]; omega
          have rjt : List.take 4 (List.drop (j * 4) (cat Rt.av L)) = L[j].av := by
            rw [cat_at Rt.len hjl]
            exact List.take_left' rfl
          simp only [go_sem, Int.reduceEq, Int.reduceAdd, Int.reduceSub, Int.reduceMul, Nat.reduceLT, Int.reduceLT, Int.reduceLE, Int.reduceToNat, Nat.reduceAdd, Nat.reduceSub, Nat.reduceMul, Nat.reduceLeDiff, reduceCtorEq, hjl, r0]
          refine hg.use ?_
          simp only [go_sem, Int.reduceEq, Int.reduceAdd, Int.reduceSub, Int.reduceMul, Nat.reduceLT, Int.reduceLT, Int.reduceLE, Int.reduceToNat, Nat.reduceAdd, Nat.reduceSub, Nat.reduceMul, Nat.reduceLeDiff, reduceCtorEq, Rt.len, Rt.sca]
          intro w hw
          simp only [go_sem, Int.reduceEq, Int.reduceAdd, Int.reduceSub, Int.reduceMul, Nat.reduceLT, Int.reduceLT, Int.reduceLE, Int.reduceToNat, Nat.reduceAdd, Nat.reduceSub, Nat.reduceMul, Nat.reduceLeDiff, reduceCtorEq, del_same, del_none hw, hjl, rjl, rjt, hdc2]
          refine (of19_spec L[j] _).use ?_
          simp only [go_sem, Int.reduceEq, Int.reduceAdd, Int.reduceSub, Int.reduceMul, Nat.reduceLT, Int.reduceLT, Int.reduceLE, Int.reduceToNat, Nat.reduceAdd, Nat.reduceSub, Nat.reduceMul, Nat.reduceLeDiff, reduceCtorEq, hdc2, hjl, rjl, rjt, htk, eqs_same, haddj, Rt.len]
          refine hN2 (j + 1) _ _ (by omega) ?_ ⟨hjl, rfl⟩
          simp only [go_sem, Int.reduceEq, Int.reduceAdd, Int.reduceSub, Int.reduceMul, Nat.reduceLT, Int.reduceLT, Int.reduceLE, Int.reduceToNat, Nat.reduceAdd, Nat.reduceSub, Nat.reduceMul, Nat.reduceLeDiff, reduceCtorEq, d3_1]
        · have hg := hgt a.r.node
          simp only [go_sem, Int.reduceEq, Int.reduceAdd, Int.reduceSub, Int.reduceMul, Nat.reduceLT, Int.reduceLT, Int.reduceLE, Int.reduceToNat, Nat.reduceAdd, Nat.reduceSub, Nat.reduceMul, Nat.reduceLeDiff, reduceCtorEq, hjl]
          refine frz_id ?_
          simp only [go_sem, Int.reduceEq, Int.reduceAdd, Int.reduceSub, Int.reduceMul, Nat.reduceLT, Int.reduceLT, Int.reduceLE, Int.reduceToNat, Nat.reduceAdd, Nat.reduceSub, Nat.reduceMul, Nat.reduceLeDiff, reduceCtorEq]
          rcases hix with ⟨i1, i2⟩ | ⟨i, hi, i1, i2, i3⟩
          · rw [i1] at hg
            rw [i2] at hfd
            simp only [Option.getD_none, Option.isSome_none, Bool.false_eq_true, if_false] at hg
            refine hg.use ?_
            simp only [go_sem, Int.reduceEq, Int.reduceAdd, Int.reduceSub, Int.reduceMul, Nat.reduceLT, Int.reduceLT, Int.reduceLE, Int.reduceToNat, Nat.reduceAdd, Nat.reduceSub, Nat.reduceMul, Nat.reduceLeDiff, reduceCtorEq, Rt.len, Rt.sca]
            intro w hw
            simp only [go_sem, Int.reduceEq, Int.reduceAdd, Int.reduceSub, Int.reduceMul, Nat.reduceLT, Int.reduceLT, Int.reduceLE, Int.reduceToNat, Nat.reduceAdd, Nat.reduceSub, Nat.reduceMul, Nat.reduceLeDiff, reduceCtorEq, del_same, del_none hw]
            refine hfd.use ?_
            simp only [go_sem, Int.reduceEq, Int.reduceAdd, Int.reduceSub, Int.reduceMul, Nat.reduceLT, Int.reduceLT, Int.reduceLE, Int.reduceToNat, Nat.reduceAdd, Nat.reduceSub, Nat.reduceMul, Nat.reduceLeDiff, reduceCtorEq, hadd]
            refine hN (k + 1, f2) _ _ _ (by simp only; omega) ?_ (.refl _) ⟨by simp only; omega, h1, np2⟩
            simp (config := { maxSteps := 2000000 }) only [go_sem, d3_0]
          · rw [i2] at hg
            rw [i3] at hfd
            simp only [Option.getD_some, Option.isSome_some, if_true] at hg
            have hi0 : (0 : Int) ≤ (i : Int) := by omega
            refine hg.use ?_
            simp only [go_sem, Int.reduceEq, Int.reduceAdd, Int.reduceSub, Int.reduceMul, Nat.reduceLT, Int.reduceLT, Int.reduceLE, Int.reduceToNat, Nat.reduceAdd, Nat.reduceSub, Nat.reduceMul, Nat.reduceLeDiff, reduceCtorEq, Rt.len, Rt.sca]
            intro w hw
            simp only [go_sem, Int.reduceEq, Int.reduceAdd, Int.reduceSub, Int.reduceMul, Nat.reduceLT, Int.reduceLT, Int.reduceLE, Int.reduceToNat, Nat.reduceAdd, Nat.reduceSub, Nat.reduceMul, Nat.reduceLeDiff, reduceCtorEq, del_same, del_none hw]
            refine hfd.use ?_
            simp only [go_sem, Int.reduceEq, Int.reduceAdd, Int.reduceSub, Int.reduceMul, Nat.reduceLT, Int.reduceLT, Int.reduceLE, Int.reduceToNat, Nat.reduceAdd, Nat.reduceSub, Nat.reduceMul, Nat.reduceLeDiff, reduceCtorEq, hi0, hadd]
            refine hN (k + 1, f2) _ _ _ (by simp only; omega) ?_ (.refl _) ⟨by simp only; omega, h1, np2⟩
            simp (config := { maxSteps := 2000000 }) only [go_sem, d3_0]

      · simp only [go_sem, Int.reduceEq, Int.reduceAdd, Int.reduceSub, Int.reduceMul, Nat.reduceLT, Int.reduceLT, Int.reduceLE, Int.reduceToNat, Nat.reduceAdd, Nat.reduceSub, Nat.reduceMul, Nat.reduceLeDiff, reduceCtorEq, show decide ((2 : Int) = 0) = false from rfl, show decide ((2 : Int) = 1) = false from rfl, show decide ((2 : Int) = 2) = true from rfl]
        refine (texpire_spec np.t np.ok leN a.r.til).use ?_
        rintro _ H2 ⟨rfl, t2⟩
        rw [pr_now] at t2
        have np2 := np.set t2 (leftF_ok np.ok _) (tGood_sub np.gd left_mem) (.inl (left_len f _))
        simp only [go_sem, Int.reduceEq, Int.reduceAdd, Int.reduceSub, Int.reduceMul, Nat.reduceLT, Int.reduceLT, Int.reduceLE, Int.reduceToNat, Nat.reduceAdd, Nat.reduceSub, Nat.reduceMul, Nat.reduceLeDiff, reduceCtorEq]
        refine (rgone_spec np.ok a.r.til (-1) (t2.sub _ _ upd_same) leN).use ?_
        rintro _ H3 ⟨rfl, rfl⟩
        rw [pr_now]
        have hgl := gone_len leN (prG a.r.til (-1))
        simp only [go_sem, Int.reduceEq, Int.reduceAdd, Int.reduceSub, Int.reduceMul, Nat.reduceLT, Int.reduceLT, Int.reduceLE, Int.reduceToNat, Nat.reduceAdd, Nat.reduceSub, Nat.reduceMul, Nat.reduceLeDiff, reduceCtorEq]
        refine (same10_spec _ _ false false _ hgl).use ?_
        simp only [go_sem, Int.reduceEq, Int.reduceAdd, Int.reduceSub, Int.reduceMul, Nat.reduceLT, Int.reduceLT, Int.reduceLE, Int.reduceToNat, Nat.reduceAdd, Nat.reduceSub, Nat.reduceMul, Nat.reduceLeDiff, reduceCtorEq]
        have hz := FzH.refl (upd H2 q (dT most (allR (leftF f (prG a.r.til (-1))))))
        refine PureA.useH (tall_pure np2.t np2.ok (by have := np2.len; omega)) hz (FzL.refl _ _ _) ?_
        have len2 := np2.len
        have hd2 := np2.d
        generalize hH2 : (upd H2 q (dT most (allR (leftF f (prG a.r.til (-1)))))) = H2' at *
        generalize hf2 : (leftF f (prG a.r.til (-1))) = f2 at *
        have hal := allR_len f2
        have hlk : ∀ (j : Nat) (hj : j < (allR f2).length), alook f2 (allR f2)[j].node = some (allR f2)[j] := fun j hj => valR_look np2.ok (mem_allN.1 (List.getElem_mem hj))
        have hdc2 := hd2
        unfold dT at hdc2
        have d1 : decide (f2.length = (allR f2).length) = true := decide_eq_true (by omega)
        have d2 : decide ((f2.length : Int) = ((allR f2).length : Int)) = true := decide_eq_true (by omega)
        simp only [go_sem, Int.reduceEq, Int.reduceAdd, Int.reduceSub, Int.reduceMul, Nat.reduceLT, Int.reduceLT, Int.reduceLE, Int.reduceToNat, Nat.reduceAdd, Nat.reduceSub, Nat.reduceMul, Nat.reduceLeDiff, reduceCtorEq, hdc2, decide_true, Bool.not_true, Bool.not_false]
        refine (tlen_spec np2.t).use ?_
        have hgt := fun n => tget_spec np2.t n
        have hix := idx_allR np2.ok a.r.node
        have hfd := rfind_spec hd2 (by omega) a.r.node
        simp only [go_sem, Int.reduceEq, Int.reduceAdd, Int.reduceSub, Int.reduceMul, Nat.reduceLT, Int.reduceLT, Int.reduceLE, Int.reduceToNat, Nat.reduceAdd, Nat.reduceSub, Nat.reduceMul, Nat.reduceLeDiff, reduceCtorEq, hdc2, d1, d2]
        generalize allR f2 = L at *
        refine loop_st d3_1 (fun j : Nat => L.length - j) (fun j s => s.set 13 (.int .i64 (j : Int))) (fun j H => j ≤ L.length ∧ H = H2') 0 ?_ ⟨Nat.zero_le _, rfl⟩ ?_
        · (simp only [go_sem, Int.reduceEq, Int.reduceAdd, Int.reduceSub, Int.reduceMul, Nat.reduceLT, Int.reduceLT, Int.reduceLE, Int.reduceToNat, Nat.reduceAdd, Nat.reduceSub, Nat.reduceMul, Nat.reduceLeDiff, reduceCtorEq, d3_1] <;> rfl)
        rintro N2 j H5 ⟨hj, eH⟩ hN2
        rw [eH]
        simp only [go_sem, Int.reduceEq, Int.reduceAdd, Int.reduceSub, Int.reduceMul, Nat.reduceLT, Int.reduceLT, Int.reduceLE, Int.reduceToNat, Nat.reduceAdd, Nat.reduceSub, Nat.reduceMul, Nat.reduceLeDiff, reduceCtorEq, d3_1]
        have haddj := wadd1 (k := j) (by omega)
        by_cases hjl : j < L.length
        · have q0 : ∀ t : Rt, (Rt.av t)[0]? = some (.int .i64 t.node) := fun _ => rfl
          have r0 := fun h' => (rd_first (h := h') Rt.len (by omega) hjl).trans (q0 _)
          have rj : ∀ h', aloads h' 4 (.rp ((cat Rt.av L).drop (j * 4))) = some (Rt.av L[j]) := fun h' => rd_all (h := h') Rt.len hjl
          have hg := hgt L[j].node
          rw [hlk j hjl] at hg
          simp only [Option.getD_some, Option.isSome_some, if_true] at hg
          have rjl : 4 ≤ (List.drop (j * 4) (cat Rt.av L)).length := by rw [List.length_drop, cat_len Rt.len]; omega
          have rjt : List.take 4 (List.drop (j * 4) (cat Rt.av L)) = L[j].av := by
            rw [cat_at Rt.len hjl]
            exact List.take_left' rfl
          simp only [go_sem, Int.reduceEq, Int.reduceAdd, Int.reduceSub, Int.reduceMul, Nat.reduceLT, Int.reduceLT, Int.reduceLE, Int.reduceToNat, Nat.reduceAdd, Nat.reduceSub, Nat.reduceMul, Nat.reduceLeDiff, reduceCtorEq, hjl, r0]
          refine hg.use ?_
          simp only [go_sem, Int.reduceEq, Int.reduceAdd, Int.reduceSub, Int.reduceMul, Nat.reduceLT, Int.reduceLT, Int.reduceLE, Int.reduceToNat, Nat.reduceAdd, Nat.reduceSub, Nat.reduceMul, Nat.reduceLeDiff, reduceCtorEq, Rt.len, Rt.sca]
          intro w hw
          simp only [go_sem, Int.reduceEq, Int.reduceAdd, Int.reduceSub, Int.reduceMul, Nat.reduceLT, Int.reduceLT, Int.reduceLE, Int.reduceToNat, Nat.reduceAdd, Nat.reduceSub, Nat.reduceMul, Nat.reduceLeDiff, reduceCtorEq, del_same, del_none hw, hjl, rjl, rjt, hdc2]
          refine (of19_spec L[j] _).use ?_
          simp only [go_sem, Int.reduceEq, Int.reduceAdd, Int.reduceSub, Int.reduceMul, Nat.reduceLT, Int.reduceLT, Int.reduceLE, Int.reduceToNat, Nat.reduceAdd, Nat.reduceSub, Nat.reduceMul, Nat.reduceLeDiff, reduceCtorEq, hdc2, hjl, rjl, rjt, htk, eqs_same, haddj, Rt.len]
          refine hN2 (j + 1) _ _ (by omega) ?_ ⟨hjl, rfl⟩
          simp only [go_sem, Int.reduceEq, Int.reduceAdd, Int.reduceSub, Int.reduceMul, Nat.reduceLT, Int.reduceLT, Int.reduceLE, Int.reduceToNat, Nat.reduceAdd, Nat.reduceSub, Nat.reduceMul, Nat.reduceLeDiff, reduceCtorEq, d3_1]
        · have hg := hgt a.r.node
          simp only [go_sem, Int.reduceEq, Int.reduceAdd, Int.reduceSub, Int.reduceMul, Nat.reduceLT, Int.reduceLT, Int.reduceLE, Int.reduceToNat, Nat.reduceAdd, Nat.reduceSub, Nat.reduceMul, Nat.reduceLeDiff, reduceCtorEq, hjl]
          refine frz_id ?_
          simp only [go_sem, Int.reduceEq, Int.reduceAdd, Int.reduceSub, Int.reduceMul, Nat.reduceLT, Int.reduceLT, Int.reduceLE, Int.reduceToNat, Nat.reduceAdd, Nat.reduceSub, Nat.reduceMul, Nat.reduceLeDiff, reduceCtorEq]
          rcases hix with ⟨i1, i2⟩ | ⟨i, hi, i1, i2, i3⟩
          · rw [i1] at hg
            rw [i2] at hfd
            simp only [Option.getD_none, Option.isSome_none, Bool.false_eq_true, if_false] at hg
            refine hg.use ?_
            simp only [go_sem, Int.reduceEq, Int.reduceAdd, Int.reduceSub, Int.reduceMul, Nat.reduceLT, Int.reduceLT, Int.reduceLE, Int.reduceToNat, Nat.reduceAdd, Nat.reduceSub, Nat.reduceMul, Nat.reduceLeDiff, reduceCtorEq, Rt.len, Rt.sca]
            intro w hw
            simp only [go_sem, Int.reduceEq, Int.reduceAdd, Int.reduceSub, Int.reduceMul, Nat.reduceLT, Int.reduceLT, Int.reduceLE, Int.reduceToNat, Nat.reduceAdd, Nat.reduceSub, Nat.reduceMul, Nat.reduceLeDiff, reduceCtorEq, del_same, del_none hw]
            refine hfd.use ?_
            simp only [go_sem, Int.reduceEq, Int.reduceAdd, Int.reduceSub, Int.reduceMul, Nat.reduceLT, Int.reduceLT, Int.reduceLE, Int.reduceToNat, Nat.reduceAdd, Nat.reduceSub, Nat.reduceMul, Nat.reduceLeDiff, reduceCtorEq, hadd]
            refine hN (k + 1, f2) _ _ _ (by simp only; omega) ?_ (.refl _) ⟨by simp only; omega, h1, np2⟩
            simp (config := { maxSteps := 2000000 }) only [go_sem, d3_0]
          · rw [i2] at hg
            rw [i3] at hfd
            simp only [Option.getD_some, Option.isSome_some, if_true] at hg
            have hi0 : (0 : Int) ≤ (i : Int) := by omega
            refine hg.use ?_
            simp only [go_sem, Int.reduceEq, Int.reduceAdd, Int.reduceSub, Int.reduceMul, Nat.reduceLT, Int.reduceLT, Int.reduceLE, Int.reduceToNat, Nat.reduceAdd, Nat.reduceSub, Nat.reduceMul, Nat.reduceLeDiff, reduceCtorEq, Rt.len, Rt.sca]
            intro w hw
            simp only [go_sem, Int.reduceEq, Int.reduceAdd, Int.reduceSub, Int.reduceMul, Nat.reduceLT, Int.reduceLT, Int.reduceLE, Int.reduceToNat, Nat.reduceAdd, Nat.reduceSub, Nat.reduceMul, Nat.reduceLeDiff, reduceCtorEq, del_same, del_none hw]
            refine hfd.use ?_
            simp only [go_sem, Int.reduceEq, Int.reduceAdd, Int.reduceSub, Int.reduceMul, Nat.reduceLT, Int.reduceLT, Int.reduceLE, Int.reduceToNat, Nat.reduceAdd, Nat.reduceSub, Nat.reduceMul, Nat.reduceLeDiff, reduceCtorEq, hi0, hadd]
            refine hN (k + 1, f2) _ _ _ (by simp only; omega) ?_ (.refl _) ⟨by simp only; omega, h1, np2⟩
            simp (config := { maxSteps := 2000000 }) only [go_sem, d3_0]

      · simp only [go_sem, Int.reduceEq, Int.reduceAdd, Int.reduceSub, Int.reduceMul, Nat.reduceLT, Int.reduceLT, Int.reduceLE, Int.reduceToNat, Nat.reduceAdd, Nat.reduceSub, Nat.reduceMul, Nat.reduceLeDiff, reduceCtorEq, show decide ((3 : Int) = 0) = false from rfl, show decide ((3 : Int) = 1) = false from rfl, show decide ((3 : Int) = 2) = false from rfl, show decide ((3 : Int) = 3) = true from rfl]
        refine CallsA.use (show CallsA Try.prog 16 [.ptr p 0, .ro [.int .i64 a.r.via] 1 true] _ _ from tlose_spec np.t np.ok leN [a.r.via] true (by simp)) ?_
        rintro _ H2 ⟨rfl, t2⟩
        rw [left_none np.gd hv] at t2
        rw [gone_none np.gd hv]
        have np2 := np.set t2 np.ok np.gd (.inl (Nat.le_refl _))
        have e2 : upd H2 q (dT most (allR f)) = H2 := upd_self (t2.sub _ _ upd_same)
        rw [e2] at np2
        simp only [go_sem, Int.reduceEq, Int.reduceAdd, Int.reduceSub, Int.reduceMul, Nat.reduceLT, Int.reduceLT, Int.reduceLE, Int.reduceToNat, Nat.reduceAdd, Nat.reduceSub, Nat.reduceMul, Nat.reduceLeDiff, reduceCtorEq, hv]
        have hz := FzH.refl H2
        refine PureA.useH (tall_pure np2.t np2.ok (by have := np2.len; omega)) hz (FzL.refl _ _ _) ?_
        have len2 := np2.len
        have hd2 := np2.d
        generalize hH2 : (H2) = H2' at *
        generalize hf2 : (f) = f2 at *
        have hal := allR_len f2
        have hlk : ∀ (j : Nat) (hj : j < (allR f2).length), alook f2 (allR f2)[j].node = some (allR f2)[j] := fun j hj => valR_look np2.ok (mem_allN.1 (List.getElem_mem hj))
        have hdc2 := hd2
        unfold dT at hdc2
        have d1 : decide (f2.length = (allR f2).length) = true := decide_eq_true (by omega)
        have d2 : decide ((f2.length : Int) = ((allR f2).length : Int)) = true := decide_eq_true (by omega)
        simp only [go_sem, Int.reduceEq, Int.reduceAdd, Int.reduceSub, Int.reduceMul, Nat.reduceLT, Int.reduceLT, Int.reduceLE, Int.reduceToNat, Nat.reduceAdd, Nat.reduceSub, Nat.reduceMul, Nat.reduceLeDiff, reduceCtorEq, hdc2, decide_true, Bool.not_true, Bool.not_false]
        refine (tlen_spec np2.t).use ?_
        have hgt := fun n => tget_spec np2.t n
        have hix := idx_allR np2.ok a.r.node
        have hfd := rfind_spec hd2 (by omega) a.r.node
        simp only [go_sem, Int.reduceEq, Int.reduceAdd, Int.reduceSub, Int.reduceMul, Nat.reduceLT, Int.reduceLT, Int.reduceLE, Int.reduceToNat, Nat.reduceAdd, Nat.reduceSub, Nat.reduceMul, Nat.reduceLeDiff, reduceCtorEq, hdc2, d1, d2]
        generalize allR f2 = L at *
        refine loop_st d3_1 (fun j : Nat => L.length - j) (fun j s => s.set 13 (.int .i64 (j : Int))) (fun j H => j ≤ L.length ∧ H = H2') 0 ?_ ⟨Nat.zero_le _, rfl⟩ ?_
        · (simp only [go_sem, Int.reduceEq, Int.reduceAdd, Int.reduceSub, Int.reduceMul, Nat.reduceLT, Int.reduceLT, Int.reduceLE, Int.reduceToNat, Nat.reduceAdd, Nat.reduceSub, Nat.reduceMul, Nat.reduceLeDiff, reduceCtorEq, d3_1] <;> rfl)
        rintro N2 j H5 ⟨hj, eH⟩ hN2
        rw [eH]
        simp only [go_sem, Int.reduceEq, Int.reduceAdd, Int.reduceSub, Int.reduceMul, Nat.reduceLT, Int.reduceLT, Int.reduceLE, Int.reduceToNat, Nat.reduceAdd, Nat.reduceSub, Nat.reduceMul, Nat.reduceLeDiff, reduceCtorEq, d3_1]
        have haddj := wadd1 (k := j) (by omega)
        by_cases hjl : j < L.length
        · have q0 : ∀ t : Rt, (Rt.av t)[0]? = some (.int .i64 t.node) := fun _ => rfl
          have r0 := fun h' => (rd_first (h := h') Rt.len (by omega) hjl).trans (q0 _)
          have rj : ∀ h', aloads h' 4 (.rp ((cat Rt.av L).drop (j * 4))) = some (Rt.av L[j]) := fun h' => rd_all (h := h') Rt.len hjl
          have hg := hgt L[j].node
          rw [hlk j hjl] at hg
          simp only [Option.getD_some, Option.isSome_some, if_true] at hg
          have rjl : 4 ≤ (List.drop (j * 4) (cat Rt.av L)).length := by rw [List.length_drop, cat_len Rt.len]; omega
          have rjt : List.take 4 (List.drop (j * 4) (cat Rt.av L)) = L[j].av := by
            rw [cat_at Rt.len hjl]
            exact List.take_left' rfl
          simp only [go_sem, Int.reduceEq, Int.reduceAdd, Int.reduceSub, Int.reduceMul, Nat.reduceLT, Int.reduceLT, Int.reduceLE, Int.reduceToNat, Nat.reduceAdd, Nat.reduceSub, Nat.reduceMul, Nat.reduceLeDiff, reduceCtorEq, hjl, r0]
          refine hg.use ?_
          simp only [go_sem, Int.reduceEq, Int.reduceAdd, Int.reduceSub, Int.reduceMul, Nat.reduceLT, Int.reduceLT, Int.reduceLE, Int.reduceToNat, Nat.reduceAdd, Nat.reduceSub, Nat.reduceMul, Nat.reduceLeDiff, reduceCtorEq, Rt.len, Rt.sca]
          intro w hw
          simp only [go_sem, Int.reduceEq, Int.reduceAdd, Int.reduceSub, Int.reduceMul, Nat.reduceLT, Int.reduceLT, Int.reduceLE, Int.reduceToNat, Nat.reduceAdd, Nat.reduceSub, Nat.reduceMul, Nat.reduceLeDiff, reduceCtorEq, del_same, del_none hw, hjl, rjl, rjt, hdc2]
          refine (of19_spec L[j] _).use ?_
          simp only [go_sem, Int.reduceEq, Int.reduceAdd, Int.reduceSub, Int.reduceMul, Nat.reduceLT, Int.reduceLT, Int.reduceLE, Int.reduceToNat, Nat.reduceAdd, Nat.reduceSub, Nat.reduceMul, Nat.reduceLeDiff, reduceCtorEq, hdc2, hjl, rjl, rjt, htk, eqs_same, haddj, Rt.len]
          refine hN2 (j + 1) _ _ (by omega) ?_ ⟨hjl, rfl⟩
          simp only [go_sem, Int.reduceEq, Int.reduceAdd, Int.reduceSub, Int.reduceMul, Nat.reduceLT, Int.reduceLT, Int.reduceLE, Int.reduceToNat, Nat.reduceAdd, Nat.reduceSub, Nat.reduceMul, Nat.reduceLeDiff, reduceCtorEq, d3_1]
        · have hg := hgt a.r.node
          simp only [go_sem, Int.reduceEq, Int.reduceAdd, Int.reduceSub, Int.reduceMul, Nat.reduceLT, Int.reduceLT, Int.reduceLE, Int.reduceToNat, Nat.reduceAdd, Nat.reduceSub, Nat.reduceMul, Nat.reduceLeDiff, reduceCtorEq, hjl]
          refine frz_id ?_
          simp only [go_sem, Int.reduceEq, Int.reduceAdd, Int.reduceSub, Int.reduceMul, Nat.reduceLT, Int.reduceLT, Int.reduceLE, Int.reduceToNat, Nat.reduceAdd, Nat.reduceSub, Nat.reduceMul, Nat.reduceLeDiff, reduceCtorEq]
          rcases hix with ⟨i1, i2⟩ | ⟨i, hi, i1, i2, i3⟩
          · rw [i1] at hg
            rw [i2] at hfd
            simp only [Option.getD_none, Option.isSome_none, Bool.false_eq_true, if_false] at hg
            refine hg.use ?_
            simp only [go_sem, Int.reduceEq, Int.reduceAdd, Int.reduceSub, Int.reduceMul, Nat.reduceLT, Int.reduceLT, Int.reduceLE, Int.reduceToNat, Nat.reduceAdd, Nat.reduceSub, Nat.reduceMul, Nat.reduceLeDiff, reduceCtorEq, Rt.len, Rt.sca]
            intro w hw
            simp only [go_sem, Int.reduceEq, Int.reduceAdd, Int.reduceSub, Int.reduceMul, Nat.reduceLT, Int.reduceLT, Int.reduceLE, Int.reduceToNat, Nat.reduceAdd, Nat.reduceSub, Nat.reduceMul, Nat.reduceLeDiff, reduceCtorEq, del_same, del_none hw]
            refine hfd.use ?_
            simp only [go_sem, Int.reduceEq, Int.reduceAdd, Int.reduceSub, Int.reduceMul, Nat.reduceLT, Int.reduceLT, Int.reduceLE, Int.reduceToNat, Nat.reduceAdd, Nat.reduceSub, Nat.reduceMul, Nat.reduceLeDiff, reduceCtorEq, hadd]
            refine hN (k + 1, f2) _ _ _ (by simp only; omega) ?_ (.refl _) ⟨by simp only; omega, h1, np2⟩
            simp (config := { maxSteps := 2000000 }) only [go_sem, d3_0]
          · rw [i2] at hg
            rw [i3] at hfd
            simp only [Option.getD_some, Option.isSome_some, if_true] at hg
            have hi0 : (0 : Int) ≤ (i : Int) := by omega
            refine hg.use ?_
            simp only [go_sem, Int.reduceEq, Int.reduceAdd, Int.reduceSub, Int.reduceMul, Nat.reduceLT, Int.reduceLT, Int.reduceLE, Int.reduceToNat, Nat.reduceAdd, Nat.reduceSub, Nat.reduceMul, Nat.reduceLeDiff, reduceCtorEq, Rt.len, Rt.sca]
            intro w hw
            simp only [go_sem, Int.reduceEq, Int.reduceAdd, Int.reduceSub, Int.reduceMul, Nat.reduceLT, Int.reduceLT, Int.reduceLE, Int.reduceToNat, Nat.reduceAdd, Nat.reduceSub, Nat.reduceMul, Nat.reduceLeDiff, reduceCtorEq, del_same, del_none hw]
            refine hfd.use ?_
            simp only [go_sem, Int.reduceEq, Int.reduceAdd, Int.reduceSub, Int.reduceMul, Nat.reduceLT, Int.reduceLT, Int.reduceLE, Int.reduceToNat, Nat.reduceAdd, Nat.reduceSub, Nat.reduceMul, Nat.reduceLeDiff, reduceCtorEq, hi0, hadd]
            refine hN (k + 1, f2) _ _ _ (by simp only; omega) ?_ (.refl _) ⟨by simp only; omega, h1, np2⟩
            simp (config := { maxSteps := 2000000 }) only [go_sem, d3_0]

      · simp only [go_sem, Int.reduceEq, Int.reduceAdd, Int.reduceSub, Int.reduceMul, Nat.reduceLT, Int.reduceLT, Int.reduceLE, Int.reduceToNat, Nat.reduceAdd, Nat.reduceSub, Nat.reduceMul, Nat.reduceLeDiff, reduceCtorEq, show decide ((3 : Int) = 0) = false from rfl, show decide ((3 : Int) = 1) = false from rfl, show decide ((3 : Int) = 2) = false from rfl, show decide ((3 : Int) = 3) = true from rfl]
        refine CallsA.use (show CallsA Try.prog 16 [.ptr p 0, .ro [.int .i64 a.r.via] 1 true] _ _ from tlose_spec np.t np.ok leN [a.r.via] true (by simp)) ?_
        rintro _ H2 ⟨rfl, t2⟩
        rw [pr_via hv] at t2 ⊢
        have np2 := np.set t2 (leftF_ok np.ok _) (tGood_sub np.gd left_mem) (.inl (left_len f _))
        have hgl := gone_len leN (prG 0 a.r.via)
        simp only [go_sem, Int.reduceEq, Int.reduceAdd, Int.reduceSub, Int.reduceMul, Nat.reduceLT, Int.reduceLT, Int.reduceLE, Int.reduceToNat, Nat.reduceAdd, Nat.reduceSub, Nat.reduceMul, Nat.reduceLeDiff, reduceCtorEq, hv]
        refine (rgone_spec np.ok 0 a.r.via (t2.sub _ _ upd_same) leN).use ?_
        rintro _ H3 ⟨rfl, rfl⟩
        simp only [go_sem, Int.reduceEq, Int.reduceAdd, Int.reduceSub, Int.reduceMul, Nat.reduceLT, Int.reduceLT, Int.reduceLE, Int.reduceToNat, Nat.reduceAdd, Nat.reduceSub, Nat.reduceMul, Nat.reduceLeDiff, reduceCtorEq]
        refine (same10_spec _ _ false false _ hgl).use ?_
        simp only [go_sem, Int.reduceEq, Int.reduceAdd, Int.reduceSub, Int.reduceMul, Nat.reduceLT, Int.reduceLT, Int.reduceLE, Int.reduceToNat, Nat.reduceAdd, Nat.reduceSub, Nat.reduceMul, Nat.reduceLeDiff, reduceCtorEq]
        have hz := FzH.refl (upd H2 q (dT most (allR (leftF f (prG 0 a.r.via)))))
        refine PureA.useH (tall_pure np2.t np2.ok (by have := np2.len; omega)) hz (FzL.refl _ _ _) ?_
        have len2 := np2.len
        have hd2 := np2.d
        generalize hH2 : (upd H2 q (dT most (allR (leftF f (prG 0 a.r.via))))) = H2' at *
        generalize hf2 : (leftF f (prG 0 a.r.via)) = f2 at *
        have hal := allR_len f2
        have hlk : ∀ (j : Nat) (hj : j < (allR f2).length), alook f2 (allR f2)[j].node = some (allR f2)[j] := fun j hj => valR_look np2.ok (mem_allN.1 (List.getElem_mem hj))
        have hdc2 := hd2
        unfold dT at hdc2
        have d1 : decide (f2.length = (allR f2).length) = true := decide_eq_true (by omega)
        have d2 : decide ((f2.length : Int) = ((allR f2).length : Int)) = true := decide_eq_true (by omega)
        simp only [go_sem, Int.reduceEq, Int.reduceAdd, Int.reduceSub, Int.reduceMul, Nat.reduceLT, Int.reduceLT, Int.reduceLE, Int.reduceToNat, Nat.reduceAdd, Nat.reduceSub, Nat.reduceMul, Nat.reduceLeDiff, reduceCtorEq, hdc2, decide_true, Bool.not_true, Bool.not_false]
        refine (tlen_spec np2.t).use ?_
        have hgt := fun n => tget_spec np2.t n
        have hix := idx_allR np2.ok a.r.node
        have hfd := rfind_spec hd2 (by omega) a.r.node
        simp only [go_sem, Int.reduceEq, Int.reduceAdd, Int.reduceSub, Int.reduceMul, Nat.reduceLT, Int.reduceLT, Int.reduceLE, Int.reduceToNat, Nat.reduceAdd, Nat.reduceSub, Nat.reduceMul, Nat.reduceLeDiff, reduceCtorEq, hdc2, d1, d2]
        generalize allR f2 = L at *
        refine loop_st d3_1 (fun j : Nat => L.length - j) (fun j s => s.set 13 (.int .i64 (j : Int))) (fun j H => j ≤ L.length ∧ H = H2') 0 ?_ ⟨Nat.zero_le _, rfl⟩ ?_
        · (simp only [go_sem, Int.reduceEq, Int.reduceAdd, Int.reduceSub, Int.reduceMul, Nat.reduceLT, Int.reduceLT, Int.reduceLE, Int.reduceToNat, Nat.reduceAdd, Nat.reduceSub, Nat.reduceMul, Nat.reduceLeDiff, reduceCtorEq, d3_1] <;> rfl)
        rintro N2 j H5 ⟨hj, eH⟩ hN2
        rw [eH]
        simp only [go_sem, Int.reduceEq, Int.reduceAdd, Int.reduceSub, Int.reduceMul, Nat.reduceLT, Int.reduceLT, Int.reduceLE, Int.reduceToNat, Nat.reduceAdd, Nat.reduceSub, Nat.reduceMul, Nat.reduceLeDiff, reduceCtorEq, d3_1]
        have haddj := wadd1 (k := j) (by omega)
        by_cases hjl : j < L.length
        · have q0 : ∀ t : Rt, (Rt.av t)[0]? = some (.int .i64 t.node) := fun _ => rfl
          have r0 := fun h' => (rd_first (h := h') Rt.len (by omega) hjl).trans (q0 _)
          have rj : ∀ h', aloads h' 4 (.rp ((cat Rt.av L).drop (j * 4))) = some (Rt.av L[j]) := fun h' => rd_all (h := h') Rt.len hjl
          have hg := hgt L[j].node
          rw [hlk j hjl] at hg
          simp only [Option.getD_some, Option.isSome_some, if_true] at hg
          have rjl : 4 ≤ (List.drop (j * 4) (cat Rt.av L)).length := by rw [List.length_drop, cat_len Rt.len]; omega
          have rjt : List.take 4 (List.drop (j * 4) (cat Rt.av L)) = L[j].av := by
            rw [cat_at Rt.len hjl]
            exact List.take_left' rfl
          simp only [go_sem, Int.reduceEq, Int.reduceAdd, Int.reduceSub, Int.reduceMul, Nat.reduceLT, Int.reduceLT, Int.reduceLE, Int.reduceToNat, Nat.reduceAdd, Nat.reduceSub, Nat.reduceMul, Nat.reduceLeDiff, reduceCtorEq, hjl, r0]
          refine hg.use ?_
          simp only [go_sem, Int.reduceEq, Int.reduceAdd, Int.reduceSub, Int.reduceMul, Nat.reduceLT, Int.reduceLT, Int.reduceLE, Int.reduceToNat, Nat.reduceAdd, Nat.reduceSub, Nat.reduceMul, Nat.reduceLeDiff, reduceCtorEq, Rt.len, Rt.sca]
          intro w hw
          simp only [go_sem, Int.reduceEq, Int.reduceAdd, Int.reduceSub, Int.reduceMul, Nat.reduceLT, Int.reduceLT, Int.reduceLE, Int.reduceToNat, Nat.reduceAdd, Nat.reduceSub, Nat.reduceMul, Nat.reduceLeDiff, reduceCtorEq, del_same, del_none hw, hjl, rjl, rjt, hdc2]
          refine (of19_spec L[j] _).use ?_
          simp only [go_sem, Int.reduceEq, Int.reduceAdd, Int.reduceSub, Int.reduceMul, Nat.reduceLT, Int.reduceLT, Int.reduceLE, Int.reduceToNat, Nat.reduceAdd, Nat.reduceSub, Nat.reduceMul, Nat.reduceLeDiff, reduceCtorEq, hdc2, hjl, rjl, rjt, htk, eqs_same, haddj, Rt.len]
          refine hN2 (j + 1) _ _ (by omega) ?_ ⟨hjl, rfl⟩
          simp only [go_sem, Int.reduceEq, Int.reduceAdd, Int.reduceSub, Int.reduceMul, Nat.reduceLT, Int.reduceLT, Int.reduceLE, Int.reduceToNat, Nat.reduceAdd, Nat.reduceSub, Nat.reduceMul, Nat.reduceLeDiff, reduceCtorEq, d3_1]
        · have hg := hgt a.r.node
          simp only [go_sem, Int.reduceEq, Int.reduceAdd, Int.reduceSub, Int.reduceMul, Nat.reduceLT, Int.reduceLT, Int.reduceLE, Int.reduceToNat, Nat.reduceAdd, Nat.reduceSub, Nat.reduceMul, Nat.reduceLeDiff, reduceCtorEq, hjl]
          refine frz_id ?_
          simp only [go_sem, Int.reduceEq, Int.reduceAdd, Int.reduceSub, Int.reduceMul, Nat.reduceLT, Int.reduceLT, Int.reduceLE, Int.reduceToNat, Nat.reduceAdd, Nat.reduceSub, Nat.reduceMul, Nat.reduceLeDiff, reduceCtorEq]
          rcases hix with ⟨i1, i2⟩ | ⟨i, hi, i1, i2, i3⟩
          · rw [i1] at hg
            rw [i2] at hfd
            simp only [Option.getD_none, Option.isSome_none, Bool.false_eq_true, if_false] at hg
            refine hg.use ?_
            simp only [go_sem, Int.reduceEq, Int.reduceAdd, Int.reduceSub, Int.reduceMul, Nat.reduceLT, Int.reduceLT, Int.reduceLE, Int.reduceToNat, Nat.reduceAdd, Nat.reduceSub, Nat.reduceMul, Nat.reduceLeDiff, reduceCtorEq, Rt.len, Rt.sca]
            intro w hw
            simp only [go_sem, Int.reduceEq, Int.reduceAdd, Int.reduceSub, Int.reduceMul, Nat.reduceLT, Int.reduceLT, Int.reduceLE, Int.reduceToNat, Nat.reduceAdd, Nat.reduceSub, Nat.reduceMul, Nat.reduceLeDiff, reduceCtorEq, del_same, del_none hw]
            refine hfd.use ?_
            simp only [go_sem, Int.reduceEq, Int.reduceAdd, Int.reduceSub, Int.reduceMul, Nat.reduceLT, Int.reduceLT, Int.reduceLE, Int.reduceToNat, Nat.reduceAdd, Nat.reduceSub, Nat.reduceMul, Nat.reduceLeDiff, reduceCtorEq, hadd]
            refine hN (k + 1, f2) _ _ _ (by simp only; omega) ?_ (.refl _) ⟨by simp only; omega, h1, np2⟩
            simp (config := { maxSteps := 2000000 }) only [go_sem, d3_0]
          · rw [i2] at hg
            rw [i3] at hfd
            simp only [Option.getD_some, Option.isSome_some, if_true] at hg
            have hi0 : (0 : Int) ≤ (i : Int) := by omega
            refine hg.use ?_
            simp only [go_sem, Int.reduceEq, Int.reduceAdd, Int.reduceSub, Int.reduceMul, Nat.reduceLT, Int.reduceLT, Int.reduceLE, Int.reduceToNat, Nat.reduceAdd, Nat.reduceSub, Nat.reduceMul, Nat.reduceLeDiff, reduceCtorEq, Rt.len, Rt.sca]
            intro w hw
            simp only [go_sem, Int.reduceEq, Int.reduceAdd, Int.reduceSub, Int.reduceMul, Nat.reduceLT, Int.reduceLT, Int.reduceLE, Int.reduceToNat, Nat.reduceAdd, Nat.reduceSub, Nat.reduceMul, Nat.reduceLeDiff, reduceCtorEq, del_same, del_none hw]
            refine hfd.use ?_
            simp only [go_sem, Int.reduceEq, Int.reduceAdd, Int.reduceSub, Int.reduceMul, Nat.reduceLT, Int.reduceLT, Int.reduceLE, Int.reduceToNat, Nat.reduceAdd, Nat.reduceSub, Nat.reduceMul, Nat.reduceLeDiff, reduceCtorEq, hi0, hadd]
            refine hN (k + 1, f2) _ _ _ (by simp only; omega) ?_ (.refl _) ⟨by simp only; omega, h1, np2⟩
            simp (config := { maxSteps := 2000000 }) only [go_sem, d3_0]

      · simp only [go_sem, Int.reduceEq, Int.reduceAdd, Int.reduceSub, Int.reduceMul, Nat.reduceLT, Int.reduceLT, Int.reduceLE, Int.reduceToNat, Nat.reduceAdd, Nat.reduceSub, Nat.reduceMul, Nat.reduceLeDiff, reduceCtorEq, show decide ((4 : Int) = 0) = false from rfl, show decide ((4 : Int) = 1) = false from rfl, show decide ((4 : Int) = 2) = false from rfl, show decide ((4 : Int) = 3) = false from rfl]
        refine (tclear_spec np.t).use ?_
        rintro _ H2 ⟨rfl, t2⟩
        have np2 := np.set t2 trOk_nil (fun p hp => by simp at hp) (.inl (Nat.zero_le _))
        have hdc : H2 q = some (.cells [.int .i64 most, .ro (cat Rt.av (allR f)) (allR f).length false] 2) := t2.sub _ _ upd_same
        simp only [go_sem, Int.reduceEq, Int.reduceAdd, Int.reduceSub, Int.reduceMul, Nat.reduceLT, Int.reduceLT, Int.reduceLE, Int.reduceToNat, Nat.reduceAdd, Nat.reduceSub, Nat.reduceMul, Nat.reduceLeDiff, reduceCtorEq, hdc]
        have hz : FzH (upd H2 q (.cells [.int .i64 most, .nils] 2)) (upd H2 q (dT most (allR []))) := fun x o e => by
          by_cases hx : x = q
          · subst hx
            rw [upd_same] at e ⊢
            cases e
            exact ⟨_, rfl, .cells (.cons (.refl _) (.cons .nils .nil))⟩
          · rw [upd_ne hx] at e ⊢
            exact ⟨o, e, .refl _⟩
        refine PureA.useH (tall_pure np2.t np2.ok (by have := np2.len; omega)) hz (FzL.refl _ _ _) ?_
        have len2 := np2.len
        have hd2 := np2.d
        generalize hH2 : (upd H2 q (dT most (allR []))) = H2' at *
        generalize hf2 : ([] : Tr) = f2 at *
        have hal := allR_len f2
        have hlk : ∀ (j : Nat) (hj : j < (allR f2).length), alook f2 (allR f2)[j].node = some (allR f2)[j] := fun j hj => valR_look np2.ok (mem_allN.1 (List.getElem_mem hj))
        have hdc2 := hd2
        unfold dT at hdc2
        have d1 : decide (f2.length = (allR f2).length) = true := decide_eq_true (by omega)
        have d2 : decide ((f2.length : Int) = ((allR f2).length : Int)) = true := decide_eq_true (by omega)
        simp only [go_sem, Int.reduceEq, Int.reduceAdd, Int.reduceSub, Int.reduceMul, Nat.reduceLT, Int.reduceLT, Int.reduceLE, Int.reduceToNat, Nat.reduceAdd, Nat.reduceSub, Nat.reduceMul, Nat.reduceLeDiff, reduceCtorEq, hdc2, decide_true, Bool.not_true, Bool.not_false]
        refine (tlen_spec np2.t).use ?_
        have hgt := fun n => tget_spec np2.t n
        have hix := idx_allR np2.ok a.r.node
        have hfd := rfind_spec hd2 (by omega) a.r.node
        simp only [go_sem, Int.reduceEq, Int.reduceAdd, Int.reduceSub, Int.reduceMul, Nat.reduceLT, Int.reduceLT, Int.reduceLE, Int.reduceToNat, Nat.reduceAdd, Nat.reduceSub, Nat.reduceMul, Nat.reduceLeDiff, reduceCtorEq, hdc2, d1, d2]
        generalize allR f2 = L at *
        refine loop_st d3_1 (fun j : Nat => L.length - j) (fun j s => s.set 13 (.int .i64 (j : Int))) (fun j H => j ≤ L.length ∧ H = H2') 0 ?_ ⟨Nat.zero_le _, rfl⟩ ?_
        · (simp only [go_sem, Int.reduceEq, Int.reduceAdd, Int.reduceSub, Int.reduceMul, Nat.reduceLT, Int.reduceLT, Int.reduceLE, Int.reduceToNat, Nat.reduceAdd, Nat.reduceSub, Nat.reduceMul, Nat.reduceLeDiff, reduceCtorEq, d3_1] <;> rfl)
        rintro N2 j H5 ⟨hj, eH⟩ hN2
        rw [eH]
        simp only [go_sem, Int.reduceEq, Int.reduceAdd, Int.reduceSub, Int.reduceMul, Nat.reduceLT, Int.reduceLT, Int.reduceLE, Int.reduceToNat, Nat.reduceAdd, Nat.reduceSub, Nat.reduceMul, Nat.reduceLeDiff, reduceCtorEq, d3_1]
        have haddj := wadd1 (k := j) (by omega)
        by_cases hjl : j < L.length
        · have q0 : ∀ t : Rt, (Rt.av t)[0]? = some (.int .i64 t.node) := fun _ => rfl
          have r0 := fun h' => (rd_first (h := h') Rt.len (by omega) hjl).trans (q0 _)
          have rj : ∀ h', aloads h' 4 (.rp ((cat Rt.av L).drop (j * 4))) = some (Rt.av L[j]) := fun h' => rd_all (h := h') Rt.len hjl
          have hg := hgt L[j].node
          rw [hlk j hjl] at hg
          simp only [Option.getD_some, Option.isSome_some, if_true] at hg
          have rjl : 4 ≤ (List.drop (j * 4) (cat Rt.av L)).length := by rw [List.length_drop, cat_len Rt.len]; omega
          have rjt : List.take 4 (List.drop (j * 4) (cat Rt.av L)) = L[j].av := by
            rw [cat_at Rt.len hjl]
            exact List.take_left' rfl
          simp only [go_sem, Int.reduceEq, Int.reduceAdd, Int.reduceSub, Int.reduceMul, Nat.reduceLT, Int.reduceLT, Int.reduceLE, Int.reduceToNat, Nat.reduceAdd, Nat.reduceSub, Nat.reduceMul, Nat.reduceLeDiff, reduceCtorEq, hjl, r0]
          refine hg.use ?_
          simp only [go_sem, Int.reduceEq, Int.reduceAdd, Int.reduceSub, Int.reduceMul, Nat.reduceLT, Int.reduceLT, Int.reduceLE, Int.reduceToNat, Nat.reduceAdd, Nat.reduceSub, Nat.reduceMul, Nat.reduceLeDiff, reduceCtorEq, Rt.len, Rt.sca]
          intro w hw
          simp only [go_sem, Int.reduceEq, Int.reduceAdd, Int.reduceSub, Int.reduceMul, Nat.reduceLT, Int.reduceLT, Int.reduceLE, Int.reduceToNat, Nat.reduceAdd, Nat.reduceSub, Nat.reduceMul, Nat.reduceLeDiff, reduceCtorEq, del_same, del_none hw, hjl, rjl, rjt, hdc2]
          refine (of19_spec L[j] _).use ?_
          simp only [go_sem, Int.reduceEq, Int.reduceAdd, Int.reduceSub, Int.reduceMul, Nat.reduceLT, Int.reduceLT, Int.reduceLE, Int.reduceToNat, Nat.reduceAdd, Nat.reduceSub, Nat.reduceMul, Nat.reduceLeDiff, reduceCtorEq, hdc2, hjl, rjl, rjt, htk, eqs_same, haddj, Rt.len]
          refine hN2 (j + 1) _ _ (by omega) ?_ ⟨hjl, rfl⟩
          simp only [go_sem, Int.reduceEq, Int.reduceAdd, Int.reduceSub, Int.reduceMul, Nat.reduceLT, Int.reduceLT, Int.reduceLE, Int.reduceToNat, Nat.reduceAdd, Nat.reduceSub, Nat.reduceMul, Nat.reduceLeDiff, reduceCtorEq, d3_1]
        · have hg := hgt a.r.node
          simp only [go_sem, Int.reduceEq, Int.reduceAdd, Int.reduceSub, Int.reduceMul, Nat.reduceLT, Int.reduceLT, Int.reduceLE, Int.reduceToNat, Nat.reduceAdd, Nat.reduceSub, Nat.reduceMul, Nat.reduceLeDiff, reduceCtorEq, hjl]
          refine frz_id ?_
          simp only [go_sem, Int.reduceEq, Int.reduceAdd, Int.reduceSub, Int.reduceMul, Nat.reduceLT, Int.reduceLT, Int.reduceLE, Int.reduceToNat, Nat.reduceAdd, Nat.reduceSub, Nat.reduceMul, Nat.reduceLeDiff, reduceCtorEq]
          rcases hix with ⟨i1, i2⟩ | ⟨i, hi, i1, i2, i3⟩
          · rw [i1] at hg
            rw [i2] at hfd
            simp only [Option.getD_none, Option.isSome_none, Bool.false_eq_true, if_false] at hg
            refine hg.use ?_
            simp only [go_sem, Int.reduceEq, Int.reduceAdd, Int.reduceSub, Int.reduceMul, Nat.reduceLT, Int.reduceLT, Int.reduceLE, Int.reduceToNat, Nat.reduceAdd, Nat.reduceSub, Nat.reduceMul, Nat.reduceLeDiff, reduceCtorEq, Rt.len, Rt.sca]
            intro w hw
            simp only [go_sem, Int.reduceEq, Int.reduceAdd, Int.reduceSub, Int.reduceMul, Nat.reduceLT, Int.reduceLT, Int.reduceLE, Int.reduceToNat, Nat.reduceAdd, Nat.reduceSub, Nat.reduceMul, Nat.reduceLeDiff, reduceCtorEq, del_same, del_none hw]
            refine hfd.use ?_
            simp only [go_sem, Int.reduceEq, Int.reduceAdd, Int.reduceSub, Int.reduceMul, Nat.reduceLT, Int.reduceLT, Int.reduceLE, Int.reduceToNat, Nat.reduceAdd, Nat.reduceSub, Nat.reduceMul, Nat.reduceLeDiff, reduceCtorEq, hadd]
            refine hN (k + 1, f2) _ _ _ (by simp only; omega) ?_ (.refl _) ⟨by simp only; omega, h1, np2⟩
            simp (config := { maxSteps := 2000000 }) only [go_sem, d3_0]
          · rw [i2] at hg
            rw [i3] at hfd
            simp only [Option.getD_some, Option.isSome_some, if_true] at hg
            have hi0 : (0 : Int) ≤ (i : Int) := by omega
            refine hg.use ?_
            simp only [go_sem, Int.reduceEq, Int.reduceAdd, Int.reduceSub, Int.reduceMul, Nat.reduceLT, Int.reduceLT, Int.reduceLE, Int.reduceToNat, Nat.reduceAdd, Nat.reduceSub, Nat.reduceMul, Nat.reduceLeDiff, reduceCtorEq, Rt.len, Rt.sca]
            intro w hw
            simp only [go_sem, Int.reduceEq, Int.reduceAdd, Int.reduceSub, Int.reduceMul, Nat.reduceLT, Int.reduceLT, Int.reduceLE, Int.reduceToNat, Nat.reduceAdd, Nat.reduceSub, Nat.reduceMul, Nat.reduceLeDiff, reduceCtorEq, del_same, del_none hw]
            refine hfd.use ?_
            simp only [go_sem, Int.reduceEq, Int.reduceAdd, Int.reduceSub, Int.reduceMul, Nat.reduceLT, Int.reduceLT, Int.reduceLE, Int.reduceToNat, Nat.reduceAdd, Nat.reduceSub, Nat.reduceMul, Nat.reduceLeDiff, reduceCtorEq, hi0, hadd]
            refine hN (k + 1, f2) _ _ _ (by simp only; omega) ?_ (.refl _) ⟨by simp only; omega, h1, np2⟩
            simp (config := { maxSteps := 2000000 }) only [go_sem, d3_0]

    · rcases (show (k < l.length ∧ ¬ (k : Int) < 60) ∨ ¬ k < l.length by omega) with ⟨h1, h2⟩ | h1 <;> (first | (simp only [go_sem, Int.reduceEq, Int.reduceAdd, Int.reduceSub, Int.reduceMul, Nat.reduceLT, Int.reduceLT, Int.reduceLE, Int.reduceToNat, Nat.reduceAdd, Nat.reduceSub, Nat.reduceMul, Nat.reduceLeDiff, reduceCtorEq, h1, h2]) | (simp only [go_sem, Int.reduceEq, Int.reduceAdd, Int.reduceSub, Int.reduceMul, Nat.reduceLT, Int.reduceLT, Int.reduceLE, Int.reduceToNat, Nat.reduceAdd, Nat.reduceSub, Nat.reduceMul, Nat.reduceLeDiff, reduceCtorEq, h1])) <;>
      ( refine frz_id ?_
        simp only [go_sem, Int.reduceEq, Int.reduceAdd, Int.reduceSub, Int.reduceMul, Nat.reduceLT, Int.reduceLT, Int.reduceLE, Int.reduceToNat, Nat.reduceAdd, Nat.reduceSub, Nat.reduceMul, Nat.reduceLeDiff, reduceCtorEq]
        refine (known19_spec _).use ?_
        simp only [go_sem, Int.reduceEq, Int.reduceAdd, Int.reduceSub, Int.reduceMul, Nat.reduceLT, Int.reduceLT, Int.reduceLE, Int.reduceToNat, Nat.reduceAdd, Nat.reduceSub, Nat.reduceMul, Nat.reduceLeDiff, reduceCtorEq]
        refine hQ _ _ _ _ _ (.inr rfl) rfl (FzH.sub np.sub) (FzL.refl _ _ _) rfl )
  · refine (tnew_bad most hm h).use ?_
    rcases (show most < 1 ∨ (¬ most < 1 ∧ 32 < most) by omega) with g1 | ⟨g1, g2⟩ <;> (first | (simp only [go_sem, Int.reduceEq, Int.reduceAdd, Int.reduceSub, Int.reduceMul, Nat.reduceLT, Int.reduceLT, Int.reduceLE, Int.reduceToNat, Nat.reduceAdd, Nat.reduceSub, Nat.reduceMul, Nat.reduceLeDiff, reduceCtorEq, g1, g2]) | (simp only [go_sem, Int.reduceEq, Int.reduceAdd, Int.reduceSub, Int.reduceMul, Nat.reduceLT, Int.reduceLT, Int.reduceLE, Int.reduceToNat, Nat.reduceAdd, Nat.reduceSub, Nat.reduceMul, Nat.reduceLeDiff, reduceCtorEq, g1])) <;>
    ( refine (known19_spec _).use ?_
      simp only [go_sem, Int.reduceEq, Int.reduceAdd, Int.reduceSub, Int.reduceMul, Nat.reduceLT, Int.reduceLT, Int.reduceLE, Int.reduceToNat, Nat.reduceAdd, Nat.reduceSub, Nat.reduceMul, Nat.reduceLeDiff, reduceCtorEq]
      (refine hQ _ _ _ _ _ (by first | exact .inr rfl | exact .inl rfl) rfl (by first | exact FzH.refl _ | exact FzH.sub (by (repeat' (first | exact Sub.refl _ | assumption | (refine Sub.upd ?_ (by first | assumption | (simp only [*]; done) | exact Sub.isNone (by assumption) (by assumption) | exact Sub.isNone (by assumption) (by simp only [*]))))))) (FzL.refl _ _ _) ?_; try (simp only [go_sem, Int.reduceEq, Int.reduceAdd, Int.reduceSub, Int.reduceMul, Nat.reduceLT, Int.reduceLT, Int.reduceLE, Int.reduceToNat, Nat.reduceAdd, Nat.reduceSub, Nat.reduceMul, Nat.reduceLeDiff, reduceCtorEq])) )

theorem acs_sh {els : List (List AV)} (h : ∀ el ∈ els, el.length = 5 ∧ ShC Try.prog 5 35 el) : ∃ l : List Ac, els.flatten = cat encA l ∧ els.length = l.length := by
  obtain ⟨l, e1, e2, _⟩ := sh_list (enc := encA) (R := fun _ => True) (els := els) fun el hel => by
    have := (h el hel).2
    rw [ShC] at this
    simp only [Try.underlying35, Try.underlying33, ShFs, ShC, Try.underlying3] at this
    obtain ⟨_, _, rfl, _, ⟨k, rfl, _⟩, _, _, rfl, _, ⟨_, _, rfl, _, ⟨a, rfl, _⟩, _, _, rfl, _, ⟨b, rfl, _⟩, _, _, rfl, _, ⟨c, rfl, _⟩, _, _, rfl, _, ⟨d, rfl, _⟩, rfl⟩, rfl⟩ := this
    exact ⟨⟨k, ⟨a, b, c, d⟩⟩, rfl, trivial⟩
  exact ⟨l, e1, e2⟩

theorem tplays_law (xs : List AV) (h : ArgsSh Try.prog 6 Try.f3.params.toList xs) : PureA Try.prog 3 xs emp (.bool true) := by
  rw [Try.params3] at h
  simp only [ArgsSh, ArgSh, Try.underlying22, Try.underlying3] at h
  obtain ⟨x, _, rfl, hx, y, _, rfl, hy, rfl⟩ := h
  rw [ShC] at hy
  simp only [Try.underlying22] at hy
  simp only [Try.underlying3, ShC] at hx
  obtain ⟨m, hm, _⟩ := hx
  cases hm
  obtain ⟨els, e0, hl, hels⟩ := hy
  cases e0
  obtain ⟨l, e1, e2⟩ := acs_sh (els := els) fun el hel => ⟨(hels el hel).1, (hels el hel).2⟩
  rw [e1, e2]
  exact tplays_spec m l emp (by have := maxLen_le; omega)

end Go.Proofs.Ytaifdlegjhncaaa
