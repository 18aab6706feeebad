/-
  Order and Choose of layer 15: contracts.
-/
import Derived.Test.YtaeppifdbcoipaaLc
namespace Go.Proofs.Ytaeppifdbcoipaa
open Go E
set_option linter.unusedVariables false
set_option linter.unusedSimpArgs false
set_option linter.unusedSectionVars false
set_option maxRecDepth 100000

def setAll (zs : List (Nat × AV)) (s : List AV) : List AV := zs.foldl (fun s p => s.set p.1 p.2) s
theorem setAll_nil (s : List AV) : setAll [] s = s := rfl
theorem setAll_cons (i : Nat) (v : AV) (zs : List (Nat × AV)) (s : List AV) : setAll ((i, v) :: zs) s = setAll zs (s.set i v) := rfl

/-- A loop at whose head slots are seen otherwise, as blocks are laid still. -/
theorem loop_sz {α : Type} {body : PostA → List AV → AHeap → Prop} {Q : PostA} {s : List AV} {h : AHeap} (ds : List Nat) (zs : List (Nat × AV)) (m : α → Nat) (f : α → List AV → List AV) (I : α → AHeap → Prop) (x0 : α) (h0 : AHeap)
    (z0 : FzH h h0) (z1 : FzL h h0 (kill ds s) (f x0 (setAll zs (kill ds s)))) (i0 : I x0 h0)
    (round : ∀ (N : List AV → AHeap → Prop) x h', I x h' → (∀ y s' h'' h2, m y < m x → FzH h'' h2 → kill ds s' = f y (setAll zs (kill ds s)) → I y h2 → N s' h'') → body (thenA N Q) (f x (setAll zs (kill ds s))) h') : loopA body Q s h :=
  loop_fz ds m (fun x => f x (setAll zs (kill ds s))) I x0 h0 z0 z1 i0 fun N x h' hi hN => round N x h' hi fun y s' h'' h2 h1 z e i => hN y s' h'' h2 h1 z (by rw [e]; exact FzL.refl _ _ _) i

def offL (a b by_ : Int) (l : List Cd) : List Off := l.filterMap fun c => if rankN a b by_ c = 65535 then none else some ⟨c, rankN a b by_ c⟩
theorem offL_len (a b by_ : Int) (l : List Cd) : (offL a b by_ l).length ≤ l.length := List.length_filterMap_le _ _
theorem offL_snoc (a b by_ : Int) (l : List Cd) (c : Cd) : offL a b by_ (l ++ [c]) = offL a b by_ l ++ (if rankN a b by_ c = 65535 then [] else [⟨c, rankN a b by_ c⟩]) := by
  simp only [offL, List.filterMap_append, List.filterMap_cons, List.filterMap_nil]
  split <;> simp_all
theorem mem_off {a b by_ : Int} {l : List Cd} {o : Off} (h : o ∈ offL a b by_ l) : o.c ∈ l ∧ o.v = rankN a b by_ o.c ∧ o.v ≠ 65535 := by
  obtain ⟨c, hc, e⟩ := List.mem_filterMap.1 h
  split at e
  · cases e
  · cases e; exact ⟨hc, rfl, by assumption⟩
theorem okRank_of {a b by_ : Int} {c : Cd} (h1 : okFn a b = true) (h2 : isLeast by_ = true) (h3 : oneB c = true) : okRank a b by_ c = true := by
  have := oneB_iff.1 h3
  have hc : isCost c.k = true := by simp [isCost]; omega
  simp only [okRank, okInc, h1, h2, h3, hc, Bool.and_self]
theorem rank_range {a b by_ : Int} {c : Cd} (h : okRank a b by_ c = true) : 1 ≤ rankN a b by_ c ∧ rankN a b by_ c ≤ 65535 := by
  simp only [okRank, Bool.and_eq_true] at h
  have h1 := inc_range h.1
  have h2 := oneB_iff.1 h.2
  unfold rankN; split <;> omega

theorem offers_spec (a b by_ : Int) (l : List Cd) (ex : Bool) (h : AHeap) (h1 : okFn a b = true) (h2 : isLeast by_ = true) (hl : l.all oneB = true) (hn : l.length ≤ 12) :
    CallsA Try.prog 95 [.ro (cat encC l) l.length ex, .int .i64 by_, .bd 50 [.agg [.int .i64 a, .int .i64 b]]] h (fun r h' => Grow h 4 r (cat encO (offL a b by_ l)) (offL a b by_ l).length h' ∧ Wr r) := by
  (refine CallsA.enterR (ac := c95) (rs := r95) Try.func95 rfl (by decide) c95_ok r95_ok ?_; intro Q hQ; simp only [go_sem, Int.reduceEq, Int.reduceAdd, Int.reduceSub, Int.reduceMul, Nat.reduceLT, Int.reduceLT, Int.reduceLE, Int.reduceToNat, Nat.reduceAdd, Nat.reduceSub, Nat.reduceMul, Nat.reduceLeDiff, reduceCtorEq, c95, Try.ntmps95])
  refine loop_st d95_0 (fun x : Nat × AV => l.length - x.1) (fun x s => (s.set 7 x.2).set 14 (.int .i64 (x.1 : Int))) (fun x H => x.1 ≤ l.length ∧ Grow h 4 x.2 (cat encO (offL a b by_ (l.take x.1))) (offL a b by_ (l.take x.1)).length H ∧ Wr x.2) (0, .nils) ?_ ⟨Nat.zero_le _, Grow.nil, Wr.nils⟩ ?_
  · (simp only [go_sem, Int.reduceEq, Int.reduceAdd, Int.reduceSub, Int.reduceMul, Nat.reduceLT, Int.reduceLT, Int.reduceLE, Int.reduceToNat, Nat.reduceAdd, Nat.reduceSub, Nat.reduceMul, Nat.reduceLeDiff, reduceCtorEq, d95_0] <;> rfl)
  rintro N ⟨k, v⟩ H ⟨hk, g, hw⟩ hN
  simp only at hk g hw
  simp only [go_sem, Int.reduceEq, Int.reduceAdd, Int.reduceSub, Int.reduceMul, Nat.reduceLT, Int.reduceLT, Int.reduceLE, Int.reduceToNat, Nat.reduceAdd, Nat.reduceSub, Nat.reduceMul, Nat.reduceLeDiff, reduceCtorEq, d95_0]
  have hadd := wadd1 (k := k) (by omega)
  by_cases hlt : k < l.length
  · have hsn := offL_snoc a b by_ (l.take k) l[k]
    rw [← List.take_succ_eq_append_getElem hlt] at hsn
    have hone : oneB l[k] = true := List.all_eq_true.1 hl _ (List.getElem_mem hlt)
    have hok := okRank_of h1 h2 hone
    have hwl := offL_len a b by_ (l.take k)
    rw [List.length_take] at hwl
    simp only [go_sem, Int.reduceEq, Int.reduceAdd, Int.reduceSub, Int.reduceMul, Nat.reduceLT, Int.reduceLT, Int.reduceLE, Int.reduceToNat, Nat.reduceAdd, Nat.reduceSub, Nat.reduceMul, Nat.reduceLeDiff, reduceCtorEq, hlt, hadd, rd_all encC_len hlt, encC_len, encC_sca]
    intro p hp
    simp only [go_sem, Int.reduceEq, Int.reduceAdd, Int.reduceSub, Int.reduceMul, Nat.reduceLT, Int.reduceLT, Int.reduceLE, Int.reduceToNat, Nat.reduceAdd, Nat.reduceSub, Nat.reduceMul, Nat.reduceLeDiff, reduceCtorEq, del_same, del_none hp, encC_len, rd_all encC_len hlt]
    refine (zrank_spec a b by_ l[k] _).use ?_
    by_cases hinf : rankN a b by_ l[k] = 65535
    · rw [if_pos hinf, List.append_nil] at hsn
      simp only [go_sem, Int.reduceEq, Int.reduceAdd, Int.reduceSub, Int.reduceMul, Nat.reduceLT, Int.reduceLT, Int.reduceLE, Int.reduceToNat, Nat.reduceAdd, Nat.reduceSub, Nat.reduceMul, Nat.reduceLeDiff, reduceCtorEq, hok, hinf, hadd]
      refine hN (k + 1, v) _ _ (by simp only; omega) ?_ ⟨hlt, by rw [hsn]; exact g, hw⟩
      simp only [go_sem, Int.reduceEq, Int.reduceAdd, Int.reduceSub, Int.reduceMul, Nat.reduceLT, Int.reduceLT, Int.reduceLE, Int.reduceToNat, Nat.reduceAdd, Nat.reduceSub, Nat.reduceMul, Nat.reduceLeDiff, reduceCtorEq, d95_0]
    · have hinf' : decide (rankN a b by_ l[k] = 65535) = false := decide_eq_false hinf
      rw [if_neg hinf] at hsn
      simp only [go_sem, Int.reduceEq, Int.reduceAdd, Int.reduceSub, Int.reduceMul, Nat.reduceLT, Int.reduceLT, Int.reduceLE, Int.reduceToNat, Nat.reduceAdd, Nat.reduceSub, Nat.reduceMul, Nat.reduceLeDiff, reduceCtorEq, hok, hinf', encC]
      refine g.add1W (x := encO ⟨l[k], rankN a b by_ l[k]⟩) rfl rfl (by omega) fun v' H' g' hw' => ?_
      simp only [go_sem, Int.reduceEq, Int.reduceAdd, Int.reduceSub, Int.reduceMul, Nat.reduceLT, Int.reduceLT, Int.reduceLE, Int.reduceToNat, Nat.reduceAdd, Nat.reduceSub, Nat.reduceMul, Nat.reduceLeDiff, reduceCtorEq, hadd]
      refine hN (k + 1, v') _ _ (by simp only; omega) ?_ ⟨hlt, ?_, hw'⟩
      · simp only [go_sem, Int.reduceEq, Int.reduceAdd, Int.reduceSub, Int.reduceMul, Nat.reduceLT, Int.reduceLT, Int.reduceLE, Int.reduceToNat, Nat.reduceAdd, Nat.reduceSub, Nat.reduceMul, Nat.reduceLeDiff, reduceCtorEq, d95_0]
      · rw [hsn, cat_append, List.length_append]
        exact g'
  · have hk' : k = l.length := by omega
    subst hk'
    rw [List.take_length] at g
    (simp only [go_sem, Int.reduceEq, Int.reduceAdd, Int.reduceSub, Int.reduceMul, Nat.reduceLT, Int.reduceLT, Int.reduceLE, Int.reduceToNat, Nat.reduceAdd, Nat.reduceSub, Nat.reduceMul, Nat.reduceLeDiff, reduceCtorEq, hlt]; refine frz_id ?_; simp only [go_sem, Int.reduceEq, Int.reduceAdd, Int.reduceSub, Int.reduceMul, Nat.reduceLT, Int.reduceLT, Int.reduceLE, Int.reduceToNat, Nat.reduceAdd, Nat.reduceSub, Nat.reduceMul, Nat.reduceLeDiff, reduceCtorEq])
    refine hQ _ _ _ _ _ _ (.inr rfl) rfl (FzH.refl _) (FzL.refl _ _ _) ⟨g, hw⟩

def prefN (now : Int) (o : Off) : Int := if o.c.n = now then 0 else 1
theorem pref_spec (now : Int) (o : Off) (h : AHeap) : PureA Try.prog 96 [.agg (encO o), .rp [.int .i64 now]] h (.int .i64 (prefN now o)) := by
  (refine PureA.enter (ac := c96) (rs := r96) Try.func96 rfl (by decide) c96_ok r96_ok ?_; intro Q hQ; simp only [go_sem, Int.reduceEq, Int.reduceAdd, Int.reduceSub, Int.reduceMul, Nat.reduceLT, Int.reduceLT, Int.reduceLE, Int.reduceToNat, Nat.reduceAdd, Nat.reduceSub, Nat.reduceMul, Nat.reduceLeDiff, reduceCtorEq, c96, Try.ntmps96, encO])
  cases e : decide (o.c.n = now)
  · have := of_decide_eq_false e
    simp only [go_sem, Int.reduceEq, Int.reduceAdd, Int.reduceSub, Int.reduceMul, Nat.reduceLT, Int.reduceLT, Int.reduceLE, Int.reduceToNat, Nat.reduceAdd, Nat.reduceSub, Nat.reduceMul, Nat.reduceLeDiff, reduceCtorEq, e]
    (refine hQ _ _ _ _ _ (by first | exact .inr rfl | exact .inl rfl) rfl (by first | exact FzH.refl _ | exact FzH.sub (by (repeat' (first | exact Sub.refl _ | assumption | (refine Sub.upd ?_ (by first | assumption | (simp only [*]; done) | exact Sub.isNone (by assumption) (by assumption) | exact Sub.isNone (by assumption) (by simp only [*]))))))) (FzL.refl _ _ _) ?_; try (simp only [go_sem, Int.reduceEq, Int.reduceAdd, Int.reduceSub, Int.reduceMul, Nat.reduceLT, Int.reduceLT, Int.reduceLE, Int.reduceToNat, Nat.reduceAdd, Nat.reduceSub, Nat.reduceMul, Nat.reduceLeDiff, reduceCtorEq, prefN, this]))
  · have := of_decide_eq_true e
    simp only [go_sem, Int.reduceEq, Int.reduceAdd, Int.reduceSub, Int.reduceMul, Nat.reduceLT, Int.reduceLT, Int.reduceLE, Int.reduceToNat, Nat.reduceAdd, Nat.reduceSub, Nat.reduceMul, Nat.reduceLeDiff, reduceCtorEq, e]
    (refine hQ _ _ _ _ _ (by first | exact .inr rfl | exact .inl rfl) rfl (by first | exact FzH.refl _ | exact FzH.sub (by (repeat' (first | exact Sub.refl _ | assumption | (refine Sub.upd ?_ (by first | assumption | (simp only [*]; done) | exact Sub.isNone (by assumption) (by assumption) | exact Sub.isNone (by assumption) (by simp only [*]))))))) (FzL.refl _ _ _) ?_; try (simp only [go_sem, Int.reduceEq, Int.reduceAdd, Int.reduceSub, Int.reduceMul, Nat.reduceLT, Int.reduceLT, Int.reduceLE, Int.reduceToNat, Nat.reduceAdd, Nat.reduceSub, Nat.reduceMul, Nat.reduceLeDiff, reduceCtorEq, prefN, this]))

/-- How one offer is against another one. -/
def zC (by_ now : Int) (x y : Off) : Int := or0 [cmpI (x.v / by_) (y.v / by_), cmpI (prefN now x) (prefN now y), cmpI x.c.r y.c.r, cmpI x.c.k y.c.k, cmpI x.c.n y.c.n]

theorem zcmp_spec (by_ now : Int) (hb : isLeast by_ = true) (x y : Off) (hx : 0 ≤ x.v ∧ x.v ≤ 65535) (hy : 0 ≤ y.v ∧ y.v ≤ 65535) (h : AHeap) :
    PureA Try.prog 98 [.agg (encO x), .agg (encO y), .rp [.int .i64 by_], .rp [.fn 96 [.rp [.int .i64 now]]]] h (.int .i64 (zC by_ now x y)) := by
  have hb : 1 ≤ by_ ∧ by_ ≤ 65535 := by simpa [isLeast] using hb
  have hz : (by_ == 0) = false := by simp; omega
  have q1 : IntKind.i64.wrap (x.v.tdiv by_) = x.v / by_ := by rw [Int.tdiv_eq_ediv_of_nonneg hx.1]; exact w64 (by have := Int.ediv_nonneg hx.1 (show 0 ≤ by_ by omega); omega) (by have := Int.ediv_le_self by_ hx.1; omega)
  have q2 : IntKind.i64.wrap (y.v.tdiv by_) = y.v / by_ := by rw [Int.tdiv_eq_ediv_of_nonneg hy.1]; exact w64 (by have := Int.ediv_nonneg hy.1 (show 0 ≤ by_ by omega); omega) (by have := Int.ediv_le_self by_ hy.1; omega)
  (refine PureA.enter (ac := c98) (rs := r98) Try.func98 rfl (by decide) c98_ok r98_ok ?_; intro Q hQ; simp only [go_sem, Int.reduceEq, Int.reduceAdd, Int.reduceSub, Int.reduceMul, Nat.reduceLT, Int.reduceLT, Int.reduceLE, Int.reduceToNat, Nat.reduceAdd, Nat.reduceSub, Nat.reduceMul, Nat.reduceLeDiff, reduceCtorEq, c98, Try.ntmps98, encO, hz, q1, q2])
  refine (cmp_spec _ _ _).use ?_
  simp only [go_sem, Int.reduceEq, Int.reduceAdd, Int.reduceSub, Int.reduceMul, Nat.reduceLT, Int.reduceLT, Int.reduceLE, Int.reduceToNat, Nat.reduceAdd, Nat.reduceSub, Nat.reduceMul, Nat.reduceLeDiff, reduceCtorEq]
  refine (pref_spec now x _).use ?_
  simp only [go_sem, Int.reduceEq, Int.reduceAdd, Int.reduceSub, Int.reduceMul, Nat.reduceLT, Int.reduceLT, Int.reduceLE, Int.reduceToNat, Nat.reduceAdd, Nat.reduceSub, Nat.reduceMul, Nat.reduceLeDiff, reduceCtorEq]
  refine (pref_spec now y _).use ?_
  simp only [go_sem, Int.reduceEq, Int.reduceAdd, Int.reduceSub, Int.reduceMul, Nat.reduceLT, Int.reduceLT, Int.reduceLE, Int.reduceToNat, Nat.reduceAdd, Nat.reduceSub, Nat.reduceMul, Nat.reduceLeDiff, reduceCtorEq]
  refine (cmp_spec _ _ _).use ?_
  simp only [go_sem, Int.reduceEq, Int.reduceAdd, Int.reduceSub, Int.reduceMul, Nat.reduceLT, Int.reduceLT, Int.reduceLE, Int.reduceToNat, Nat.reduceAdd, Nat.reduceSub, Nat.reduceMul, Nat.reduceLeDiff, reduceCtorEq]
  refine (cmp_spec _ _ _).use ?_
  simp only [go_sem, Int.reduceEq, Int.reduceAdd, Int.reduceSub, Int.reduceMul, Nat.reduceLT, Int.reduceLT, Int.reduceLE, Int.reduceToNat, Nat.reduceAdd, Nat.reduceSub, Nat.reduceMul, Nat.reduceLeDiff, reduceCtorEq]
  refine (cmp_spec _ _ _).use ?_
  simp only [go_sem, Int.reduceEq, Int.reduceAdd, Int.reduceSub, Int.reduceMul, Nat.reduceLT, Int.reduceLT, Int.reduceLE, Int.reduceToNat, Nat.reduceAdd, Nat.reduceSub, Nat.reduceMul, Nat.reduceLeDiff, reduceCtorEq]
  refine (cmp_spec _ _ _).use ?_
  simp only [go_sem, Int.reduceEq, Int.reduceAdd, Int.reduceSub, Int.reduceMul, Nat.reduceLT, Int.reduceLT, Int.reduceLE, Int.reduceToNat, Nat.reduceAdd, Nat.reduceSub, Nat.reduceMul, Nat.reduceLeDiff, reduceCtorEq]
  refine (or_spec [cmpI (x.v / by_) (y.v / by_), cmpI (prefN now x) (prefN now y), cmpI x.c.r y.c.r, cmpI x.c.k y.c.k, cmpI x.c.n y.c.n] _ _ (by simp)).use ?_
  simp only [go_sem, Int.reduceEq, Int.reduceAdd, Int.reduceSub, Int.reduceMul, Nat.reduceLT, Int.reduceLT, Int.reduceLE, Int.reduceToNat, Nat.reduceAdd, Nat.reduceSub, Nat.reduceMul, Nat.reduceLeDiff, reduceCtorEq]
  (refine hQ _ _ _ _ _ (by first | exact .inr rfl | exact .inl rfl) rfl (by first | exact FzH.refl _ | exact FzH.sub (by (repeat' (first | exact Sub.refl _ | assumption | (refine Sub.upd ?_ (by first | assumption | (simp only [*]; done) | exact Sub.isNone (by assumption) (by assumption) | exact Sub.isNone (by assumption) (by simp only [*]))))))) (FzL.refl _ _ _) ?_; try (simp only [go_sem, Int.reduceEq, Int.reduceAdd, Int.reduceSub, Int.reduceMul, Nat.reduceLT, Int.reduceLT, Int.reduceLE, Int.reduceToNat, Nat.reduceAdd, Nat.reduceSub, Nat.reduceMul, Nat.reduceLeDiff, reduceCtorEq, zC]))

def ordL (a b by_ now : Int) (l : List Cd) : List Cd := (isort (zC by_ now) (offL a b by_ l)).map (·.c)
def okOrd (a b by_ : Int) (l : List Cd) : Bool := okFn a b && rightL l && isLeast by_
def ordR (a b by_ now : Int) (l : List Cd) : List Cd := if okOrd a b by_ l then ordL a b by_ now l else []

theorem order_spec (a b by_ now : Int) (l : List Cd) (ex : Bool) (h : AHeap) (hn : l.length ≤ 12) :
    PureA Try.prog 43 [.agg [.int .i64 a, .int .i64 b], .int .i64 by_, .int .i64 now, .ro (cat encC l) l.length ex] h
      (.tup [.ro (cat encC (ordR a b by_ now l)) (ordR a b by_ now l).length false, .int .i64 (if okOrd a b by_ l then 0 else 1)]) := by
  refine Grow.pure2 (esz := 3) ?_
  have bad : okOrd a b by_ l = false → ∃ v, AV.tup [.nils, .int .i64 1] = .tup [v, .int .i64 (if okOrd a b by_ l then 0 else 1)] ∧ Grow h 3 v (cat encC (ordR a b by_ now l)) (ordR a b by_ now l).length h := fun e => by
    refine ⟨.nils, by rw [e]; rfl, ?_⟩
    have : ordR a b by_ now l = [] := by unfold ordR; rw [e]; rfl
    rw [this]; exact Grow.nil
  (refine CallsA.enterR (ac := c43) (rs := r43) Try.func43 rfl (by decide) c43_ok r43_ok ?_; intro Q hQ; simp only [go_sem, Int.reduceEq, Int.reduceAdd, Int.reduceSub, Int.reduceMul, Nat.reduceLT, Int.reduceLT, Int.reduceLE, Int.reduceToNat, Nat.reduceAdd, Nat.reduceSub, Nat.reduceMul, Nat.reduceLeDiff, reduceCtorEq, c43, Try.ntmps43])
  refine (zcheck_spec a b _).use ?_
  cases g1 : okFn a b
  · simp only [go_sem, Int.reduceEq, Int.reduceAdd, Int.reduceSub, Int.reduceMul, Nat.reduceLT, Int.reduceLT, Int.reduceLE, Int.reduceToNat, Nat.reduceAdd, Nat.reduceSub, Nat.reduceMul, Nat.reduceLeDiff, reduceCtorEq, show decide ((1 : Int) = 0) = false from rfl]
    refine hQ _ _ _ _ _ _ (.inr rfl) rfl (FzH.refl _) (FzL.refl _ _ _) (bad (by unfold okOrd; rw [g1]; rfl))
  simp only [go_sem, Int.reduceEq, Int.reduceAdd, Int.reduceSub, Int.reduceMul, Nat.reduceLT, Int.reduceLT, Int.reduceLE, Int.reduceToNat, Nat.reduceAdd, Nat.reduceSub, Nat.reduceMul, Nat.reduceLeDiff, reduceCtorEq]
  refine (zright_spec l ex _ (by omega)).use ?_
  cases g2 : rightL l
  · simp only [go_sem, Int.reduceEq, Int.reduceAdd, Int.reduceSub, Int.reduceMul, Nat.reduceLT, Int.reduceLT, Int.reduceLE, Int.reduceToNat, Nat.reduceAdd, Nat.reduceSub, Nat.reduceMul, Nat.reduceLeDiff, reduceCtorEq]
    refine hQ _ _ _ _ _ _ (.inr rfl) rfl (FzH.refl _) (FzL.refl _ _ _) (bad (by unfold okOrd; rw [g2, Bool.and_false]; rfl))
  simp only [go_sem, Int.reduceEq, Int.reduceAdd, Int.reduceSub, Int.reduceMul, Nat.reduceLT, Int.reduceLT, Int.reduceLE, Int.reduceToNat, Nat.reduceAdd, Nat.reduceSub, Nat.reduceMul, Nat.reduceLeDiff, reduceCtorEq]
  refine (least_spec by_ _).use ?_
  cases g3 : isLeast by_
  · simp only [go_sem, Int.reduceEq, Int.reduceAdd, Int.reduceSub, Int.reduceMul, Nat.reduceLT, Int.reduceLT, Int.reduceLE, Int.reduceToNat, Nat.reduceAdd, Nat.reduceSub, Nat.reduceMul, Nat.reduceLeDiff, reduceCtorEq]
    refine hQ _ _ _ _ _ _ (.inr rfl) rfl (FzH.refl _) (FzL.refl _ _ _) (bad (by unfold okOrd; rw [g3, Bool.and_false]))
  have hok : okOrd a b by_ l = true := by unfold okOrd; rw [g1, g2, g3]; rfl
  have hres : ordR a b by_ now l = ordL a b by_ now l := by unfold ordR; rw [if_pos hok]
  rw [hres, hok] at hQ
  simp only [go_sem, Int.reduceEq, Int.reduceAdd, Int.reduceSub, Int.reduceMul, Nat.reduceLT, Int.reduceLT, Int.reduceLE, Int.reduceToNat, Nat.reduceAdd, Nat.reduceSub, Nat.reduceMul, Nat.reduceLeDiff, reduceCtorEq]
  refine (offers_spec a b by_ l ex _ g1 g3 (rightL_one g2) hn).use ?_
  rintro v H ⟨gr, hw⟩
  simp only [go_sem, Int.reduceEq, Int.reduceAdd, Int.reduceSub, Int.reduceMul, Nat.reduceLT, Int.reduceLT, Int.reduceLE, Int.reduceToNat, Nat.reduceAdd, Nat.reduceSub, Nat.reduceMul, Nat.reduceLeDiff, reduceCtorEq]
  intro p hp
  simp only [go_sem, Int.reduceEq, Int.reduceAdd, Int.reduceSub, Int.reduceMul, Nat.reduceLT, Int.reduceLT, Int.reduceLE, Int.reduceToNat, Nat.reduceAdd, Nat.reduceSub, Nat.reduceMul, Nat.reduceLeDiff, reduceCtorEq, del_same, del_none hp]
  have hrng : ∀ o ∈ offL a b by_ l, 0 ≤ o.v ∧ o.v ≤ 65535 := fun o ho => by
    obtain ⟨m1, m2, _⟩ := mem_off ho
    have := rank_range (okRank_of g1 g3 (List.all_eq_true.1 (rightL_one g2) _ m1))
    omega
  have hol := offL_len a b by_ l
  refine (O_sortG (zC by_ now) (offL a b by_ l) [.rp [.int .i64 by_], .rp [.fn 96 [.rp [.int .i64 now]]]] 98 h H v _ rfl gr hw (by omega) fun x hx y hy h => zcmp_spec by_ now g3 x y (hrng x hx) (hrng y hy) h).use ?_
  rintro r H' ⟨rfl, gr'⟩
  have hlen := gr'.len
  have hsl := isort_len (c := zC by_ now) (offL a b by_ l)
  rw [← hsl] at gr' hlen
  have hL : ordL a b by_ now l = (isort (zC by_ now) (offL a b by_ l)).map (·.c) := rfl
  rw [hL] at hQ
  generalize isort (zC by_ now) (offL a b by_ l) = S at *
  simp only [go_sem, Int.reduceEq, Int.reduceAdd, Int.reduceSub, Int.reduceMul, Nat.reduceLT, Int.reduceLT, Int.reduceLE, Int.reduceToNat, Nat.reduceAdd, Nat.reduceSub, Nat.reduceMul, Nat.reduceLeDiff, reduceCtorEq, hlen]
  refine loop_sz d43_0 [(11, .ro (cat encO S) S.length false), (35, .ro (cat encO S) S.length false), (38, .ro (cat encO S) S.length false), (33, .undef)] (fun x : Nat × AV => S.length - x.1) (fun x s => (s.set 13 x.2).set 40 (.int .i64 (x.1 : Int))) (fun x H => x.1 ≤ S.length ∧ Grow h 3 x.2 (cat encC ((S.take x.1).map (·.c))) x.1 H) (0, .nils) h gr'.fzH ?_ ⟨Nat.zero_le _, Grow.nil⟩ ?_
  · simp only [go_sem, Int.reduceEq, Int.reduceAdd, Int.reduceSub, Int.reduceMul, Nat.reduceLT, Int.reduceLT, Int.reduceLE, Int.reduceToNat, Nat.reduceAdd, Nat.reduceSub, Nat.reduceMul, Nat.reduceLeDiff, reduceCtorEq, d43_0, setAll_nil, setAll_cons]
    (repeat' (first | exact FzL.nil | exact Fz.refl _ | exact FzL.refl _ _ _ | exact Fz.nils | exact Grow.fz (by assumption) | refine FzL.cons ?_ ?_ | refine Fz.agg ?_ | refine Fz.tup ?_ | refine Fz.ro ?_ (by simp)))
    exact Fz.undef _
  rintro N ⟨k, v2⟩ H ⟨hk, g⟩ hN
  simp only at hk g
  simp only [go_sem, Int.reduceEq, Int.reduceAdd, Int.reduceSub, Int.reduceMul, Nat.reduceLT, Int.reduceLT, Int.reduceLE, Int.reduceToNat, Nat.reduceAdd, Nat.reduceSub, Nat.reduceMul, Nat.reduceLeDiff, reduceCtorEq, d43_0, setAll_nil, setAll_cons]
  have hadd := wadd1 (k := k) (by omega)
  by_cases hlt : k < S.length
  · have rk := rd_all (h := H) encO_len hlt
    simp only [go_sem, Int.reduceEq, Int.reduceAdd, Int.reduceSub, Int.reduceMul, Nat.reduceLT, Int.reduceLT, Int.reduceLE, Int.reduceToNat, Nat.reduceAdd, Nat.reduceSub, Nat.reduceMul, Nat.reduceLeDiff, reduceCtorEq, hlt, hadd, rk, encO_len, encO_sca]
    intro q hq
    simp only [go_sem, Int.reduceEq, Int.reduceAdd, Int.reduceSub, Int.reduceMul, Nat.reduceLT, Int.reduceLT, Int.reduceLE, Int.reduceToNat, Nat.reduceAdd, Nat.reduceSub, Nat.reduceMul, Nat.reduceLeDiff, reduceCtorEq, del_same, del_none hq, rk, encO]
    refine g.add1 (x := encC S[k].c) rfl rfl (by omega) fun v' H' g' => ?_
    simp only [go_sem, Int.reduceEq, Int.reduceAdd, Int.reduceSub, Int.reduceMul, Nat.reduceLT, Int.reduceLT, Int.reduceLE, Int.reduceToNat, Nat.reduceAdd, Nat.reduceSub, Nat.reduceMul, Nat.reduceLeDiff, reduceCtorEq, hadd]
    refine hN (k + 1, v') _ _ _ (by simp only; omega) (FzH.refl _) ?_ ⟨hlt, ?_⟩
    · simp only [go_sem, Int.reduceEq, Int.reduceAdd, Int.reduceSub, Int.reduceMul, Nat.reduceLT, Int.reduceLT, Int.reduceLE, Int.reduceToNat, Nat.reduceAdd, Nat.reduceSub, Nat.reduceMul, Nat.reduceLeDiff, reduceCtorEq, d43_0, setAll_nil, setAll_cons]
    · simp only
      rw [List.take_succ_eq_append_getElem hlt, List.map_append, cat_append]
      simpa [cat] using g'
  · have hkl : k = S.length := by omega
    subst hkl
    rw [List.take_length] at g
    simp only [go_sem, Int.reduceEq, Int.reduceAdd, Int.reduceSub, Int.reduceMul, Nat.reduceLT, Int.reduceLT, Int.reduceLE, Int.reduceToNat, Nat.reduceAdd, Nat.reduceSub, Nat.reduceMul, Nat.reduceLeDiff, reduceCtorEq, hlt]
    refine frz_id ?_
    simp only [go_sem, Int.reduceEq, Int.reduceAdd, Int.reduceSub, Int.reduceMul, Nat.reduceLT, Int.reduceLT, Int.reduceLE, Int.reduceToNat, Nat.reduceAdd, Nat.reduceSub, Nat.reduceMul, Nat.reduceLeDiff, reduceCtorEq]
    refine hQ _ _ _ _ _ _ (.inr rfl) rfl (FzH.refl _) (FzL.refl _ _ _) ⟨v2, rfl, by rw [List.length_map]; exact g⟩

theorem zchoose_spec (a b by_ now : Int) (l : List Cd) (ex : Bool) (h : AHeap) (hn : l.length ≤ 12) :
    PureA Try.prog 44 [.agg [.int .i64 a, .int .i64 b], .int .i64 by_, .int .i64 now, .ro (cat encC l) l.length ex] h
      (.tup [.int .i64 (((ordR a b by_ now l).head?.map (·.n)).getD 0), .int .i64 (if okOrd a b by_ l then (if ordL a b by_ now l = [] then 8 else 0) else 1)]) := by
  (refine PureA.enter (ac := c44) (rs := r44) Try.func44 rfl (by decide) c44_ok r44_ok ?_; intro Q hQ; simp only [go_sem, Int.reduceEq, Int.reduceAdd, Int.reduceSub, Int.reduceMul, Nat.reduceLT, Int.reduceLT, Int.reduceLE, Int.reduceToNat, Nat.reduceAdd, Nat.reduceSub, Nat.reduceMul, Nat.reduceLeDiff, reduceCtorEq, c44, Try.ntmps44])
  refine (order_spec a b by_ now l ex _ hn).use ?_
  cases g : okOrd a b by_ l
  · have e : ordR a b by_ now l = [] := by unfold ordR; rw [g]; rfl
    have hd : ((ordR a b by_ now l).head?.map (·.n)).getD 0 = 0 := by rw [e]; rfl
    simp only [go_sem, Int.reduceEq, Int.reduceAdd, Int.reduceSub, Int.reduceMul, Nat.reduceLT, Int.reduceLT, Int.reduceLE, Int.reduceToNat, Nat.reduceAdd, Nat.reduceSub, Nat.reduceMul, Nat.reduceLeDiff, reduceCtorEq, show decide ((1 : Int) = 0) = false from rfl]
    (refine hQ _ _ _ _ _ (by first | exact .inr rfl | exact .inl rfl) rfl (by first | exact FzH.refl _ | exact FzH.sub (by (repeat' (first | exact Sub.refl _ | assumption | (refine Sub.upd ?_ (by first | assumption | (simp only [*]; done) | exact Sub.isNone (by assumption) (by assumption) | exact Sub.isNone (by assumption) (by simp only [*]))))))) (FzL.refl _ _ _) ?_; try (simp only [go_sem, Int.reduceEq, Int.reduceAdd, Int.reduceSub, Int.reduceMul, Nat.reduceLT, Int.reduceLT, Int.reduceLE, Int.reduceToNat, Nat.reduceAdd, Nat.reduceSub, Nat.reduceMul, Nat.reduceLeDiff, reduceCtorEq, g, hd]))
  have e : ordR a b by_ now l = ordL a b by_ now l := by unfold ordR; rw [g]; rfl
  rw [e] at hQ ⊢
  cases e2 : ordL a b by_ now l with
  | nil =>
    have hz : decide (((ordL a b by_ now l).length : Int) = 0) = true := by rw [e2]; rfl
    have hd : ((ordL a b by_ now l).head?.map (·.n)).getD 0 = 0 := by rw [e2]; rfl
    have he : (ordL a b by_ now l = []) = True := by rw [e2]; simp
    rw [← e2]
    simp only [go_sem, Int.reduceEq, Int.reduceAdd, Int.reduceSub, Int.reduceMul, Nat.reduceLT, Int.reduceLT, Int.reduceLE, Int.reduceToNat, Nat.reduceAdd, Nat.reduceSub, Nat.reduceMul, Nat.reduceLeDiff, reduceCtorEq, hz]
    (refine hQ _ _ _ _ _ (by first | exact .inr rfl | exact .inl rfl) rfl (by first | exact FzH.refl _ | exact FzH.sub (by (repeat' (first | exact Sub.refl _ | assumption | (refine Sub.upd ?_ (by first | assumption | (simp only [*]; done) | exact Sub.isNone (by assumption) (by assumption) | exact Sub.isNone (by assumption) (by simp only [*]))))))) (FzL.refl _ _ _) ?_; try (simp only [go_sem, Int.reduceEq, Int.reduceAdd, Int.reduceSub, Int.reduceMul, Nat.reduceLT, Int.reduceLT, Int.reduceLE, Int.reduceToNat, Nat.reduceAdd, Nat.reduceSub, Nat.reduceMul, Nat.reduceLeDiff, reduceCtorEq, g, hd, he]))
  | cons c q =>
    have hlen : 0 < (ordL a b by_ now l).length := by rw [e2]; simp
    have hz : decide (((ordL a b by_ now l).length : Int) = 0) = false := decide_eq_false (by omega)
    have hp : (0 : Int) < ((ordL a b by_ now l).length : Int) := by omega
    have r0 : aload h (.rp (cat encC (ordL a b by_ now l))) = some (.int .i64 c.n) := by rw [e2]; rfl
    have hd : ((ordL a b by_ now l).head?.map (·.n)).getD 0 = c.n := by rw [e2]; rfl
    have hne : (ordL a b by_ now l = []) = False := by rw [e2]; simp
    rw [← e2]
    simp only [go_sem, Int.reduceEq, Int.reduceAdd, Int.reduceSub, Int.reduceMul, Nat.reduceLT, Int.reduceLT, Int.reduceLE, Int.reduceToNat, Nat.reduceAdd, Nat.reduceSub, Nat.reduceMul, Nat.reduceLeDiff, reduceCtorEq, hz, hp, r0]
    (refine hQ _ _ _ _ _ (by first | exact .inr rfl | exact .inl rfl) rfl (by first | exact FzH.refl _ | exact FzH.sub (by (repeat' (first | exact Sub.refl _ | assumption | (refine Sub.upd ?_ (by first | assumption | (simp only [*]; done) | exact Sub.isNone (by assumption) (by assumption) | exact Sub.isNone (by assumption) (by simp only [*]))))))) (FzL.refl _ _ _) ?_; try (simp only [go_sem, Int.reduceEq, Int.reduceAdd, Int.reduceSub, Int.reduceMul, Nat.reduceLT, Int.reduceLT, Int.reduceLE, Int.reduceToNat, Nat.reduceAdd, Nat.reduceSub, Nat.reduceMul, Nat.reduceLeDiff, reduceCtorEq, g, hne, hd]))

end Go.Proofs.Ytaeppifdbcoipaa
