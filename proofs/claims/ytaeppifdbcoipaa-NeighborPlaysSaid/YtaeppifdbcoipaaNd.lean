/-
  Neighbours: contracts.
-/
import Derived.Test.YtaeppifdbcoipaaNc
import Derived.Test.YtaeppifdbcoipaaFi
namespace Go.Proofs.Ytaeppifdbcoipaa
open Go E
set_option linter.unusedVariables false
set_option linter.unusedSimpArgs false
set_option maxRecDepth 100000

def ewE (e : En) : AV := .agg (encE e)

/-- The table at t, its map at id. -/
structure TbIn (t id : Nat) (most : Int) (kept : List Int) (f : Tb) (H : AHeap) : Prop where
  blk : H t = some (.cells [.ro (cat i1 kept) kept.length false, .int .i64 most, .map id] 3)
  map : ∃ es c, H id = some (.map es c) ∧ MapIs kI ewE es f
  ok : tbOk f

theorem TbIn.sub {t id : Nat} {most : Int} {kept : List Int} {f : Tb} {H H' : AHeap} (h : TbIn t id most kept f H) (s : Sub H H') : TbIn t id most kept f H' := by
  obtain ⟨es, c, h1, h2⟩ := h.map
  exact ⟨s _ _ h.blk, ⟨es, c, s _ _ h1, h2⟩, h.ok⟩
theorem TbIn.ne {t id : Nat} {most : Int} {kept : List Int} {f : Tb} {H : AHeap} (h : TbIn t id most kept f H) : t ≠ id := by
  obtain ⟨es, c, h1, _⟩ := h.map
  rintro rfl
  rw [h.blk] at h1; cases h1

theorem cmp_specZ (a b : Int) (h : AHeap) : PureA Try.prog 100 [.int .i64 a, .int .i64 b] h (.int .i64 (cmpZ a b)) := cmp_spec a b h

theorem index_spec (l : List Int) (x : Int) (ex : Bool) (h : AHeap) (hn : l.length ≤ 1000000) : PureA Try.prog 180 [.ro (cat i1 l) l.length ex, .int .i64 x] h (.int .i64 (idxP (fun y => decide (x = y)) l)) := by
  (refine PureA.enter (ac := c180) (rs := r180) Try.func180 rfl (by decide) c180_ok r180_ok ?_; intro Q hQ; simp only [go_sem, Int.reduceEq, Int.reduceAdd, Int.reduceSub, Int.reduceMul, Nat.reduceLT, Int.reduceLT, Int.reduceLE, Int.reduceToNat, Nat.reduceAdd, Nat.reduceSub, Nat.reduceMul, Nat.reduceLeDiff, reduceCtorEq, c180, Try.ntmps180])
  refine loop_range d180_0 (l.length) (fun k s => s.set 8 (.int .i64 k)) (fun k h' => ((l.take k).any (fun y => decide (x = y)) = false) ∧ h' = h) ?_ ⟨rfl, rfl⟩ ?_
  · (simp only [go_sem, Int.reduceEq, Int.reduceAdd, Int.reduceSub, Int.reduceMul, Nat.reduceLT, Int.reduceLT, Int.reduceLE, Int.reduceToNat, Nat.reduceAdd, Nat.reduceSub, Nat.reduceMul, Nat.reduceLeDiff, reduceCtorEq, d180_0] <;> rfl)
  rintro N k h' hk ⟨hall, rfl⟩ hN
  simp only [go_sem, Int.reduceEq, Int.reduceAdd, Int.reduceSub, Int.reduceMul, Nat.reduceLT, Int.reduceLT, Int.reduceLE, Int.reduceToNat, Nat.reduceAdd, Nat.reduceSub, Nat.reduceMul, Nat.reduceLeDiff, reduceCtorEq, d180_0]
  have hadd := wadd1 (k := k) (by omega)
  by_cases hlt : k < l.length
  · have ht := take_any hlt hall
    have hh := idx_hit hlt hall
    simp only [go_sem, Int.reduceEq, Int.reduceAdd, Int.reduceSub, Int.reduceMul, Nat.reduceLT, Int.reduceLT, Int.reduceLE, Int.reduceToNat, Nat.reduceAdd, Nat.reduceSub, Nat.reduceMul, Nat.reduceLeDiff, reduceCtorEq, hlt, hadd, rdI hlt]
    cases e : decide (x = l[k])
    · simp only [go_sem, Int.reduceEq, Int.reduceAdd, Int.reduceSub, Int.reduceMul, Nat.reduceLT, Int.reduceLT, Int.reduceLE, Int.reduceToNat, Nat.reduceAdd, Nat.reduceSub, Nat.reduceMul, Nat.reduceLeDiff, reduceCtorEq, e]
      (refine hN _ _ hlt ?_ ⟨?_, rfl⟩; (simp only [go_sem, Int.reduceEq, Int.reduceAdd, Int.reduceSub, Int.reduceMul, Nat.reduceLT, Int.reduceLT, Int.reduceLE, Int.reduceToNat, Nat.reduceAdd, Nat.reduceSub, Nat.reduceMul, Nat.reduceLeDiff, reduceCtorEq, d180_0, hadd]))
      rw [ht]; exact e
    · simp only [go_sem, Int.reduceEq, Int.reduceAdd, Int.reduceSub, Int.reduceMul, Nat.reduceLT, Int.reduceLT, Int.reduceLE, Int.reduceToNat, Nat.reduceAdd, Nat.reduceSub, Nat.reduceMul, Nat.reduceLeDiff, reduceCtorEq, e]
      (refine hQ _ _ _ _ _ (by first | exact .inr rfl | exact .inl rfl) rfl (by first | exact FzH.refl _ | exact FzH.sub (by (repeat' (first | exact Sub.refl _ | assumption | (refine Sub.upd ?_ (by first | assumption | (simp only [*]; done) | exact Sub.isNone (by assumption) (by assumption) | exact Sub.isNone (by assumption) (by simp only [*]))))))) (FzL.refl _ _ _) ?_; try (simp only [go_sem, Int.reduceEq, Int.reduceAdd, Int.reduceSub, Int.reduceMul, Nat.reduceLT, Int.reduceLT, Int.reduceLE, Int.reduceToNat, Nat.reduceAdd, Nat.reduceSub, Nat.reduceMul, Nat.reduceLeDiff, reduceCtorEq, hh e]))
  · (simp only [go_sem, Int.reduceEq, Int.reduceAdd, Int.reduceSub, Int.reduceMul, Nat.reduceLT, Int.reduceLT, Int.reduceLE, Int.reduceToNat, Nat.reduceAdd, Nat.reduceSub, Nat.reduceMul, Nat.reduceLeDiff, reduceCtorEq, hlt]; refine frz_id ?_; simp only [go_sem, Int.reduceEq, Int.reduceAdd, Int.reduceSub, Int.reduceMul, Nat.reduceLT, Int.reduceLT, Int.reduceLE, Int.reduceToNat, Nat.reduceAdd, Nat.reduceSub, Nat.reduceMul, Nat.reduceLeDiff, reduceCtorEq])
    refine hQ _ _ _ _ _ (by first | exact .inr rfl | exact .inl rfl) rfl (by first | exact FzH.refl _ | exact FzH.sub (by (repeat' (first | exact Sub.refl _ | assumption | (refine Sub.upd ?_ (by first | assumption | (simp only [*]; done) | exact Sub.isNone (by assumption) (by assumption) | exact Sub.isNone (by assumption) (by simp only [*]))))))) (FzL.refl _ _ _) ?_
    rw [List.take_of_length_le (by omega)] at hall
    simp only [go_sem, Int.reduceEq, Int.reduceAdd, Int.reduceSub, Int.reduceMul, Nat.reduceLT, Int.reduceLT, Int.reduceLE, Int.reduceToNat, Nat.reduceAdd, Nat.reduceSub, Nat.reduceMul, Nat.reduceLeDiff, reduceCtorEq, idx_none hall]

theorem any_contains (x : Int) (l : List Int) : l.any (fun y => decide (x = y)) = l.contains x := by
  induction l with
  | nil => rfl
  | cons y l ih =>
    rw [List.any_cons, List.contains_cons, ih]
    congr 1

theorem cont_spec (l : List Int) (x : Int) (ex : Bool) (h : AHeap) (hn : l.length ≤ 1000000) : PureA Try.prog 158 [.ro (cat i1 l) l.length ex, .int .i64 x] h (.bool (l.contains x)) := by
  (refine PureA.enter (ac := c158) (rs := r158) Try.func158 rfl (by decide) c158_ok r158_ok ?_; intro Q hQ; simp only [go_sem, Int.reduceEq, Int.reduceAdd, Int.reduceSub, Int.reduceMul, Nat.reduceLT, Int.reduceLT, Int.reduceLE, Int.reduceToNat, Nat.reduceAdd, Nat.reduceSub, Nat.reduceMul, Nat.reduceLeDiff, reduceCtorEq, c158, Try.ntmps158])
  refine (index_spec l x ex h hn).use ?_
  simp only [go_sem, Int.reduceEq, Int.reduceAdd, Int.reduceSub, Int.reduceMul, Nat.reduceLT, Int.reduceLT, Int.reduceLE, Int.reduceToNat, Nat.reduceAdd, Nat.reduceSub, Nat.reduceMul, Nat.reduceLeDiff, reduceCtorEq]
  refine hQ _ _ _ _ _ (by first | exact .inr rfl | exact .inl rfl) rfl (by first | exact FzH.refl _ | exact FzH.sub (by (repeat' (first | exact Sub.refl _ | assumption | (refine Sub.upd ?_ (by first | assumption | (simp only [*]; done) | exact Sub.isNone (by assumption) (by assumption) | exact Sub.isNone (by assumption) (by simp only [*]))))))) (FzL.refl _ _ _) ?_
  simp only [go_sem, Int.reduceEq, Int.reduceAdd, Int.reduceSub, Int.reduceMul, Nat.reduceLT, Int.reduceLT, Int.reduceLE, Int.reduceToNat, Nat.reduceAdd, Nat.reduceSub, Nat.reduceMul, Nat.reduceLeDiff, reduceCtorEq, idxP_any, any_contains]

theorem nall1_spec (a b : En) (h : AHeap) : PureA Try.prog 112 [.agg (encE a), .agg (encE b)] h (.int .i64 (nodeC a b)) := by
  (refine PureA.enter (ac := c112) (rs := r112) Try.func112 rfl (by decide) c112_ok r112_ok ?_; intro Q hQ; simp only [go_sem, Int.reduceEq, Int.reduceAdd, Int.reduceSub, Int.reduceMul, Nat.reduceLT, Int.reduceLT, Int.reduceLE, Int.reduceToNat, Nat.reduceAdd, Nat.reduceSub, Nat.reduceMul, Nat.reduceLeDiff, reduceCtorEq, c112, Try.ntmps112, encE])
  refine (cmp_specZ _ _ _).use ?_
  simp only [go_sem, Int.reduceEq, Int.reduceAdd, Int.reduceSub, Int.reduceMul, Nat.reduceLT, Int.reduceLT, Int.reduceLE, Int.reduceToNat, Nat.reduceAdd, Nat.reduceSub, Nat.reduceMul, Nat.reduceLeDiff, reduceCtorEq]
  (refine hQ _ _ _ _ _ (by first | exact .inr rfl | exact .inl rfl) rfl (by first | exact FzH.refl _ | exact FzH.sub (by (repeat' (first | exact Sub.refl _ | assumption | (refine Sub.upd ?_ (by first | assumption | (simp only [*]; done) | exact Sub.isNone (by assumption) (by assumption) | exact Sub.isNone (by assumption) (by simp only [*]))))))) (FzL.refl _ _ _) ?_; try (simp only [go_sem, Int.reduceEq, Int.reduceAdd, Int.reduceSub, Int.reduceMul, Nat.reduceLT, Int.reduceLT, Int.reduceLE, Int.reduceToNat, Nat.reduceAdd, Nat.reduceSub, Nat.reduceMul, Nat.reduceLeDiff, reduceCtorEq, nodeC]))

theorem orZ_eq (l : List Int) : or0 l = orZ l := by
  induction l with
  | nil => rfl
  | cons x l ih => simp only [or0, orZ, ih]

theorem nworse_spec (a b : En) (h : AHeap) : PureA Try.prog 109 [.agg (encE a), .agg (encE b)] h (.int .i64 (worseE a b)) := by
  (refine PureA.enter (ac := c109) (rs := r109) Try.func109 rfl (by decide) c109_ok r109_ok ?_; intro Q hQ; simp only [go_sem, Int.reduceEq, Int.reduceAdd, Int.reduceSub, Int.reduceMul, Nat.reduceLT, Int.reduceLT, Int.reduceLE, Int.reduceToNat, Nat.reduceAdd, Nat.reduceSub, Nat.reduceMul, Nat.reduceLeDiff, reduceCtorEq, c109, Try.ntmps109, encE])
  refine (cmp_specZ _ _ _).use ?_
  simp only [go_sem, Int.reduceEq, Int.reduceAdd, Int.reduceSub, Int.reduceMul, Nat.reduceLT, Int.reduceLT, Int.reduceLE, Int.reduceToNat, Nat.reduceAdd, Nat.reduceSub, Nat.reduceMul, Nat.reduceLeDiff, reduceCtorEq]
  refine (cmp_specZ _ _ _).use ?_
  simp only [go_sem, Int.reduceEq, Int.reduceAdd, Int.reduceSub, Int.reduceMul, Nat.reduceLT, Int.reduceLT, Int.reduceLE, Int.reduceToNat, Nat.reduceAdd, Nat.reduceSub, Nat.reduceMul, Nat.reduceLeDiff, reduceCtorEq]
  refine (cmp_specZ _ _ _).use ?_
  simp only [go_sem, Int.reduceEq, Int.reduceAdd, Int.reduceSub, Int.reduceMul, Nat.reduceLT, Int.reduceLT, Int.reduceLE, Int.reduceToNat, Nat.reduceAdd, Nat.reduceSub, Nat.reduceMul, Nat.reduceLeDiff, reduceCtorEq]
  refine (cmp_specZ _ _ _).use ?_
  simp only [go_sem, Int.reduceEq, Int.reduceAdd, Int.reduceSub, Int.reduceMul, Nat.reduceLT, Int.reduceLT, Int.reduceLE, Int.reduceToNat, Nat.reduceAdd, Nat.reduceSub, Nat.reduceMul, Nat.reduceLeDiff, reduceCtorEq]
  have := or_spec [cmpZ a.cost b.cost, cmpZ a.rank b.rank, cmpZ b.heard a.heard, cmpZ a.node b.node] true h (by simp)
  refine (show PureA Try.prog 99 [.ro [.int .i64 (cmpZ a.cost b.cost), .int .i64 (cmpZ a.rank b.rank), .int .i64 (cmpZ b.heard a.heard), .int .i64 (cmpZ a.node b.node)] 4 true] h _ from this).use ?_
  simp only [go_sem, Int.reduceEq, Int.reduceAdd, Int.reduceSub, Int.reduceMul, Nat.reduceLT, Int.reduceLT, Int.reduceLE, Int.reduceToNat, Nat.reduceAdd, Nat.reduceSub, Nat.reduceMul, Nat.reduceLeDiff, reduceCtorEq]
  (refine hQ _ _ _ _ _ (by first | exact .inr rfl | exact .inl rfl) rfl (by first | exact FzH.refl _ | exact FzH.sub (by (repeat' (first | exact Sub.refl _ | assumption | (refine Sub.upd ?_ (by first | assumption | (simp only [*]; done) | exact Sub.isNone (by assumption) (by assumption) | exact Sub.isNone (by assumption) (by simp only [*]))))))) (FzL.refl _ _ _) ?_; try (simp only [go_sem, Int.reduceEq, Int.reduceAdd, Int.reduceSub, Int.reduceMul, Nat.reduceLT, Int.reduceLT, Int.reduceLE, Int.reduceToNat, Nat.reduceAdd, Nat.reduceSub, Nat.reduceMul, Nat.reduceLeDiff, reduceCtorEq, orZ_eq]))
  rfl

theorem isort_node {f : Tb} (ok : tbOk f) {l : List En} (p : l.Perm (vals f)) : isort nodeC l = allN f := by
  have asy : ∀ a b : En, nodeC a b < 0 → ¬ nodeC b a < 0 := fun a b => by unfold nodeC cmpZ; split <;> split <;> omega
  have tr : ∀ a b d : En, ¬ nodeC b a < 0 → ¬ nodeC d b < 0 → ¬ nodeC d a < 0 := fun a b d => by unfold nodeC cmpZ; split <;> split <;> split <;> omega
  have key : ∀ q : List En, q.Perm (vals f) → (isort nodeC q).Pairwise (fun a b => a.node < b.node) := fun q hq => by
    have h1 := isort_sorted asy tr q
    have hnd : ((isort nodeC q).map (·.node)).Nodup := by
      have h2 : ((isort nodeC q).map (·.node)).Perm ((vals f).map (·.node)) := ((isort_perm q).trans hq).map _
      rw [h2.nodup_iff]
      have : (vals f).map (·.node) = f.map (·.1) := by
        unfold vals; rw [List.map_map]; exact List.map_congr_left fun p hp => (ok.2 p hp).symm
      rw [this]; exact ok.1
    have h3 : (isort nodeC q).Pairwise (fun a b => a.node ≠ b.node) := List.Pairwise.of_map (·.node) (fun a b h => h) hnd
    refine (h1.and h3).imp fun {a b} h => ?_
    have h4 := h.1
    unfold nodeC cmpZ at h4
    have h5 := h.2
    split at h4 <;> rename_i g
    · exact absurd (by decide) h4
    · omega
  exact sorted_eq (lt := fun a b : En => a.node < b.node) (fun a b => by omega) ((isort_perm l).trans (p.trans (isort_perm (vals f)).symm)) (key l p) (key _ (List.Perm.refl _))

theorem sortedE_spec {g : FuncId} {caps : List AV} {fs : List En} {h : AHeap} (hs : SeqOf Try.prog g caps (fun x => .agg (encE x)) h fs) (hn : fs.length ≤ 12) :
    CallsA Try.prog 110 [.fn g caps, .fn 112 []] h (fun r H => ∃ pre, pre.Perm fs ∧ Grow h 5 r (cat encE (isort nodeC pre)) pre.length H ∧ Wr r) := by
  (refine CallsA.enterR (ac := c110) (rs := r110) Try.func110 rfl (by decide) c110_ok r110_ok ?_; intro Q hQ; simp only [go_sem, Int.reduceEq, Int.reduceAdd, Int.reduceSub, Int.reduceMul, Nat.reduceLT, Int.reduceLT, Int.reduceLE, Int.reduceToNat, Nat.reduceAdd, Nat.reduceSub, Nat.reduceMul, Nat.reduceLeDiff, reduceCtorEq, c110, Try.ntmps110])
  refine (E__coll hs (by omega)).use ?_
  rintro r H ⟨pre, hp, gr, hw⟩
  simp only [go_sem, Int.reduceEq, Int.reduceAdd, Int.reduceSub, Int.reduceMul, Nat.reduceLT, Int.reduceLT, Int.reduceLE, Int.reduceToNat, Nat.reduceAdd, Nat.reduceSub, Nat.reduceMul, Nat.reduceLeDiff, reduceCtorEq]
  refine (E__sortG nodeC pre [] 112 h H r pre.length rfl gr hw (by rw [hp.length_eq]; exact hn) (fun a _ b _ h => nall1_spec a b h)).use ?_
  rintro r2 H2 ⟨rfl, gr2⟩
  simp only [go_sem, Int.reduceEq, Int.reduceAdd, Int.reduceSub, Int.reduceMul, Nat.reduceLT, Int.reduceLT, Int.reduceLE, Int.reduceToNat, Nat.reduceAdd, Nat.reduceSub, Nat.reduceMul, Nat.reduceLeDiff, reduceCtorEq]
  refine hQ _ _ _ _ _ _ (.inr rfl) rfl (FzH.refl _) (FzL.refl _ _ _) ⟨pre, hp, gr2, hw⟩

theorem MapIs_vals {es : Ents} {f : Tb} (h : MapIs kI ewE es f) : es.map (·.2.1) = (vals f).map fun x => .agg (encE x) := by
  have := congrArg (List.map Prod.snd) h
  simp only [List.map_map] at this
  unfold vals
  rw [List.map_map]
  exact this

theorem vals_spec (id : Nat) (h : AHeap) : PureA Try.prog 111 [.map id] h (.fn 152 [.rp [.map id]]) := by
  (refine PureA.enter (ac := c111) (rs := r111) Try.func111 rfl (by decide) c111_ok r111_ok ?_; intro Q hQ; simp only [go_sem, Int.reduceEq, Int.reduceAdd, Int.reduceSub, Int.reduceMul, Nat.reduceLT, Int.reduceLT, Int.reduceLE, Int.reduceToNat, Nat.reduceAdd, Nat.reduceSub, Nat.reduceMul, Nat.reduceLeDiff, reduceCtorEq, c111, Try.ntmps111])
  (refine hQ _ _ _ _ _ (by first | exact .inr rfl | exact .inl rfl) rfl (by first | exact FzH.refl _ | exact FzH.sub (by (repeat' (first | exact Sub.refl _ | assumption | (refine Sub.upd ?_ (by first | assumption | (simp only [*]; done) | exact Sub.isNone (by assumption) (by assumption) | exact Sub.isNone (by assumption) (by simp only [*]))))))) (FzL.refl _ _ _) ?_; try (simp only [go_sem, Int.reduceEq, Int.reduceAdd, Int.reduceSub, Int.reduceMul, Nat.reduceLT, Int.reduceLT, Int.reduceLE, Int.reduceToNat, Nat.reduceAdd, Nat.reduceSub, Nat.reduceMul, Nat.reduceLeDiff, reduceCtorEq]))

theorem nall_spec {t id : Nat} {most : Int} {kept : List Int} {f : Tb} {H : AHeap} (tb : TbIn t id most kept f H) (hn : f.length ≤ 12) :
    CallsA Try.prog 54 [.ptr t 0] H (fun r H' => Grow H 5 r (cat encE (allN f)) f.length H' ∧ Wr r) := by
  obtain ⟨es, c, h1, h2⟩ := tb.map
  (refine CallsA.enterR (ac := c54) (rs := r54) Try.func54 rfl (by decide) c54_ok r54_ok ?_; intro Q hQ; simp only [go_sem, Int.reduceEq, Int.reduceAdd, Int.reduceSub, Int.reduceMul, Nat.reduceLT, Int.reduceLT, Int.reduceLE, Int.reduceToNat, Nat.reduceAdd, Nat.reduceSub, Nat.reduceMul, Nat.reduceLeDiff, reduceCtorEq, c54, Try.ntmps54, tb.blk])
  refine (vals_spec id _).use ?_
  simp only [go_sem, Int.reduceEq, Int.reduceAdd, Int.reduceSub, Int.reduceMul, Nat.reduceLT, Int.reduceLT, Int.reduceLE, Int.reduceToNat, Nat.reduceAdd, Nat.reduceSub, Nat.reduceMul, Nat.reduceLeDiff, reduceCtorEq]
  refine (sortedE_spec (E__vals1 h1 (MapIs_vals h2)) (by simpa [vals] using hn)).use ?_
  rintro r H' ⟨pre, hp, gr, hw⟩
  rw [isort_node tb.ok hp, hp.length_eq] at gr
  simp only [go_sem, Int.reduceEq, Int.reduceAdd, Int.reduceSub, Int.reduceMul, Nat.reduceLT, Int.reduceLT, Int.reduceLE, Int.reduceToNat, Nat.reduceAdd, Nat.reduceSub, Nat.reduceMul, Nat.reduceLeDiff, reduceCtorEq]
  refine hQ _ _ _ _ _ _ (.inr rfl) rfl (FzH.refl _) (FzL.refl _ _ _) ⟨by have g2 := gr; simp only [vals, List.length_map] at g2; exact g2, hw⟩

/-! ### Those that may be driven out -/

theorem nhas_spec {t id : Nat} {most : Int} {kept : List Int} {f : Tb} {H : AHeap} (tb : TbIn t id most kept f H) (hk : kept.length ≤ 1000000) (n : Int) : PureA Try.prog 149 [.ptr t 0, .int .i64 n] H (.bool (kept.contains n)) := by
  (refine PureA.enter (ac := c149) (rs := r149) Try.func149 rfl (by decide) c149_ok r149_ok ?_; intro Q hQ; simp only [go_sem, Int.reduceEq, Int.reduceAdd, Int.reduceSub, Int.reduceMul, Nat.reduceLT, Int.reduceLT, Int.reduceLE, Int.reduceToNat, Nat.reduceAdd, Nat.reduceSub, Nat.reduceMul, Nat.reduceLeDiff, reduceCtorEq, c149, Try.ntmps149, tb.blk])
  refine (cont_spec kept n _ _ hk).use ?_
  simp only [go_sem, Int.reduceEq, Int.reduceAdd, Int.reduceSub, Int.reduceMul, Nat.reduceLT, Int.reduceLT, Int.reduceLE, Int.reduceToNat, Nat.reduceAdd, Nat.reduceSub, Nat.reduceMul, Nat.reduceLeDiff, reduceCtorEq]
  (refine hQ _ _ _ _ _ (by first | exact .inr rfl | exact .inl rfl) rfl (by first | exact FzH.refl _ | exact FzH.sub (by (repeat' (first | exact Sub.refl _ | assumption | (refine Sub.upd ?_ (by first | assumption | (simp only [*]; done) | exact Sub.isNone (by assumption) (by assumption) | exact Sub.isNone (by assumption) (by simp only [*]))))))) (FzL.refl _ _ _) ?_; try (simp only [go_sem, Int.reduceEq, Int.reduceAdd, Int.reduceSub, Int.reduceMul, Nat.reduceLT, Int.reduceLT, Int.reduceLE, Int.reduceToNat, Nat.reduceAdd, Nat.reduceSub, Nat.reduceMul, Nat.reduceLeDiff, reduceCtorEq]))

theorem nfree1_spec {t id : Nat} {most : Int} {kept : List Int} {f : Tb} {H : AHeap} (tb : TbIn t id most kept f H) (hk : kept.length ≤ 1000000) (e : En) : PureA Try.prog 148 [.agg (encE e), .rp [.ptr t 0]] H (.bool (kept.contains e.node)) := by
  (refine PureA.enter (ac := c148) (rs := r148) Try.func148 rfl (by decide) c148_ok r148_ok ?_; intro Q hQ; simp only [go_sem, Int.reduceEq, Int.reduceAdd, Int.reduceSub, Int.reduceMul, Nat.reduceLT, Int.reduceLT, Int.reduceLE, Int.reduceToNat, Nat.reduceAdd, Nat.reduceSub, Nat.reduceMul, Nat.reduceLeDiff, reduceCtorEq, c148, Try.ntmps148, encE])
  refine (nhas_spec tb hk e.node).use ?_
  simp only [go_sem, Int.reduceEq, Int.reduceAdd, Int.reduceSub, Int.reduceMul, Nat.reduceLT, Int.reduceLT, Int.reduceLE, Int.reduceToNat, Nat.reduceAdd, Nat.reduceSub, Nat.reduceMul, Nat.reduceLeDiff, reduceCtorEq]
  (refine hQ _ _ _ _ _ (by first | exact .inr rfl | exact .inl rfl) rfl (by first | exact FzH.refl _ | exact FzH.sub (by (repeat' (first | exact Sub.refl _ | assumption | (refine Sub.upd ?_ (by first | assumption | (simp only [*]; done) | exact Sub.isNone (by assumption) (by assumption) | exact Sub.isNone (by assumption) (by simp only [*]))))))) (FzL.refl _ _ _) ?_; try (simp only [go_sem, Int.reduceEq, Int.reduceAdd, Int.reduceSub, Int.reduceMul, Nat.reduceLT, Int.reduceLT, Int.reduceLE, Int.reduceToNat, Nat.reduceAdd, Nat.reduceSub, Nat.reduceMul, Nat.reduceLeDiff, reduceCtorEq]))

theorem nfree_spec {t id : Nat} {most : Int} {kept : List Int} {f : Tb} {h0 H : AHeap} (tb : TbIn t id most kept f h0) (hk : kept.length ≤ 1000000) {l : List En} {v : AV} (gr : Grow h0 5 v (cat encE l) l.length H) (hw : Wr v) (hn : l.length ≤ 1000000) :
    CallsA Try.prog 107 [.ptr t 0, v] H (fun r H' => Grow h0 5 r (cat encE (l.filter fun x => !kept.contains x.node)) (l.filter fun x => !kept.contains x.node).length H' ∧ Wr r) := by
  (refine CallsA.enterR (ac := c107) (rs := r107) Try.func107 rfl (by decide) c107_ok r107_ok ?_; intro Q hQ; simp only [go_sem, Int.reduceEq, Int.reduceAdd, Int.reduceSub, Int.reduceMul, Nat.reduceLT, Int.reduceLT, Int.reduceLE, Int.reduceToNat, Nat.reduceAdd, Nat.reduceSub, Nat.reduceMul, Nat.reduceLeDiff, reduceCtorEq, c107, Try.ntmps107])
  refine (E__del (fun x => kept.contains x.node) l v h0 H gr hw 148 [.rp [.ptr t 0]] hn (fun x _ H' hs => nfree1_spec (tb.sub hs) hk x)).use ?_
  rintro r H' hr
  simp only [go_sem, Int.reduceEq, Int.reduceAdd, Int.reduceSub, Int.reduceMul, Nat.reduceLT, Int.reduceLT, Int.reduceLE, Int.reduceToNat, Nat.reduceAdd, Nat.reduceSub, Nat.reduceMul, Nat.reduceLeDiff, reduceCtorEq]
  refine hQ _ _ _ _ _ _ (.inr rfl) rfl (FzH.refl _) (FzL.refl _ _ _) hr

/-! ### The worst one -/

theorem maxE_spec (m : En) (l L : List En) (hL : L = m :: l) (v : AV) (h0 h : AHeap) (gr : Grow h0 5 v (cat encE L) L.length h) (hn : L.length ≤ 1000000) :
    PureA Try.prog 108 [v, .fn 109 []] h (.agg (encE (maxL worseE m l))) := by
  have hlen := gr.len
  have hll : L.length = l.length + 1 := by rw [hL]; rfl
  have hpos : decide ((L.length : Int) < 1) = false := decide_eq_false (by omega)
  have rd : ∀ (k : Nat) (hk : k < L.length) {b H : AHeap} (g : Grow b 5 v (cat encE L) L.length H) (K : AV → AHeap → Prop), (∀ q, aloads H 5 q = some (encE L[k]) → K q H) → idxK 5 v (.int .i64 (k : Int)) K H := fun k hk b H g K hK =>
    g.rd hk _ fun q _ hq => by
      rw [cat_at encE_len hk, ← encE_len L[k], List.take_left, encE_len] at hq
      exact hK q hq
  (refine PureA.enter (ac := c108) (rs := r108) Try.func108 rfl (by decide) c108_ok r108_ok ?_; intro Q hQ; simp only [go_sem, Int.reduceEq, Int.reduceAdd, Int.reduceSub, Int.reduceMul, Nat.reduceLT, Int.reduceLT, Int.reduceLE, Int.reduceToNat, Nat.reduceAdd, Nat.reduceSub, Nat.reduceMul, Nat.reduceLeDiff, reduceCtorEq, c108, Try.ntmps108, hlen])
  intro q hq
  simp only [go_sem, Int.reduceEq, Int.reduceAdd, Int.reduceSub, Int.reduceMul, Nat.reduceLT, Int.reduceLT, Int.reduceLE, Int.reduceToNat, Nat.reduceAdd, Nat.reduceSub, Nat.reduceMul, Nat.reduceLeDiff, reduceCtorEq, hpos]
  have gq := gr.more (o := .cells [.int .i64 0, .int .i64 0, .int .i64 0, .int .i64 0, .int .i64 0] 5) hq
  refine rd 0 (by omega) gq _ fun q0 hq0 => ?_
  have hL0 : L[0]'(by omega) = m := by subst hL; rfl
  rw [hL0] at hq0
  simp only [go_sem, Int.reduceEq, Int.reduceAdd, Int.reduceSub, Int.reduceMul, Nat.reduceLT, Int.reduceLT, Int.reduceLE, Int.reduceToNat, Nat.reduceAdd, Nat.reduceSub, Nat.reduceMul, Nat.reduceLeDiff, reduceCtorEq, hq0]
  intro p hp
  have hpq : p ≠ q := by rintro rfl; rw [upd_same] at hp; cases hp
  have gp := fun c => gq.more (o := .cells c 5) hp
  simp only [go_sem, Int.reduceEq, Int.reduceAdd, Int.reduceSub, Int.reduceMul, Nat.reduceLT, Int.reduceLT, Int.reduceLE, Int.reduceToNat, Nat.reduceAdd, Nat.reduceSub, Nat.reduceMul, Nat.reduceLeDiff, reduceCtorEq, encE_len, encE_sca]
  have htk : ∀ e : En, List.take 5 (encE e) = encE e := fun e => rfl
  have hle : ∀ e : En, 0 + 5 ≤ (encE e).length := fun e => Nat.le_refl _
  generalize hB : upd h q (.cells [.int .i64 0, .int .i64 0, .int .i64 0, .int .i64 0, .int .i64 0] 5) = B at *
  have hBq : B q = some (.cells [.int .i64 0, .int .i64 0, .int .i64 0, .int .i64 0, .int .i64 0] 5) := by rw [← hB]; exact upd_same
  refine loop_rh d108_0 l.length (fun k s => s.set 6 (.int .i64 ((k + 1 : Nat) : Int))) (fun k H => H = upd B p (.cells (encE (maxL worseE m (l.take k))) 5)) ?_ rfl ?_
  · (simp only [go_sem, Int.reduceEq, Int.reduceAdd, Int.reduceSub, Int.reduceMul, Nat.reduceLT, Int.reduceLT, Int.reduceLE, Int.reduceToNat, Nat.reduceAdd, Nat.reduceSub, Nat.reduceMul, Nat.reduceLeDiff, reduceCtorEq, d108_0] <;> rfl)
  intro N k H hk hH hN
  subst hH
  simp only [go_sem, Int.reduceEq, Int.reduceAdd, Int.reduceSub, Int.reduceMul, Nat.reduceLT, Int.reduceLT, Int.reduceLE, Int.reduceToNat, Nat.reduceAdd, Nat.reduceSub, Nat.reduceMul, Nat.reduceLeDiff, reduceCtorEq, d108_0]
  by_cases hlt : k < l.length
  · have hlt2 : k + 1 < L.length := by omega
    have hadd := wadd1 (k := k + 1) (by omega)
    have hLk : L[k + 1] = l[k] := by subst hL; rfl
    have hsn := maxL_snoc worseE m (l.take k) l[k]
    rw [← List.take_succ_eq_append_getElem hlt] at hsn
    generalize hM : maxL worseE m (l.take k) = M at *
    simp only [go_sem, Int.reduceEq, Int.reduceAdd, Int.reduceSub, Int.reduceMul, Nat.reduceLT, Int.reduceLT, Int.reduceLE, Int.reduceToNat, Nat.reduceAdd, Nat.reduceSub, Nat.reduceMul, Nat.reduceLeDiff, reduceCtorEq, hlen, hlt2]
    refine rd (k + 1) hlt2 (gp _) _ fun q1 hq1 => ?_
    rw [hLk] at hq1
    simp only [go_sem, Int.reduceEq, Int.reduceAdd, Int.reduceSub, Int.reduceMul, Nat.reduceLT, Int.reduceLT, Int.reduceLE, Int.reduceToNat, Nat.reduceAdd, Nat.reduceSub, Nat.reduceMul, Nat.reduceLeDiff, reduceCtorEq, hq1, hle, htk, encE_len]
    refine (nworse_spec l[k] M _).use ?_
    by_cases hw : 0 < worseE l[k] M
    · rw [if_pos hw] at hsn
      simp only [go_sem, Int.reduceEq, Int.reduceAdd, Int.reduceSub, Int.reduceMul, Nat.reduceLT, Int.reduceLT, Int.reduceLE, Int.reduceToNat, Nat.reduceAdd, Nat.reduceSub, Nat.reduceMul, Nat.reduceLeDiff, reduceCtorEq, hw]
      refine rd (k + 1) hlt2 (gp _) _ fun q2 hq2 => ?_
      rw [hLk] at hq2
      simp only [go_sem, Int.reduceEq, Int.reduceAdd, Int.reduceSub, Int.reduceMul, Nat.reduceLT, Int.reduceLT, Int.reduceLE, Int.reduceToNat, Nat.reduceAdd, Nat.reduceSub, Nat.reduceMul, Nat.reduceLeDiff, reduceCtorEq, hq2, hle, htk, encE_len, encE_sca, hadd]
      have hd : List.drop 5 (encE M) = [] := rfl
      refine hN _ _ _ (by omega) ?_ (FzH.refl _) (by rw [hsn, hd, List.append_nil])
      simp only [go_sem, Int.reduceEq, Int.reduceAdd, Int.reduceSub, Int.reduceMul, Nat.reduceLT, Int.reduceLT, Int.reduceLE, Int.reduceToNat, Nat.reduceAdd, Nat.reduceSub, Nat.reduceMul, Nat.reduceLeDiff, reduceCtorEq, d108_0]
    · rw [if_neg hw] at hsn
      simp only [go_sem, Int.reduceEq, Int.reduceAdd, Int.reduceSub, Int.reduceMul, Nat.reduceLT, Int.reduceLT, Int.reduceLE, Int.reduceToNat, Nat.reduceAdd, Nat.reduceSub, Nat.reduceMul, Nat.reduceLeDiff, reduceCtorEq, hw, hadd]
      refine hN _ _ _ (by omega) ?_ (FzH.refl _) (by rw [hsn])
      simp only [go_sem, Int.reduceEq, Int.reduceAdd, Int.reduceSub, Int.reduceMul, Nat.reduceLT, Int.reduceLT, Int.reduceLE, Int.reduceToNat, Nat.reduceAdd, Nat.reduceSub, Nat.reduceMul, Nat.reduceLeDiff, reduceCtorEq, d108_0]
  · have hkl : k = l.length := by omega
    subst hkl
    have hlt2 : ¬ l.length + 1 < L.length := by omega
    rw [List.take_length]
    simp only [go_sem, Int.reduceEq, Int.reduceAdd, Int.reduceSub, Int.reduceMul, Nat.reduceLT, Int.reduceLT, Int.reduceLE, Int.reduceToNat, Nat.reduceAdd, Nat.reduceSub, Nat.reduceMul, Nat.reduceLeDiff, reduceCtorEq, hlen, hlt2]
    refine frz_id ?_
    simp only [go_sem, Int.reduceEq, Int.reduceAdd, Int.reduceSub, Int.reduceMul, Nat.reduceLT, Int.reduceLT, Int.reduceLE, Int.reduceToNat, Nat.reduceAdd, Nat.reduceSub, Nat.reduceMul, Nat.reduceLeDiff, reduceCtorEq, hle, htk, encE_len, encE_sca, upd_ne hpq.symm, hBq]
    refine hQ _ _ _ _ _ (.inr rfl) (by first | rfl | (simp only [go_sem, Int.reduceEq, Int.reduceAdd, Int.reduceSub, Int.reduceMul, Nat.reduceLT, Int.reduceLT, Int.reduceLE, Int.reduceToNat, Nat.reduceAdd, Nat.reduceSub, Nat.reduceMul, Nat.reduceLeDiff, reduceCtorEq, r108, htk, encE_len, Nat.le_refl]; rfl) | simp only [go_sem, Int.reduceEq, Int.reduceAdd, Int.reduceSub, Int.reduceMul, Nat.reduceLT, Int.reduceLT, Int.reduceLE, Int.reduceToNat, Nat.reduceAdd, Nat.reduceSub, Nat.reduceMul, Nat.reduceLeDiff, reduceCtorEq, r108, htk, encE_len, Nat.le_refl]) (FzH.sub fun x o e => ?_) (FzL.refl _ _ _) rfl
    have x1 : x ≠ q := by rintro rfl; rw [hq] at e; cases e
    have x2 : B x = some o := by rw [← hB, upd_ne x1]; exact e
    have x3 : x ≠ p := by rintro rfl; rw [hp] at x2; cases x2
    unfold E.del
    rw [if_neg x1, upd_ne x3]; exact x2

/-! ### The table's own -/

theorem fits1 (n : Int) (h : AHeap) : PureA Try.prog 118 [.int .i64 1, .ro [.int .i64 n] 1 true] h (.bool (decide (0 ≤ n ∧ n < 256))) := by
  have := pfits_spec 1 [n] true h (by simp)
  have e : fitsN 1 [n] = decide (0 ≤ n ∧ n < 256) := by simp [fitsN, spanN]
  rw [e] at this; exact this
theorem fits2 (m n : Int) (h : AHeap) : PureA Try.prog 118 [.int .i64 2, .ro [.int .i64 m, .int .i64 n] 2 true] h (.bool (decide (0 ≤ m ∧ m < 65536 ∧ 0 ≤ n ∧ n < 65536))) := by
  have := pfits_spec 2 [m, n] true h (by simp)
  have e : fitsN 2 [m, n] = decide (0 ≤ m ∧ m < 65536 ∧ 0 ≤ n ∧ n < 65536) := by
    simp only [fitsN, spanN, List.all_cons, List.all_nil, Bool.and_true]
    rw [Bool.eq_iff_iff]; simp; omega
  rw [e] at this; exact this

theorem ncheck_spec (e : En) (h : AHeap) : PureA Try.prog 62 [.agg (encE e)] h (.int .i64 (if rightE e then 0 else 1)) := by
  have bad : ¬ rightE e = true → (if rightE e then (0 : Int) else 1) = 1 := fun g => if_neg g
  have hr := rightE_iff (e := e)
  (refine PureA.enter (ac := c62) (rs := r62) Try.func62 rfl (by decide) c62_ok r62_ok ?_; intro Q hQ; simp only [go_sem, Int.reduceEq, Int.reduceAdd, Int.reduceSub, Int.reduceMul, Nat.reduceLT, Int.reduceLT, Int.reduceLE, Int.reduceToNat, Nat.reduceAdd, Nat.reduceSub, Nat.reduceMul, Nat.reduceLeDiff, reduceCtorEq, c62, Try.ntmps62, encE])
  by_cases g1 : e.node < 0
  · have b := bad (by rw [hr]; omega)
    simp only [go_sem, Int.reduceEq, Int.reduceAdd, Int.reduceSub, Int.reduceMul, Nat.reduceLT, Int.reduceLT, Int.reduceLE, Int.reduceToNat, Nat.reduceAdd, Nat.reduceSub, Nat.reduceMul, Nat.reduceLeDiff, reduceCtorEq, g1]
    (refine hQ _ _ _ _ _ (by first | exact .inr rfl | exact .inl rfl) rfl (by first | exact FzH.refl _ | exact FzH.sub (by (repeat' (first | exact Sub.refl _ | assumption | (refine Sub.upd ?_ (by first | assumption | (simp only [*]; done) | exact Sub.isNone (by assumption) (by assumption) | exact Sub.isNone (by assumption) (by simp only [*]))))))) (FzL.refl _ _ _) ?_; try (simp only [go_sem, Int.reduceEq, Int.reduceAdd, Int.reduceSub, Int.reduceMul, Nat.reduceLT, Int.reduceLT, Int.reduceLE, Int.reduceToNat, Nat.reduceAdd, Nat.reduceSub, Nat.reduceMul, Nat.reduceLeDiff, reduceCtorEq, b]))
  by_cases g2 : 64 ≤ e.node
  · have b := bad (by rw [hr]; omega)
    simp only [go_sem, Int.reduceEq, Int.reduceAdd, Int.reduceSub, Int.reduceMul, Nat.reduceLT, Int.reduceLT, Int.reduceLE, Int.reduceToNat, Nat.reduceAdd, Nat.reduceSub, Nat.reduceMul, Nat.reduceLeDiff, reduceCtorEq, g1, g2]
    (refine hQ _ _ _ _ _ (by first | exact .inr rfl | exact .inl rfl) rfl (by first | exact FzH.refl _ | exact FzH.sub (by (repeat' (first | exact Sub.refl _ | assumption | (refine Sub.upd ?_ (by first | assumption | (simp only [*]; done) | exact Sub.isNone (by assumption) (by assumption) | exact Sub.isNone (by assumption) (by simp only [*]))))))) (FzL.refl _ _ _) ?_; try (simp only [go_sem, Int.reduceEq, Int.reduceAdd, Int.reduceSub, Int.reduceMul, Nat.reduceLT, Int.reduceLT, Int.reduceLE, Int.reduceToNat, Nat.reduceAdd, Nat.reduceSub, Nat.reduceMul, Nat.reduceLeDiff, reduceCtorEq, b]))
  simp only [go_sem, Int.reduceEq, Int.reduceAdd, Int.reduceSub, Int.reduceMul, Nat.reduceLT, Int.reduceLT, Int.reduceLE, Int.reduceToNat, Nat.reduceAdd, Nat.reduceSub, Nat.reduceMul, Nat.reduceLeDiff, reduceCtorEq, g1, g2]
  refine (fits2 _ _ _).use ?_
  cases g3 : decide (0 ≤ e.rank ∧ e.rank < 65536 ∧ 0 ≤ e.cost ∧ e.cost < 65536)
  · have g3' := of_decide_eq_false g3
    have b := bad (by rw [hr]; omega)
    simp only [go_sem, Int.reduceEq, Int.reduceAdd, Int.reduceSub, Int.reduceMul, Nat.reduceLT, Int.reduceLT, Int.reduceLE, Int.reduceToNat, Nat.reduceAdd, Nat.reduceSub, Nat.reduceMul, Nat.reduceLeDiff, reduceCtorEq]
    (refine hQ _ _ _ _ _ (by first | exact .inr rfl | exact .inl rfl) rfl (by first | exact FzH.refl _ | exact FzH.sub (by (repeat' (first | exact Sub.refl _ | assumption | (refine Sub.upd ?_ (by first | assumption | (simp only [*]; done) | exact Sub.isNone (by assumption) (by assumption) | exact Sub.isNone (by assumption) (by simp only [*]))))))) (FzL.refl _ _ _) ?_; try (simp only [go_sem, Int.reduceEq, Int.reduceAdd, Int.reduceSub, Int.reduceMul, Nat.reduceLT, Int.reduceLT, Int.reduceLE, Int.reduceToNat, Nat.reduceAdd, Nat.reduceSub, Nat.reduceMul, Nat.reduceLeDiff, reduceCtorEq, b]))
  have g3' := of_decide_eq_true g3
  by_cases g4 : e.cost < 128
  · have b := bad (by rw [hr]; omega)
    simp only [go_sem, Int.reduceEq, Int.reduceAdd, Int.reduceSub, Int.reduceMul, Nat.reduceLT, Int.reduceLT, Int.reduceLE, Int.reduceToNat, Nat.reduceAdd, Nat.reduceSub, Nat.reduceMul, Nat.reduceLeDiff, reduceCtorEq, g4]
    (refine hQ _ _ _ _ _ (by first | exact .inr rfl | exact .inl rfl) rfl (by first | exact FzH.refl _ | exact FzH.sub (by (repeat' (first | exact Sub.refl _ | assumption | (refine Sub.upd ?_ (by first | assumption | (simp only [*]; done) | exact Sub.isNone (by assumption) (by assumption) | exact Sub.isNone (by assumption) (by simp only [*]))))))) (FzL.refl _ _ _) ?_; try (simp only [go_sem, Int.reduceEq, Int.reduceAdd, Int.reduceSub, Int.reduceMul, Nat.reduceLT, Int.reduceLT, Int.reduceLE, Int.reduceToNat, Nat.reduceAdd, Nat.reduceSub, Nat.reduceMul, Nat.reduceLeDiff, reduceCtorEq, b]))
  simp only [go_sem, Int.reduceEq, Int.reduceAdd, Int.reduceSub, Int.reduceMul, Nat.reduceLT, Int.reduceLT, Int.reduceLE, Int.reduceToNat, Nat.reduceAdd, Nat.reduceSub, Nat.reduceMul, Nat.reduceLeDiff, reduceCtorEq, g4]
  refine (fits1 _ _).use ?_
  cases g5 : decide (0 ≤ e.ver ∧ e.ver < 256)
  · have g5' := of_decide_eq_false g5
    have b := bad (by rw [hr]; omega)
    simp only [go_sem, Int.reduceEq, Int.reduceAdd, Int.reduceSub, Int.reduceMul, Nat.reduceLT, Int.reduceLT, Int.reduceLE, Int.reduceToNat, Nat.reduceAdd, Nat.reduceSub, Nat.reduceMul, Nat.reduceLeDiff, reduceCtorEq]
    (refine hQ _ _ _ _ _ (by first | exact .inr rfl | exact .inl rfl) rfl (by first | exact FzH.refl _ | exact FzH.sub (by (repeat' (first | exact Sub.refl _ | assumption | (refine Sub.upd ?_ (by first | assumption | (simp only [*]; done) | exact Sub.isNone (by assumption) (by assumption) | exact Sub.isNone (by assumption) (by simp only [*]))))))) (FzL.refl _ _ _) ?_; try (simp only [go_sem, Int.reduceEq, Int.reduceAdd, Int.reduceSub, Int.reduceMul, Nat.reduceLT, Int.reduceLT, Int.reduceLE, Int.reduceToNat, Nat.reduceAdd, Nat.reduceSub, Nat.reduceMul, Nat.reduceLeDiff, reduceCtorEq, b]))
  have g5' := of_decide_eq_true g5
  by_cases g6 : e.heard < 0
  · have b := bad (by rw [hr]; omega)
    simp only [go_sem, Int.reduceEq, Int.reduceAdd, Int.reduceSub, Int.reduceMul, Nat.reduceLT, Int.reduceLT, Int.reduceLE, Int.reduceToNat, Nat.reduceAdd, Nat.reduceSub, Nat.reduceMul, Nat.reduceLeDiff, reduceCtorEq, g6]
    (refine hQ _ _ _ _ _ (by first | exact .inr rfl | exact .inl rfl) rfl (by first | exact FzH.refl _ | exact FzH.sub (by (repeat' (first | exact Sub.refl _ | assumption | (refine Sub.upd ?_ (by first | assumption | (simp only [*]; done) | exact Sub.isNone (by assumption) (by assumption) | exact Sub.isNone (by assumption) (by simp only [*]))))))) (FzL.refl _ _ _) ?_; try (simp only [go_sem, Int.reduceEq, Int.reduceAdd, Int.reduceSub, Int.reduceMul, Nat.reduceLT, Int.reduceLT, Int.reduceLE, Int.reduceToNat, Nat.reduceAdd, Nat.reduceSub, Nat.reduceMul, Nat.reduceLeDiff, reduceCtorEq, b]))
  by_cases g7 : 2305843009213693952 < e.heard
  · have b := bad (by rw [hr]; omega)
    simp only [go_sem, Int.reduceEq, Int.reduceAdd, Int.reduceSub, Int.reduceMul, Nat.reduceLT, Int.reduceLT, Int.reduceLE, Int.reduceToNat, Nat.reduceAdd, Nat.reduceSub, Nat.reduceMul, Nat.reduceLeDiff, reduceCtorEq, g6, g7]
    (refine hQ _ _ _ _ _ (by first | exact .inr rfl | exact .inl rfl) rfl (by first | exact FzH.refl _ | exact FzH.sub (by (repeat' (first | exact Sub.refl _ | assumption | (refine Sub.upd ?_ (by first | assumption | (simp only [*]; done) | exact Sub.isNone (by assumption) (by assumption) | exact Sub.isNone (by assumption) (by simp only [*]))))))) (FzL.refl _ _ _) ?_; try (simp only [go_sem, Int.reduceEq, Int.reduceAdd, Int.reduceSub, Int.reduceMul, Nat.reduceLT, Int.reduceLT, Int.reduceLE, Int.reduceToNat, Nat.reduceAdd, Nat.reduceSub, Nat.reduceMul, Nat.reduceLeDiff, reduceCtorEq, b]))
  have b : (if rightE e then (0 : Int) else 1) = 0 := if_pos (by rw [hr]; omega)
  simp only [go_sem, Int.reduceEq, Int.reduceAdd, Int.reduceSub, Int.reduceMul, Nat.reduceLT, Int.reduceLT, Int.reduceLE, Int.reduceToNat, Nat.reduceAdd, Nat.reduceSub, Nat.reduceMul, Nat.reduceLeDiff, reduceCtorEq, g6, g7]
  (refine hQ _ _ _ _ _ (by first | exact .inr rfl | exact .inl rfl) rfl (by first | exact FzH.refl _ | exact FzH.sub (by (repeat' (first | exact Sub.refl _ | assumption | (refine Sub.upd ?_ (by first | assumption | (simp only [*]; done) | exact Sub.isNone (by assumption) (by assumption) | exact Sub.isNone (by assumption) (by simp only [*]))))))) (FzL.refl _ _ _) ?_; try (simp only [go_sem, Int.reduceEq, Int.reduceAdd, Int.reduceSub, Int.reduceMul, Nat.reduceLT, Int.reduceLT, Int.reduceLE, Int.reduceToNat, Nat.reduceAdd, Nat.reduceSub, Nat.reduceMul, Nat.reduceLeDiff, reduceCtorEq, b]))

theorem nlen_spec {t id : Nat} {most : Int} {kept : List Int} {f : Tb} {H : AHeap} (tb : TbIn t id most kept f H) : PureA Try.prog 59 [.ptr t 0] H (.int .i64 (f.length : Int)) := by
  obtain ⟨es, c, h1, h2⟩ := tb.map
  (refine PureA.enter (ac := c59) (rs := r59) Try.func59 rfl (by decide) c59_ok r59_ok ?_; intro Q hQ; simp only [go_sem, Int.reduceEq, Int.reduceAdd, Int.reduceSub, Int.reduceMul, Nat.reduceLT, Int.reduceLT, Int.reduceLE, Int.reduceToNat, Nat.reduceAdd, Nat.reduceSub, Nat.reduceMul, Nat.reduceLeDiff, reduceCtorEq, c59, Try.ntmps59, tb.blk])
  refine map_len h1 h2 ?_
  simp only [go_sem, Int.reduceEq, Int.reduceAdd, Int.reduceSub, Int.reduceMul, Nat.reduceLT, Int.reduceLT, Int.reduceLE, Int.reduceToNat, Nat.reduceAdd, Nat.reduceSub, Nat.reduceMul, Nat.reduceLeDiff, reduceCtorEq]
  (refine hQ _ _ _ _ _ (by first | exact .inr rfl | exact .inl rfl) rfl (by first | exact FzH.refl _ | exact FzH.sub (by (repeat' (first | exact Sub.refl _ | assumption | (refine Sub.upd ?_ (by first | assumption | (simp only [*]; done) | exact Sub.isNone (by assumption) (by assumption) | exact Sub.isNone (by assumption) (by simp only [*]))))))) (FzL.refl _ _ _) ?_; try (simp only [go_sem, Int.reduceEq, Int.reduceAdd, Int.reduceSub, Int.reduceMul, Nat.reduceLT, Int.reduceLT, Int.reduceLE, Int.reduceToNat, Nat.reduceAdd, Nat.reduceSub, Nat.reduceMul, Nat.reduceLeDiff, reduceCtorEq]))

theorem nget_spec {t id : Nat} {most : Int} {kept : List Int} {f : Tb} {H : AHeap} (tb : TbIn t id most kept f H) (n : Int) : PureA Try.prog 60 [.ptr t 0, .int .i64 n] H (.tup [.agg (match alook f n with | some e => encE e | none => encE ⟨0, 0, 0, 0, 0⟩), .int .i64 (if (alook f n).isSome then 0 else 8)]) := by
  obtain ⟨es, c, h1, h2⟩ := tb.map
  (refine PureA.enter (ac := c60) (rs := r60) Try.func60 rfl (by decide) c60_ok r60_ok ?_; intro Q hQ; simp only [go_sem, Int.reduceEq, Int.reduceAdd, Int.reduceSub, Int.reduceMul, Nat.reduceLT, Int.reduceLT, Int.reduceLE, Int.reduceToNat, Nat.reduceAdd, Nat.reduceSub, Nat.reduceMul, Nat.reduceLeDiff, reduceCtorEq, c60, Try.ntmps60, tb.blk])
  intro q hq
  have tb2 := tb.sub (Sub.upd (o := .cells [.int .i64 0, .int .i64 0, .int .i64 0, .int .i64 0, .int .i64 0] 5) (Sub.refl H) hq)
  have h1' : upd H q (.cells [.int .i64 0, .int .i64 0, .int .i64 0, .int .i64 0, .int .i64 0] 5) id = some (.map es c) := by rw [upd_ne (ne_of_fresh hq h1)]; exact h1
  simp only [go_sem, Int.reduceEq, Int.reduceAdd, Int.reduceSub, Int.reduceMul, Nat.reduceLT, Int.reduceLT, Int.reduceLE, Int.reduceToNat, Nat.reduceAdd, Nat.reduceSub, Nat.reduceMul, Nat.reduceLeDiff, reduceCtorEq, tb2.blk]
  refine map_get (ek := kI) (ew := ewE) kI_fit h1' h2 ?_
  have hfin : ∀ c, FzH (upd H q c) H := fun c => FzH.sub (Sub.upd (Sub.refl H) hq)
  cases g : alook f n with
  | none =>
    rw [g] at hQ
    simp only [go_sem, Int.reduceEq, Int.reduceAdd, Int.reduceSub, Int.reduceMul, Nat.reduceLT, Int.reduceLT, Int.reduceLE, Int.reduceToNat, Nat.reduceAdd, Nat.reduceSub, Nat.reduceMul, Nat.reduceLeDiff, reduceCtorEq, mres]
    intro p hp
    have hpq : q ≠ p := by rintro rfl; rw [upd_same] at hp; cases hp
    simp only [go_sem, Int.reduceEq, Int.reduceAdd, Int.reduceSub, Int.reduceMul, Nat.reduceLT, Int.reduceLT, Int.reduceLE, Int.reduceToNat, Nat.reduceAdd, Nat.reduceSub, Nat.reduceMul, Nat.reduceLeDiff, reduceCtorEq, del_none hp]
    refine hQ _ _ _ _ _ (by first | exact .inr rfl | exact .inl rfl) (by first | rfl | (simp only [go_sem, Int.reduceEq, Int.reduceAdd, Int.reduceSub, Int.reduceMul, Nat.reduceLT, Int.reduceLT, Int.reduceLE, Int.reduceToNat, Nat.reduceAdd, Nat.reduceSub, Nat.reduceMul, Nat.reduceLeDiff, reduceCtorEq, r60]; rfl) | simp only [go_sem, Int.reduceEq, Int.reduceAdd, Int.reduceSub, Int.reduceMul, Nat.reduceLT, Int.reduceLT, Int.reduceLE, Int.reduceToNat, Nat.reduceAdd, Nat.reduceSub, Nat.reduceMul, Nat.reduceLeDiff, reduceCtorEq, r60]) (hfin _) (FzL.refl _ _ _) ?_
    rfl
  | some e =>
    rw [g] at hQ
    simp only [go_sem, Int.reduceEq, Int.reduceAdd, Int.reduceSub, Int.reduceMul, Nat.reduceLT, Int.reduceLT, Int.reduceLE, Int.reduceToNat, Nat.reduceAdd, Nat.reduceSub, Nat.reduceMul, Nat.reduceLeDiff, reduceCtorEq, mres, ewE]
    intro p hp
    have hpq : q ≠ p := by rintro rfl; rw [upd_same] at hp; cases hp
    simp only [go_sem, Int.reduceEq, Int.reduceAdd, Int.reduceSub, Int.reduceMul, Nat.reduceLT, Int.reduceLT, Int.reduceLE, Int.reduceToNat, Nat.reduceAdd, Nat.reduceSub, Nat.reduceMul, Nat.reduceLeDiff, reduceCtorEq, del_none hp, encE]
    refine hQ _ _ _ _ _ (by first | exact .inr rfl | exact .inl rfl) (by first | rfl | (simp only [go_sem, Int.reduceEq, Int.reduceAdd, Int.reduceSub, Int.reduceMul, Nat.reduceLT, Int.reduceLT, Int.reduceLE, Int.reduceToNat, Nat.reduceAdd, Nat.reduceSub, Nat.reduceMul, Nat.reduceLeDiff, reduceCtorEq, r60]; rfl) | simp only [go_sem, Int.reduceEq, Int.reduceAdd, Int.reduceSub, Int.reduceMul, Nat.reduceLT, Int.reduceLT, Int.reduceLE, Int.reduceToNat, Nat.reduceAdd, Nat.reduceSub, Nat.reduceMul, Nat.reduceLeDiff, reduceCtorEq, r60]) (hfin _) (FzL.refl _ _ _) ?_
    rfl

/-! ### Put -/

/-- What becomes of the map alone. -/
def TbTo (id : Nat) (f' : Tb) (H H' : AHeap) : Prop := ∃ es' c', MapIs kI ewE es' f' ∧ H' = upd H id (.map es' c')
theorem TbTo.tb {t id : Nat} {most : Int} {kept : List Int} {f f' : Tb} {H H' : AHeap} (tb : TbIn t id most kept f H) (ok : tbOk f') (h : TbTo id f' H H') : TbIn t id most kept f' H' := by
  obtain ⟨es', c', h1, rfl⟩ := h
  exact ⟨by rw [upd_ne tb.ne]; exact tb.blk, ⟨es', c', upd_same, h1⟩, ok⟩
theorem TbTo.refl {t id : Nat} {most : Int} {kept : List Int} {f : Tb} {H : AHeap} (tb : TbIn t id most kept f H) : TbTo id f H H := by
  obtain ⟨es, c, h1, h2⟩ := tb.map
  refine ⟨es, c, h2, ?_⟩
  funext x
  unfold upd
  split
  · rename_i e; rw [e]; exact h1
  · rfl

theorem nput_spec {t id : Nat} {most : Int} {kept : List Int} {f : Tb} {H : AHeap} (tb : TbIn t id most kept f H) (hk : kept.length ≤ 1000000) (hm : most ≤ 11) (hl : (f.length : Int) ≤ most) (e : En) :
    CallsA Try.prog 53 [.ptr t 0, .agg (encE e)] H (fun r H' => r = .tup [.int .i64 (putN most kept f e).2.1, .int .i64 (putN most kept f e).2.2] ∧ TbTo id (putN most kept f e).1 H H') := by
  obtain ⟨es, c, h1, h2⟩ := tb.map
  have htk : List.take 5 (encE e) = encE e := rfl
  (refine CallsA.enterR (ac := c53) (rs := r53) Try.func53 rfl (by decide) c53_ok r53_ok ?_; intro Q hQ; simp only [go_sem, Int.reduceEq, Int.reduceAdd, Int.reduceSub, Int.reduceMul, Nat.reduceLT, Int.reduceLT, Int.reduceLE, Int.reduceToNat, Nat.reduceAdd, Nat.reduceSub, Nat.reduceMul, Nat.reduceLeDiff, reduceCtorEq, c53, Try.ntmps53])
  simp only [go_sem, Int.reduceEq, Int.reduceAdd, Int.reduceSub, Int.reduceMul, Nat.reduceLT, Int.reduceLT, Int.reduceLE, Int.reduceToNat, Nat.reduceAdd, Nat.reduceSub, Nat.reduceMul, Nat.reduceLeDiff, reduceCtorEq, encE_len, htk]
  refine (ncheck_spec e _).use ?_
  cases g : rightE e
  · have hp : putN most kept f e = (f, 0, 1) := by unfold putN; rw [if_pos g]
    rw [hp] at hQ
    simp only [go_sem, Int.reduceEq, Int.reduceAdd, Int.reduceSub, Int.reduceMul, Nat.reduceLT, Int.reduceLT, Int.reduceLE, Int.reduceToNat, Nat.reduceAdd, Nat.reduceSub, Nat.reduceMul, Nat.reduceLeDiff, reduceCtorEq, show decide ((1 : Int) = 0) = false from rfl]
    refine hQ _ _ _ _ _ _ (.inr rfl) rfl (FzH.refl _) (FzL.refl _ _ _) ⟨rfl, TbTo.refl tb⟩
  simp only [go_sem, Int.reduceEq, Int.reduceAdd, Int.reduceSub, Int.reduceMul, Nat.reduceLT, Int.reduceLT, Int.reduceLE, Int.reduceToNat, Nat.reduceAdd, Nat.reduceSub, Nat.reduceMul, Nat.reduceLeDiff, reduceCtorEq, encE, tb.blk]
  refine map_get (ek := kI) (ew := ewE) kI_fit h1 h2 ?_
  have hput : ∀ (K : AV → AHeap → Prop), (∀ H', TbTo id (aset f e.node e) H H' → K .undef H') → mapA H (.put (.c .i)) [.map id, .int .i64 e.node, .agg (encE e)] K := fun K hK =>
    map_put (ek := kI) (ew := ewE) kI_fit h1 h2 tb.ok.1 fun es' c' hm' => hK _ ⟨es', c', hm', rfl⟩
  have room : ∀ (g2 : (alook f e.node).isSome = true ∨ (f.length : Int) < most), putN most kept f e = (aset f e.node e, -1, 0) := fun g2 => by
    unfold putN; rw [if_neg (by rw [g]; simp), if_pos g2]
  cases g2 : alook f e.node with
  | some e0 =>
    rw [room (.inl (by rw [g2]; rfl))] at hQ
    simp only [go_sem, Int.reduceEq, Int.reduceAdd, Int.reduceSub, Int.reduceMul, Nat.reduceLT, Int.reduceLT, Int.reduceLE, Int.reduceToNat, Nat.reduceAdd, Nat.reduceSub, Nat.reduceMul, Nat.reduceLeDiff, reduceCtorEq, mres, ewE]
    intro p hp
    simp only [go_sem, Int.reduceEq, Int.reduceAdd, Int.reduceSub, Int.reduceMul, Nat.reduceLT, Int.reduceLT, Int.reduceLE, Int.reduceToNat, Nat.reduceAdd, Nat.reduceSub, Nat.reduceMul, Nat.reduceLeDiff, reduceCtorEq, del_none hp, encE, tb.blk]
    refine hput _ fun H' hH' => ?_
    simp only [go_sem, Int.reduceEq, Int.reduceAdd, Int.reduceSub, Int.reduceMul, Nat.reduceLT, Int.reduceLT, Int.reduceLE, Int.reduceToNat, Nat.reduceAdd, Nat.reduceSub, Nat.reduceMul, Nat.reduceLeDiff, reduceCtorEq]
    refine hQ _ _ _ _ _ _ (.inr rfl) rfl (FzH.refl _) (FzL.refl _ _ _) ⟨rfl, hH'⟩
  | none =>
    simp only [go_sem, Int.reduceEq, Int.reduceAdd, Int.reduceSub, Int.reduceMul, Nat.reduceLT, Int.reduceLT, Int.reduceLE, Int.reduceToNat, Nat.reduceAdd, Nat.reduceSub, Nat.reduceMul, Nat.reduceLeDiff, reduceCtorEq, mres, ewE]
    intro p hp
    simp only [go_sem, Int.reduceEq, Int.reduceAdd, Int.reduceSub, Int.reduceMul, Nat.reduceLT, Int.reduceLT, Int.reduceLE, Int.reduceToNat, Nat.reduceAdd, Nat.reduceSub, Nat.reduceMul, Nat.reduceLeDiff, reduceCtorEq, del_none hp, encE, tb.blk]
    refine map_len h1 h2 ?_
    by_cases g3 : (f.length : Int) < most
    · rw [room (.inr g3)] at hQ
      simp only [go_sem, Int.reduceEq, Int.reduceAdd, Int.reduceSub, Int.reduceMul, Nat.reduceLT, Int.reduceLT, Int.reduceLE, Int.reduceToNat, Nat.reduceAdd, Nat.reduceSub, Nat.reduceMul, Nat.reduceLeDiff, reduceCtorEq, tb.blk, g3]
      refine hput _ fun H' hH' => ?_
      simp only [go_sem, Int.reduceEq, Int.reduceAdd, Int.reduceSub, Int.reduceMul, Nat.reduceLT, Int.reduceLT, Int.reduceLE, Int.reduceToNat, Nat.reduceAdd, Nat.reduceSub, Nat.reduceMul, Nat.reduceLeDiff, reduceCtorEq]
      refine hQ _ _ _ _ _ _ (.inr rfl) rfl (FzH.refl _) (FzL.refl _ _ _) ⟨rfl, hH'⟩
    · simp only [go_sem, Int.reduceEq, Int.reduceAdd, Int.reduceSub, Int.reduceMul, Nat.reduceLT, Int.reduceLT, Int.reduceLE, Int.reduceToNat, Nat.reduceAdd, Nat.reduceSub, Nat.reduceMul, Nat.reduceLeDiff, reduceCtorEq, tb.blk, g3]
      have hfl : (allN f).length = f.length := allN_len f
      refine (nall_spec tb (by omega)).use ?_
      rintro r H1 ⟨gr1, hw1⟩
      simp only [go_sem, Int.reduceEq, Int.reduceAdd, Int.reduceSub, Int.reduceMul, Nat.reduceLT, Int.reduceLT, Int.reduceLE, Int.reduceToNat, Nat.reduceAdd, Nat.reduceSub, Nat.reduceMul, Nat.reduceLeDiff, reduceCtorEq]
      refine gr1.add1W (x := encE e) rfl rfl (by omega) fun v2 H2 gr2 hw2 => ?_
      have e2 : cat encE (allN f) ++ encE e = cat encE (allN f ++ [e]) := by rw [cat_append]; simp [cat]
      have e3 : f.length + 1 = (allN f ++ [e]).length := by simp [hfl]
      rw [e2, e3] at gr2
      simp only [go_sem, Int.reduceEq, Int.reduceAdd, Int.reduceSub, Int.reduceMul, Nat.reduceLT, Int.reduceLT, Int.reduceLE, Int.reduceToNat, Nat.reduceAdd, Nat.reduceSub, Nat.reduceMul, Nat.reduceLeDiff, reduceCtorEq]
      refine (nfree_spec tb hk gr2 hw2 (by rw [← e3]; omega)).use ?_
      rintro v3 H3 ⟨gr3, hw3⟩
      have hlen := gr3.len
      have hLl : ((allN f ++ [e]).filter fun x => !kept.contains x.node).length ≤ (allN f ++ [e]).length := List.length_filter_le _ _
      rw [← e3] at hLl
      have hP : putN most kept f e = match (allN f ++ [e]).filter (fun x => !kept.contains x.node) with
          | [] => (f, 0, 7)
          | m :: l => if (maxL worseE m l).node = e.node then (f, 0, 7) else (aset (adel f (maxL worseE m l).node) e.node e, (maxL worseE m l).node, 0) := by
        unfold putN; rw [if_neg (by rw [g]; simp), if_neg (by rw [g2]; simp; omega)]; rfl
      generalize hL : ((allN f ++ [e]).filter fun x => !kept.contains x.node) = L at *
      cases L with
      | nil =>
        simp only at hP
        rw [hP] at hQ
        simp only [go_sem, Int.reduceEq, Int.reduceAdd, Int.reduceSub, Int.reduceMul, Nat.reduceLT, Int.reduceLT, Int.reduceLE, Int.reduceToNat, Nat.reduceAdd, Nat.reduceSub, Nat.reduceMul, Nat.reduceLeDiff, reduceCtorEq, hlen, List.length_nil]
        refine hQ _ _ _ _ _ _ (.inr rfl) rfl gr3.fzH (FzL.refl _ _ _) ⟨rfl, TbTo.refl tb⟩
      | cons m l =>
        simp only at hP
        have hz : decide ((((m :: l).length : Nat) : Int) = 0) = false := decide_eq_false (by simp; omega)
        have hmx := maxE_spec m l (m :: l) rfl v3 H H3 gr3 (by omega)
        generalize hM : m :: l = L at *
        generalize maxL worseE m l = o at *
        simp only [go_sem, Int.reduceEq, Int.reduceAdd, Int.reduceSub, Int.reduceMul, Nat.reduceLT, Int.reduceLT, Int.reduceLE, Int.reduceToNat, Nat.reduceAdd, Nat.reduceSub, Nat.reduceMul, Nat.reduceLeDiff, reduceCtorEq, hlen, hz]
        refine hmx.use ?_
        simp only [go_sem, Int.reduceEq, Int.reduceAdd, Int.reduceSub, Int.reduceMul, Nat.reduceLT, Int.reduceLT, Int.reduceLE, Int.reduceToNat, Nat.reduceAdd, Nat.reduceSub, Nat.reduceMul, Nat.reduceLeDiff, reduceCtorEq, encE_len, encE_sca]
        intro p2 hp2
        simp only [go_sem, Int.reduceEq, Int.reduceAdd, Int.reduceSub, Int.reduceMul, Nat.reduceLT, Int.reduceLT, Int.reduceLE, Int.reduceToNat, Nat.reduceAdd, Nat.reduceSub, Nat.reduceMul, Nat.reduceLeDiff, reduceCtorEq, del_none hp2, encE]
        cases g4 : decide (o.node = e.node)
        · rw [if_neg (of_decide_eq_false g4)] at hP
          rw [hP] at hQ
          simp only [go_sem, Int.reduceEq, Int.reduceAdd, Int.reduceSub, Int.reduceMul, Nat.reduceLT, Int.reduceLT, Int.reduceLE, Int.reduceToNat, Nat.reduceAdd, Nat.reduceSub, Nat.reduceMul, Nat.reduceLeDiff, reduceCtorEq, gr3.keep tb.blk]
          refine map_del (ek := kI) (ew := ewE) kI_fit (gr3.keep h1) h2 tb.ok.1 fun es1 hm1 => ?_
          simp only [go_sem, Int.reduceEq, Int.reduceAdd, Int.reduceSub, Int.reduceMul, Nat.reduceLT, Int.reduceLT, Int.reduceLE, Int.reduceToNat, Nat.reduceAdd, Nat.reduceSub, Nat.reduceMul, Nat.reduceLeDiff, reduceCtorEq, upd_ne tb.ne, gr3.keep tb.blk]
          refine map_put (ek := kI) (ew := ewE) (v := e) kI_fit upd_same hm1 (tbOk_del tb.ok o.node).1 fun es2 c2 hm2 => ?_
          simp only [go_sem, Int.reduceEq, Int.reduceAdd, Int.reduceSub, Int.reduceMul, Nat.reduceLT, Int.reduceLT, Int.reduceLE, Int.reduceToNat, Nat.reduceAdd, Nat.reduceSub, Nat.reduceMul, Nat.reduceLeDiff, reduceCtorEq, upd_upd]
          refine hQ _ _ _ _ _ _ (.inr rfl) rfl (gr3.poke (o := .map es2 c2) h1).fzH (FzL.refl _ _ _) ⟨rfl, es2, c2, hm2, rfl⟩
        · rw [if_pos (of_decide_eq_true g4)] at hP
          rw [hP] at hQ
          simp only [go_sem, Int.reduceEq, Int.reduceAdd, Int.reduceSub, Int.reduceMul, Nat.reduceLT, Int.reduceLT, Int.reduceLE, Int.reduceToNat, Nat.reduceAdd, Nat.reduceSub, Nat.reduceMul, Nat.reduceLeDiff, reduceCtorEq]
          refine hQ _ _ _ _ _ _ (.inr rfl) rfl gr3.fzH (FzL.refl _ _ _) ⟨rfl, TbTo.refl tb⟩

end Go.Proofs.Ytaeppifdbcoipaa
