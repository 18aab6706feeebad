/-
  NeighborPlays.
-/
import Derived.Test.YtaeppifdbcoipaaNn
import Derived.Test.YtaeppifdbcoipaaEY
namespace Go.Proofs.Ytaeppifdbcoipaa
open Go E
set_option linter.unusedVariables false
set_option linter.unusedSimpArgs false
set_option maxRecDepth 100000

structure Ac where
  kind : Int
  e : En
  other : Int
def encA (a : Ac) : List AV := [.int .i64 a.kind, .int .i64 a.e.node, .int .i64 a.e.rank, .int .i64 a.e.ver, .int .i64 a.e.cost, .int .i64 a.e.heard, .int .i64 a.other]
theorem encA_len (a : Ac) : (encA a).length = 7 := rfl
theorem encA_sca (a : Ac) : (encA a).all scalar = true := rfl

theorem nnew_bad (most : Int) (hm : ¬ (1 ≤ most ∧ most ≤ 8)) (h : AHeap) : PureA Try.prog 51 [.int .i64 most] h (.tup [.nilp, .int .i64 1]) := by
  (refine PureA.enter (ac := c51) (rs := r51) Try.func51 rfl (by decide) c51_ok r51_ok ?_; intro Q hQ; simp only [go_sem, Int.reduceEq, Int.reduceAdd, Int.reduceSub, Int.reduceMul, Nat.reduceLT, Int.reduceLT, Int.reduceLE, Int.reduceToNat, Nat.reduceAdd, Nat.reduceSub, Nat.reduceMul, Nat.reduceLeDiff, reduceCtorEq, c51, Try.ntmps51])
  by_cases g1 : most < 1
  · simp only [go_sem, Int.reduceEq, Int.reduceAdd, Int.reduceSub, Int.reduceMul, Nat.reduceLT, Int.reduceLT, Int.reduceLE, Int.reduceToNat, Nat.reduceAdd, Nat.reduceSub, Nat.reduceMul, Nat.reduceLeDiff, reduceCtorEq, g1]
    (refine hQ _ _ _ _ _ (by first | exact .inr rfl | exact .inl rfl) rfl (by first | exact FzH.refl _ | exact FzH.sub (by (repeat' (first | exact Sub.refl _ | assumption | (refine Sub.upd ?_ (by first | assumption | (simp only [*]; done) | exact Sub.isNone (by assumption) (by assumption) | exact Sub.isNone (by assumption) (by simp only [*]))))))) (FzL.refl _ _ _) ?_; try (simp only [go_sem, Int.reduceEq, Int.reduceAdd, Int.reduceSub, Int.reduceMul, Nat.reduceLT, Int.reduceLT, Int.reduceLE, Int.reduceToNat, Nat.reduceAdd, Nat.reduceSub, Nat.reduceMul, Nat.reduceLeDiff, reduceCtorEq]))
  · have g2 : 8 < most := by omega
    simp only [go_sem, Int.reduceEq, Int.reduceAdd, Int.reduceSub, Int.reduceMul, Nat.reduceLT, Int.reduceLT, Int.reduceLE, Int.reduceToNat, Nat.reduceAdd, Nat.reduceSub, Nat.reduceMul, Nat.reduceLeDiff, reduceCtorEq, g1, g2]
    (refine hQ _ _ _ _ _ (by first | exact .inr rfl | exact .inl rfl) rfl (by first | exact FzH.refl _ | exact FzH.sub (by (repeat' (first | exact Sub.refl _ | assumption | (refine Sub.upd ?_ (by first | assumption | (simp only [*]; done) | exact Sub.isNone (by assumption) (by assumption) | exact Sub.isNone (by assumption) (by simp only [*]))))))) (FzL.refl _ _ _) ?_; try (simp only [go_sem, Int.reduceEq, Int.reduceAdd, Int.reduceSub, Int.reduceMul, Nat.reduceLT, Int.reduceLT, Int.reduceLE, Int.reduceToNat, Nat.reduceAdd, Nat.reduceSub, Nat.reduceMul, Nat.reduceLeDiff, reduceCtorEq]))

theorem TbIn.apart {t id q : Nat} {most m2 : Int} {kept K : List Int} {f : Tb} {L : List En} {H : AHeap} (tb : TbIn t id most kept f H) (hd : H q = some (dT m2 L K)) : t ≠ q ∧ id ≠ q := by
  constructor
  · rintro rfl
    rw [tb.blk] at hd
    unfold dT at hd
    injection hd with hd
    injection hd with hd
    injection hd with hd
    cases hd
  · rintro rfl
    obtain ⟨es, c, h1, _⟩ := tb.map
    rw [h1] at hd; unfold dT at hd; cases hd

theorem TbIn.upd {t id q : Nat} {most : Int} {kept : List Int} {f : Tb} {H : AHeap} {o : AObj} (tb : TbIn t id most kept f H) (h1 : t ≠ q) (h2 : id ≠ q) : TbIn t id most kept f (E.upd H q o) := by
  obtain ⟨es, c, k1, k2⟩ := tb.map
  exact ⟨by rw [upd_ne h1]; exact tb.blk, ⟨es, c, by rw [upd_ne h2]; exact k1, k2⟩, tb.ok⟩

theorem adel_cnt {f : Tb} (ok : tbOk f) (n : Int) : ((adel f n).length : Int) + (if (alook f n).isSome then 1 else 0) = f.length := by
  cases h : alook f n with
  | none => rw [adel_none h]; simp
  | some v =>
    have := adel_len ok.1 (k := n) (by rw [h]; rfl)
    simp only [Option.isSome_some, if_true]; omega

/-- What holds at the head of each round. -/
structure NpIn (h : AHeap) (q : Nat) (most : Int) (t id : Nat) (K : List Int) (f : Tb) (H : AHeap) : Prop where
  tb : TbIn t id most K f H
  d : H q = some (dT most (allN f) K)
  len : (f.length : Int) ≤ most
  klen : K.length ≤ 10
  ht : h t = none
  hid : h id = none
  sub : Sub h H

theorem NpIn.setTb {h H H1 : AHeap} {q t id : Nat} {most : Int} {K : List Int} {f f' : Tb} (n : NpIn h q most t id K f H) (hq : h q = none) (hT : TbTo id f' H H1) (ok : tbOk f') (hl : (f'.length : Int) ≤ most) : NpIn h q most t id K f' (upd H1 q (dT most (allN f') K)) := by
  obtain ⟨a1, a2⟩ := n.tb.apart n.d
  refine ⟨(hT.tb n.tb ok).upd a1 a2, upd_same, hl, n.klen, n.ht, n.hid, ?_⟩
  obtain ⟨es, c, _, rfl⟩ := hT
  exact (n.sub.upd2 n.hid).upd2 hq

theorem loop_hs {α : Type} {body : PostA → List AV → AHeap → Prop} {Q : PostA} {s : List AV} {h : AHeap} (ds : List Nat) (m : α → Nat) (f : α → List AV → List AV) (I : α → AHeap → Prop) (x0 : α) (h0 : AHeap)
    (z0 : FzH h h0) (e0 : kill ds s = f x0 (kill ds s)) (i0 : I x0 h0) (round : ∀ (N : List AV → AHeap → Prop) x h', I x h' → (∀ y s' h'' h2, m y < m x → kill ds s' = f y (kill ds s) → FzH h'' h2 → I y h2 → N s' h'') → body (thenA N Q) (f x (kill ds s)) h') : loopA body Q s h :=
  loop_fz ds m (fun x => f x (kill ds s)) I x0 h0 z0 (by rw [← e0]; exact .refl _ _ _) i0 fun N x h' hi hN => round N x h' hi fun y s' h'' h2 h1 e z h3 => hN y s' h'' h2 h1 z (by rw [← e]; exact .refl _ _ _) h3

set_option maxHeartbeats 8000000 in
theorem nplays_spec (most : Int) (l : List Ac) (now age : Int) (h : AHeap) (hn : l.length ≤ 9223372036854775807) : PureA Try.prog 14 [.int .i64 most, .ro (cat encA l) l.length false, .int .i64 now, .int .i64 age] h (.bool true) := by
  (refine PureA.enter (ac := c14) (rs := r14) Try.func14 rfl (by decide) c14_ok r14_ok ?_; intro Q hQ; simp only [go_sem, Int.reduceEq, Int.reduceAdd, Int.reduceSub, Int.reduceMul, Nat.reduceLT, Int.reduceLT, Int.reduceLE, Int.reduceToNat, Nat.reduceAdd, Nat.reduceSub, Nat.reduceMul, Nat.reduceLeDiff, reduceCtorEq, c14, Try.ntmps14])
  by_cases hm : 1 ≤ most ∧ most ≤ 8
  · obtain ⟨hm1, hm2⟩ := hm
    have g1 : ¬ most < 1 := by omega
    have g2 : ¬ 8 < most := by omega
    refine (nnew_spec most ⟨hm1, hm2⟩ h).use ?_
    rintro _ H ⟨t, id, rfl, ht, hid, tb, hs⟩
    simp only [go_sem, Int.reduceEq, Int.reduceAdd, Int.reduceSub, Int.reduceMul, Nat.reduceLT, Int.reduceLT, Int.reduceLE, Int.reduceToNat, Nat.reduceAdd, Nat.reduceSub, Nat.reduceMul, Nat.reduceLeDiff, reduceCtorEq, g1, g2]
    intro q hq
    have hq0 := hs.isNone hq
    have tb0 := tb.sub (Sub.upd (o := .cells [.int .i64 most, .nils, .nils] 3) (Sub.refl H) hq)
    have hz : FzH (upd H q (.cells [.int .i64 most, .nils, .nils] 3)) (upd H q (dT most (allN []) [])) := fun x o e => by
      by_cases hx : x = q
      · subst hx
        rw [upd_same] at e ⊢
        cases e
        exact ⟨_, rfl, .cells (.cons (.refl _) (.cons .nils (.cons .nils .nil)))⟩
      · rw [upd_ne hx] at e ⊢
        exact ⟨o, e, .refl _⟩
    have n0 : NpIn h q most t id [] [] (upd H q (dT most (allN []) [])) := by
      have a1 : t ≠ q := by rintro rfl; rw [tb.blk] at hq; cases hq
      have a2 : id ≠ q := by
        rintro rfl
        obtain ⟨es, c, k1, _⟩ := tb.map
        rw [k1] at hq; cases hq
      exact ⟨tb.upd a1 a2, upd_same, by simp; omega, by simp, ht, hid, hs.upd2 hq0⟩
    refine loop_hs d14_0 (fun x : Nat × Nat × Nat × List Int × Tb => 60 - x.1) (fun x s => (s.set 12 (.int .i64 (x.1 : Int))).set 9 (.ptr x.2.1 0)) (fun x H => x.1 ≤ 60 ∧ x.1 ≤ l.length ∧ NpIn h q most x.2.1 x.2.2.1 x.2.2.2.1 x.2.2.2.2 H) (0, t, id, [], []) (upd H q (dT most (allN []) [])) hz ?_ ⟨by simp, by simp, n0⟩ ?_
    · (simp only [go_sem, Int.reduceEq, Int.reduceAdd, Int.reduceSub, Int.reduceMul, Nat.reduceLT, Int.reduceLT, Int.reduceLE, Int.reduceToNat, Nat.reduceAdd, Nat.reduceSub, Nat.reduceMul, Nat.reduceLeDiff, reduceCtorEq, d14_0] <;> rfl)
    rintro N ⟨k, t1, id1, K, f⟩ H1 ⟨hk, hkl, np⟩ hN
    simp only at hk hkl np hN
    clear tb tb0 n0 hz hs
    simp only [go_sem, Int.reduceEq, Int.reduceAdd, Int.reduceSub, Int.reduceMul, Nat.reduceLT, Int.reduceLT, Int.reduceLE, Int.reduceToNat, Nat.reduceAdd, Nat.reduceSub, Nat.reduceMul, Nat.reduceLeDiff, reduceCtorEq, d14_0]
    have hadd := wadd1 (k := k) (by omega)
    have hlen := np.len
    have hal : (allN f).length = f.length := allN_len f
    by_cases hlt : k < l.length ∧ (k : Int) < 60
    · obtain ⟨h1, h2⟩ := hlt
      have ra : ∀ h', aloads h' 7 (.rp ((cat encA l).drop (k * 7))) = some (encA l[k]) := fun h' => rd_all (h := h') encA_len h1
      have e1 := umod_spec l[k].kind 4 (by omega)
      have m1 : 0 ≤ l[k].kind % 18446744073709551616 % 4 ∧ l[k].kind % 18446744073709551616 % 4 < 4 := by omega
      generalize l[k] = a at *
      simp only [go_sem, Int.reduceEq, Int.reduceAdd, Int.reduceSub, Int.reduceMul, Nat.reduceLT, Int.reduceLT, Int.reduceLE, Int.reduceToNat, Nat.reduceAdd, Nat.reduceSub, Nat.reduceMul, Nat.reduceLeDiff, reduceCtorEq, h1, h2, ra, encA_len, encA_sca]
      intro p hp
      simp only [go_sem, Int.reduceEq, Int.reduceAdd, Int.reduceSub, Int.reduceMul, Nat.reduceLT, Int.reduceLT, Int.reduceLE, Int.reduceToNat, Nat.reduceAdd, Nat.reduceSub, Nat.reduceMul, Nat.reduceLeDiff, reduceCtorEq, encA, del_same, del_none hp, e1, show ((4 : Int) == 0) = false from rfl]
      generalize a.kind % 18446744073709551616 % 4 = M at *
      rcases (show M = 0 ∨ M = 1 ∨ M = 2 ∨ M = 3 by omega) with rfl | rfl | rfl | rfl
      · simp only [go_sem, Int.reduceEq, Int.reduceAdd, Int.reduceSub, Int.reduceMul, Nat.reduceLT, Int.reduceLT, Int.reduceLE, Int.reduceToNat, Nat.reduceAdd, Nat.reduceSub, Nat.reduceMul, Nat.reduceLeDiff, reduceCtorEq, show decide ((0 : Int) = 0) = true from rfl]
        refine (to14_spec a.e _).use ?_
        simp only [go_sem, Int.reduceEq, Int.reduceAdd, Int.reduceSub, Int.reduceMul, Nat.reduceLT, Int.reduceLT, Int.reduceLE, Int.reduceToNat, Nat.reduceAdd, Nat.reduceSub, Nat.reduceMul, Nat.reduceLeDiff, reduceCtorEq]
        refine (nput_spec np.tb (by have := np.klen; omega) (by omega) hlen a.e).use ?_
        rintro _ H2 ⟨rfl, hT⟩
        have ok' := tbOk_put (most := most) (kept := K) np.tb.ok a.e
        have hl' := put_len (most := most) (kept := K) np.tb.ok hlen a.e
        have np2 := np.setTb hq0 hT ok' hl'
        obtain ⟨a1, a2⟩ := np.tb.apart np.d
        have hd2 : H2 q = some (dT most (allN f) K) := by
          obtain ⟨es, c, _, rfl⟩ := hT
          rw [upd_ne (Ne.symm a2)]; exact np.d
        simp only [go_sem, Int.reduceEq, Int.reduceAdd, Int.reduceSub, Int.reduceMul, Nat.reduceLT, Int.reduceLT, Int.reduceLE, Int.reduceToNat, Nat.reduceAdd, Nat.reduceSub, Nat.reduceMul, Nat.reduceLeDiff, reduceCtorEq]
        refine CallsA.use (show CallsA Try.prog 61 [.ptr q 0, .agg (encE a.e)] H2 _ from rput_spec np.tb.ok a.e hd2 (by omega) (by have := np.klen; omega)) ?_
        rintro _ H3 ⟨rfl, rfl⟩
        simp only [go_sem, Int.reduceEq, Int.reduceAdd, Int.reduceSub, Int.reduceMul, Nat.reduceLT, Int.reduceLT, Int.reduceLE, Int.reduceToNat, Nat.reduceAdd, Nat.reduceSub, Nat.reduceMul, Nat.reduceLeDiff, reduceCtorEq]
        refine (to14_spec a.e _).use ?_
        simp only [go_sem, Int.reduceEq, Int.reduceAdd, Int.reduceSub, Int.reduceMul, Nat.reduceLT, Int.reduceLT, Int.reduceLE, Int.reduceToNat, Nat.reduceAdd, Nat.reduceSub, Nat.reduceMul, Nat.reduceLeDiff, reduceCtorEq]
        refine (ncheck_spec a.e _).use ?_
        simp only [go_sem, Int.reduceEq, Int.reduceAdd, Int.reduceSub, Int.reduceMul, Nat.reduceLT, Int.reduceLT, Int.reduceLE, Int.reduceToNat, Nat.reduceAdd, Nat.reduceSub, Nat.reduceMul, Nat.reduceLeDiff, reduceCtorEq]
        refine (rright_spec a.e _).use ?_
        have hE : ((decide ((if rightE a.e = true then (0 : Int) else 1) = 0)) == rightE a.e) = true := by cases rightE a.e <;> rfl
        simp only [go_sem, Int.reduceEq, Int.reduceAdd, Int.reduceSub, Int.reduceMul, Nat.reduceLT, Int.reduceLT, Int.reduceLE, Int.reduceToNat, Nat.reduceAdd, Nat.reduceSub, Nat.reduceMul, Nat.reduceLeDiff, reduceCtorEq, hE]
        refine (tells_spec np2.tb np2.d (by have := np2.len; omega) a.e.node now age).use ?_
        simp only [go_sem, Int.reduceEq, Int.reduceAdd, Int.reduceSub, Int.reduceMul, Nat.reduceLT, Int.reduceLT, Int.reduceLE, Int.reduceToNat, Nat.reduceAdd, Nat.reduceSub, Nat.reduceMul, Nat.reduceLeDiff, reduceCtorEq, hadd]
        refine hN (k + 1, t1, id1, K, _) _ _ _ (by simp only; omega) ?_ (.refl _) ⟨by simp only; omega, h1, np2⟩
        simp only [go_sem, Int.reduceEq, Int.reduceAdd, Int.reduceSub, Int.reduceMul, Nat.reduceLT, Int.reduceLT, Int.reduceLE, Int.reduceToNat, Nat.reduceAdd, Nat.reduceSub, Nat.reduceMul, Nat.reduceLeDiff, reduceCtorEq, d14_0]
      · simp only [go_sem, Int.reduceEq, Int.reduceAdd, Int.reduceSub, Int.reduceMul, Nat.reduceLT, Int.reduceLT, Int.reduceLE, Int.reduceToNat, Nat.reduceAdd, Nat.reduceSub, Nat.reduceMul, Nat.reduceLeDiff, reduceCtorEq, show decide ((1 : Int) = 0) = false from rfl, show decide ((1 : Int) = 1) = true from rfl]
        obtain ⟨a1, a2⟩ := np.tb.apart np.d
        have ok1 := tbOk_del np.tb.ok a.e.node
        have ok2 := tbOk_del ok1 a.other
        have n1 := adel_cnt np.tb.ok a.e.node
        have n2 := adel_cnt ok1 a.other
        have hdr : dropF f [a.e.node, a.other] = adel (adel f a.e.node) a.other := rfl
        refine (rdrop_spec np.tb.ok np.d (by omega) a.e.node).use ?_
        rintro _ H2 ⟨rfl, rfl⟩
        cases b1 : (alook f a.e.node).isSome <;> rw [b1] at n1 <;> simp only [go_sem, Int.reduceEq, Int.reduceAdd, Int.reduceSub, Int.reduceMul, Nat.reduceLT, Int.reduceLT, Int.reduceLE, Int.reduceToNat, Nat.reduceAdd, Nat.reduceSub, Nat.reduceMul, Nat.reduceLeDiff, reduceCtorEq] <;>
        ( refine (rdrop_spec ok1 upd_same (by have : (adel f a.e.node).length ≤ f.length := List.length_filter_le _ _
                                              omega) a.other).use ?_
          rintro _ H3 ⟨rfl, rfl⟩
          rw [upd_upd]
          cases b2 : (alook (adel f a.e.node) a.other).isSome <;> rw [b2] at n2 <;> simp only [go_sem, Int.reduceEq, Int.reduceAdd, Int.reduceSub, Int.reduceMul, Nat.reduceLT, Int.reduceLT, Int.reduceLE, Int.reduceToNat, Nat.reduceAdd, Nat.reduceSub, Nat.reduceMul, Nat.reduceLeDiff, reduceCtorEq] <;>
          ( refine CallsA.use (show CallsA Try.prog 65 [.ptr t1 0, .ro [.int .i64 a.e.node, .int .i64 a.other] 2 true] _ _ from ndrop_spec (np.tb.upd (o := dT most (allN (adel (adel f a.e.node) a.other)) K) a1 a2) [a.e.node, a.other] true (by simp) (by omega)) ?_
            rintro _ H4 ⟨rfl, hT⟩
            rw [hdr] at hT ⊢
            have hT' : ∃ H5, TbTo id1 (adel (adel f a.e.node) a.other) H1 H5 ∧ H4 = upd H5 q (dT most (allN (adel (adel f a.e.node) a.other)) K) := by
              obtain ⟨es, c, k1, k2⟩ := hT
              exact ⟨_, ⟨es, c, k1, rfl⟩, by rw [k2, upd_comm (Ne.symm a2)]⟩
            obtain ⟨H5, hT5, e4⟩ := hT'
            have hl2 : ((adel (adel f a.e.node) a.other).length : Int) ≤ most := by
              simp only [Bool.false_eq_true, if_true, if_false] at n1 n2; omega
            have np2 := np.setTb hq0 hT5 ok2 hl2
            rw [← e4] at np2
            simp only [Bool.false_eq_true, if_true, if_false] at n1 n2
            have w1 : IntKind.i64.wrap (0 + 1) = 1 := by decide
            have w2 : IntKind.i64.wrap (1 + 1) = 2 := by decide
            have w3 : IntKind.i64.wrap 1 = 1 := by decide
            have w4 : IntKind.i64.wrap 2 = 2 := by decide
            (first
              | (have hcnt : (f.length : Int) - ((adel (adel f a.e.node) a.other).length : Int) = 0 := by omega
                 simp only [go_sem, Int.reduceEq, Int.reduceAdd, Int.reduceSub, Int.reduceMul, Nat.reduceLT, Int.reduceLT, Int.reduceLE, Int.reduceToNat, Nat.reduceAdd, Nat.reduceSub, Nat.reduceMul, Nat.reduceLeDiff, reduceCtorEq, hcnt, w1, w2, w3, w4])
              | (have hcnt : (f.length : Int) - ((adel (adel f a.e.node) a.other).length : Int) = 1 := by omega
                 simp only [go_sem, Int.reduceEq, Int.reduceAdd, Int.reduceSub, Int.reduceMul, Nat.reduceLT, Int.reduceLT, Int.reduceLE, Int.reduceToNat, Nat.reduceAdd, Nat.reduceSub, Nat.reduceMul, Nat.reduceLeDiff, reduceCtorEq, hcnt, w1, w2, w3, w4])
              | (have hcnt : (f.length : Int) - ((adel (adel f a.e.node) a.other).length : Int) = 2 := by omega
                 simp only [go_sem, Int.reduceEq, Int.reduceAdd, Int.reduceSub, Int.reduceMul, Nat.reduceLT, Int.reduceLT, Int.reduceLE, Int.reduceToNat, Nat.reduceAdd, Nat.reduceSub, Nat.reduceMul, Nat.reduceLeDiff, reduceCtorEq, hcnt, w1, w2, w3, w4]))
            refine (tells_spec np2.tb np2.d (by have := np2.len; omega) a.e.node now age).use ?_
            simp only [go_sem, Int.reduceEq, Int.reduceAdd, Int.reduceSub, Int.reduceMul, Nat.reduceLT, Int.reduceLT, Int.reduceLE, Int.reduceToNat, Nat.reduceAdd, Nat.reduceSub, Nat.reduceMul, Nat.reduceLeDiff, reduceCtorEq, hadd]
            refine hN (k + 1, t1, id1, K, _) _ _ _ (by simp only; omega) ?_ (.refl _) ⟨by simp only; omega, h1, np2⟩
            simp only [go_sem, Int.reduceEq, Int.reduceAdd, Int.reduceSub, Int.reduceMul, Nat.reduceLT, Int.reduceLT, Int.reduceLE, Int.reduceToNat, Nat.reduceAdd, Nat.reduceSub, Nat.reduceMul, Nat.reduceLeDiff, reduceCtorEq, d14_0] ) )
      · simp only [go_sem, Int.reduceEq, Int.reduceAdd, Int.reduceSub, Int.reduceMul, Nat.reduceLT, Int.reduceLT, Int.reduceLE, Int.reduceToNat, Nat.reduceAdd, Nat.reduceSub, Nat.reduceMul, Nat.reduceLeDiff, reduceCtorEq, show decide ((2 : Int) = 0) = false from rfl, show decide ((2 : Int) = 1) = false from rfl, show decide ((2 : Int) = 2) = true from rfl]
        obtain ⟨a1, a2⟩ := np.tb.apart np.d
        refine CallsA.use (show CallsA Try.prog 57 [.ptr t1 0, .ro [.int .i64 a.e.node, .int .i64 a.other] 2 true] _ _ from nkeep_spec np.tb a.e.node [a.other] true (by simp)) ?_
        rintro _ H2 ⟨rfl, e2⟩
        have tbk : TbIn t1 id1 most [a.e.node, a.other] f H2 := by
          have hne := np.tb.ne
          obtain ⟨es, c, k1, k2⟩ := np.tb.map
          rw [e2]
          exact ⟨upd_same, ⟨es, c, by rw [upd_ne (Ne.symm hne)]; exact k1, k2⟩, np.tb.ok⟩
        have hdc : H2 q = some (.cells [.int .i64 most, .ro (cat encE (allN f)) (allN f).length false, .ro (cat i1 K) K.length false] 3) := by
          rw [e2, upd_ne (Ne.symm a1)]; exact np.d
        have hs2 : Sub h H2 := by rw [e2]; exact np.sub.upd2 np.ht
        clear e2
        simp only [go_sem, Int.reduceEq, Int.reduceAdd, Int.reduceSub, Int.reduceMul, Nat.reduceLT, Int.reduceLT, Int.reduceLE, Int.reduceToNat, Nat.reduceAdd, Nat.reduceSub, Nat.reduceMul, Nat.reduceLeDiff, reduceCtorEq, hdc]
        have np2 : NpIn h q most t1 id1 [a.e.node, a.other] f (upd H2 q (dT most (allN f) [a.e.node, a.other])) :=
          ⟨tbk.upd a1 a2, upd_same, hlen, by simp, np.ht, np.hid, hs2.upd2 hq0⟩
        refine PureA.useH (tells_spec np2.tb np2.d (by omega) a.e.node now age) (fun x o e => ?_) (FzL.refl _ _ _) ?_
        · by_cases hx : x = q
          · subst hx
            rw [upd_same] at e ⊢
            cases e
            exact ⟨_, rfl, .cells (.cons (.refl _) (.cons (.refl _) (.cons (.ro (.refl _ _ _) (by simp)) .nil)))⟩
          · rw [upd_ne hx] at e ⊢
            exact ⟨o, e, .refl _⟩
        · simp only [go_sem, Int.reduceEq, Int.reduceAdd, Int.reduceSub, Int.reduceMul, Nat.reduceLT, Int.reduceLT, Int.reduceLE, Int.reduceToNat, Nat.reduceAdd, Nat.reduceSub, Nat.reduceMul, Nat.reduceLeDiff, reduceCtorEq, hadd]
          refine hN (k + 1, t1, id1, _, f) _ _ _ (by simp only; omega) ?_ (.refl _) ⟨by simp only; omega, h1, np2⟩
          simp only [go_sem, Int.reduceEq, Int.reduceAdd, Int.reduceSub, Int.reduceMul, Nat.reduceLT, Int.reduceLT, Int.reduceLE, Int.reduceToNat, Nat.reduceAdd, Nat.reduceSub, Nat.reduceMul, Nat.reduceLeDiff, reduceCtorEq, d14_0]
      · simp only [go_sem, Int.reduceEq, Int.reduceAdd, Int.reduceSub, Int.reduceMul, Nat.reduceLT, Int.reduceLT, Int.reduceLE, Int.reduceToNat, Nat.reduceAdd, Nat.reduceSub, Nat.reduceMul, Nat.reduceLeDiff, reduceCtorEq, show decide ((3 : Int) = 0) = false from rfl, show decide ((3 : Int) = 1) = false from rfl, show decide ((3 : Int) = 2) = false from rfl]
        refine (ncopy_spec np.tb (by have := np.klen; omega)).use ?_
        rintro _ H2 ⟨t2, id2, rfl, ht2, hid2, tb2, s2⟩
        simp only [go_sem, Int.reduceEq, Int.reduceAdd, Int.reduceSub, Int.reduceMul, Nat.reduceLT, Int.reduceLT, Int.reduceLE, Int.reduceToNat, Nat.reduceAdd, Nat.reduceSub, Nat.reduceMul, Nat.reduceLeDiff, reduceCtorEq]
        refine CallsA.use (show CallsA Try.prog 65 [.ptr t1 0, .ro [.int .i64 0, .int .i64 1, .int .i64 2, .int .i64 3] 4 true] _ _ from ndrop_spec (np.tb.sub s2) [0, 1, 2, 3] true (by simp) (by omega)) ?_
        rintro _ H3 ⟨rfl, hT⟩
        have tbo := hT.tb (np.tb.sub s2) (dropF_ok np.tb.ok _)
        simp only [go_sem, Int.reduceEq, Int.reduceAdd, Int.reduceSub, Int.reduceMul, Nat.reduceLT, Int.reduceLT, Int.reduceLE, Int.reduceToNat, Nat.reduceAdd, Nat.reduceSub, Nat.reduceMul, Nat.reduceLeDiff, reduceCtorEq]
        refine (nkeep_nil tbo).use ?_
        rintro _ H4 ⟨rfl, rfl⟩
        obtain ⟨a1, a2⟩ := np.tb.apart np.d
        have np2 : NpIn h q most t2 id2 K f (upd H3 t1 (.cells [.nils, .int .i64 most, .map id1] 3)) := by
          obtain ⟨es, c, k1, k2⟩ := np.tb.map
          have b1 : t2 ≠ id1 := by rintro rfl; rw [k1] at ht2; cases ht2
          have b2 : id2 ≠ id1 := by rintro rfl; rw [k1] at hid2; cases hid2
          have b3 : t2 ≠ t1 := by rintro rfl; rw [np.tb.blk] at ht2; cases ht2
          have b4 : id2 ≠ t1 := by rintro rfl; rw [np.tb.blk] at hid2; cases hid2
          obtain ⟨es3, c3, _, rfl⟩ := hT
          refine ⟨(tb2.upd b1 b2).upd b3 b4, ?_, hlen, np.klen, np.sub.isNone ht2, np.sub.isNone hid2, ?_⟩
          · rw [upd_ne (Ne.symm a1), upd_ne (Ne.symm a2)]
            exact s2 _ _ np.d
          · exact ((np.sub.trans s2).upd2 np.hid).upd2 np.ht
        simp only [go_sem, Int.reduceEq, Int.reduceAdd, Int.reduceSub, Int.reduceMul, Nat.reduceLT, Int.reduceLT, Int.reduceLE, Int.reduceToNat, Nat.reduceAdd, Nat.reduceSub, Nat.reduceMul, Nat.reduceLeDiff, reduceCtorEq]
        refine (tells_spec np2.tb np2.d (by omega) a.e.node now age).use ?_
        simp only [go_sem, Int.reduceEq, Int.reduceAdd, Int.reduceSub, Int.reduceMul, Nat.reduceLT, Int.reduceLT, Int.reduceLE, Int.reduceToNat, Nat.reduceAdd, Nat.reduceSub, Nat.reduceMul, Nat.reduceLeDiff, reduceCtorEq, hadd]
        refine hN (k + 1, t2, id2, K, f) _ _ _ (by simp only; omega) ?_ (.refl _) ⟨by simp only; omega, h1, np2⟩
        simp only [go_sem, Int.reduceEq, Int.reduceAdd, Int.reduceSub, Int.reduceMul, Nat.reduceLT, Int.reduceLT, Int.reduceLE, Int.reduceToNat, Nat.reduceAdd, Nat.reduceSub, Nat.reduceMul, Nat.reduceLeDiff, reduceCtorEq, d14_0]
    · rcases (show (k < l.length ∧ ¬ (k : Int) < 60) ∨ ¬ k < l.length by omega) with ⟨h1, h2⟩ | h1 <;> (first | (simp only [go_sem, Int.reduceEq, Int.reduceAdd, Int.reduceSub, Int.reduceMul, Nat.reduceLT, Int.reduceLT, Int.reduceLE, Int.reduceToNat, Nat.reduceAdd, Nat.reduceSub, Nat.reduceMul, Nat.reduceLeDiff, reduceCtorEq, h1, h2]) | (simp only [go_sem, Int.reduceEq, Int.reduceAdd, Int.reduceSub, Int.reduceMul, Nat.reduceLT, Int.reduceLT, Int.reduceLE, Int.reduceToNat, Nat.reduceAdd, Nat.reduceSub, Nat.reduceMul, Nat.reduceLeDiff, reduceCtorEq, h1])) <;>
      ( refine frz_id ?_
        simp only [go_sem, Int.reduceEq, Int.reduceAdd, Int.reduceSub, Int.reduceMul, Nat.reduceLT, Int.reduceLT, Int.reduceLE, Int.reduceToNat, Nat.reduceAdd, Nat.reduceSub, Nat.reduceMul, Nat.reduceLeDiff, reduceCtorEq]
        refine (known14_spec _).use ?_
        simp only [go_sem, Int.reduceEq, Int.reduceAdd, Int.reduceSub, Int.reduceMul, Nat.reduceLT, Int.reduceLT, Int.reduceLE, Int.reduceToNat, Nat.reduceAdd, Nat.reduceSub, Nat.reduceMul, Nat.reduceLeDiff, reduceCtorEq]
        refine hQ _ _ _ _ _ (.inr rfl) rfl (FzH.sub np.sub) (FzL.refl _ _ _) rfl )
  · refine (nnew_bad most hm h).use ?_
    rcases (show most < 1 ∨ (¬ most < 1 ∧ 8 < most) by omega) with g1 | ⟨g1, g2⟩ <;> (first | (simp only [go_sem, Int.reduceEq, Int.reduceAdd, Int.reduceSub, Int.reduceMul, Nat.reduceLT, Int.reduceLT, Int.reduceLE, Int.reduceToNat, Nat.reduceAdd, Nat.reduceSub, Nat.reduceMul, Nat.reduceLeDiff, reduceCtorEq, g1, g2]) | (simp only [go_sem, Int.reduceEq, Int.reduceAdd, Int.reduceSub, Int.reduceMul, Nat.reduceLT, Int.reduceLT, Int.reduceLE, Int.reduceToNat, Nat.reduceAdd, Nat.reduceSub, Nat.reduceMul, Nat.reduceLeDiff, reduceCtorEq, g1])) <;>
    ( refine (known14_spec _).use ?_
      simp only [go_sem, Int.reduceEq, Int.reduceAdd, Int.reduceSub, Int.reduceMul, Nat.reduceLT, Int.reduceLT, Int.reduceLE, Int.reduceToNat, Nat.reduceAdd, Nat.reduceSub, Nat.reduceMul, Nat.reduceLeDiff, reduceCtorEq]
      (refine hQ _ _ _ _ _ (by first | exact .inr rfl | exact .inl rfl) rfl (by first | exact FzH.refl _ | exact FzH.sub (by (repeat' (first | exact Sub.refl _ | assumption | (refine Sub.upd ?_ (by first | assumption | (simp only [*]; done) | exact Sub.isNone (by assumption) (by assumption) | exact Sub.isNone (by assumption) (by simp only [*]))))))) (FzL.refl _ _ _) ?_; try (simp only [go_sem, Int.reduceEq, Int.reduceAdd, Int.reduceSub, Int.reduceMul, Nat.reduceLT, Int.reduceLT, Int.reduceLE, Int.reduceToNat, Nat.reduceAdd, Nat.reduceSub, Nat.reduceMul, Nat.reduceLeDiff, reduceCtorEq])) )

theorem acs_sh {els : List (List AV)} (h : ∀ el ∈ els, el.length = 7 ∧ ShC Try.prog 5 118 el) : ∃ l : List Ac, els.flatten = cat encA l ∧ els.length = l.length := by
  obtain ⟨l, e1, e2, _⟩ := sh_list (enc := encA) (R := fun _ => True) (els := els) fun el hel => by
    have := (h el hel).2
    rw [ShC] at this
    simp only [Try.underlying118, Try.underlying109, ShFs, ShC, Try.underlying3] at this
    obtain ⟨_, _, rfl, _, ⟨k, rfl, _⟩, _, _, rfl, _, ⟨_, _, rfl, _, ⟨a, rfl, _⟩, _, _, rfl, _, ⟨b, rfl, _⟩, _, _, rfl, _, ⟨c, rfl, _⟩, _, _, rfl, _, ⟨d, rfl, _⟩, _, _, rfl, _, ⟨e, rfl, _⟩, rfl⟩, _, _, rfl, _, ⟨o, rfl, _⟩, rfl⟩ := this
    exact ⟨⟨k, ⟨a, b, c, d, e⟩, o⟩, rfl, trivial⟩
  exact ⟨l, e1, e2⟩

theorem nplays_law (xs : List AV) (h : ArgsSh Try.prog 6 Try.f14.params.toList xs) : PureA Try.prog 14 xs emp (.bool true) := by
  rw [Try.params14] at h
  simp only [ArgsSh, ArgSh, Try.underlying113, Try.underlying3] at h
  obtain ⟨x, _, rfl, hx, y, _, rfl, hy, z, _, rfl, hz, u, _, rfl, hu, rfl⟩ := h
  rw [ShC] at hy
  simp only [Try.underlying113] at hy
  simp only [Try.underlying3, ShC] at hx hz hu
  obtain ⟨m, hm, _⟩ := hx
  cases hm
  obtain ⟨n, hm, _⟩ := hz
  cases hm
  obtain ⟨g, hm, _⟩ := hu
  cases hm
  obtain ⟨els, e0, hl, hels⟩ := hy
  cases e0
  obtain ⟨l, e1, e2⟩ := acs_sh (els := els) fun el hel => ⟨(hels el hel).1, (hels el hel).2⟩
  rw [e1, e2]
  exact nplays_spec m l n g emp (by have := maxLen_le; omega)

end Go.Proofs.Ytaeppifdbcoipaa
