/-
  Neighbours: Drop, Stale, Worst, Copy.
-/
import Derived.Test.YtaeppifdbcoipaaNe
import Derived.Test.YtaeppifdbcoipaaNg
import Derived.Test.YtaeppifdbcoipaaC8
import Derived.Shelf.SlMaps.Clone
namespace Go.Proofs.Ytaeppifdbcoipaa
open Go E
set_option linter.unusedVariables false
set_option linter.unusedSimpArgs false
set_option maxRecDepth 100000

def dropF (f : Tb) (ns : List Int) : Tb := ns.foldl adel f
theorem dropF_snoc (f : Tb) (ns : List Int) (n : Int) : dropF f (ns ++ [n]) = adel (dropF f ns) n := by simp [dropF]
theorem dropF_ok {f : Tb} (ok : tbOk f) : ∀ (ns : List Int), tbOk (dropF f ns) := by
  intro ns
  induction ns using snocI with
  | h0 => exact ok
  | h1 ns n ih => rw [dropF_snoc]; exact tbOk_del ih n
theorem dropF_len (f : Tb) : ∀ (ns : List Int), (dropF f ns).length ≤ f.length := by
  intro ns
  induction ns using snocI with
  | h0 => exact Nat.le_refl _
  | h1 ns n ih => rw [dropF_snoc]; exact Nat.le_trans (List.length_filter_le _ _) ih

theorem ndrop_spec {t id : Nat} {most : Int} {kept : List Int} {f : Tb} {H : AHeap} (tb : TbIn t id most kept f H) (ns : List Int) (ex : Bool) (hn : ns.length ≤ 100000) (hl : f.length ≤ 100000) :
    CallsA Try.prog 65 [.ptr t 0, .ro (cat i1 ns) ns.length ex] H (fun r H' => r = .int .i64 ((f.length : Int) - ((dropF f ns).length : Int)) ∧ TbTo id (dropF f ns) H H') := by
  obtain ⟨es, c, h1, h2⟩ := tb.map
  (refine CallsA.enterR (ac := c65) (rs := r65) Try.func65 rfl (by decide) c65_ok r65_ok ?_; intro Q hQ; simp only [go_sem, Int.reduceEq, Int.reduceAdd, Int.reduceSub, Int.reduceMul, Nat.reduceLT, Int.reduceLT, Int.reduceLE, Int.reduceToNat, Nat.reduceAdd, Nat.reduceSub, Nat.reduceMul, Nat.reduceLeDiff, reduceCtorEq, c65, Try.ntmps65, tb.blk])
  refine map_len h1 h2 ?_
  simp only [go_sem, Int.reduceEq, Int.reduceAdd, Int.reduceSub, Int.reduceMul, Nat.reduceLT, Int.reduceLT, Int.reduceLE, Int.reduceToNat, Nat.reduceAdd, Nat.reduceSub, Nat.reduceMul, Nat.reduceLeDiff, reduceCtorEq]
  refine loop_st d65_0 (fun k : Nat => ns.length - k) (fun k s => s.set 17 (.int .i64 (k : Int))) (fun k H' => k ≤ ns.length ∧ TbTo id (dropF f (ns.take k)) H H') 0 ?_ ⟨Nat.zero_le _, TbTo.refl tb⟩ ?_
  · (simp only [go_sem, Int.reduceEq, Int.reduceAdd, Int.reduceSub, Int.reduceMul, Nat.reduceLT, Int.reduceLT, Int.reduceLE, Int.reduceToNat, Nat.reduceAdd, Nat.reduceSub, Nat.reduceMul, Nat.reduceLeDiff, reduceCtorEq, d65_0] <;> rfl)
  rintro N k H' ⟨hk, hT⟩ hN
  have tb1 := hT.tb tb (dropF_ok tb.ok _)
  obtain ⟨es1, c1, k1, k2⟩ := tb1.map
  simp only [go_sem, Int.reduceEq, Int.reduceAdd, Int.reduceSub, Int.reduceMul, Nat.reduceLT, Int.reduceLT, Int.reduceLE, Int.reduceToNat, Nat.reduceAdd, Nat.reduceSub, Nat.reduceMul, Nat.reduceLeDiff, reduceCtorEq, d65_0]
  have hadd := wadd1 (k := k) (by omega)
  by_cases hlt : k < ns.length
  · have hsn : dropF f (ns.take (k + 1)) = adel (dropF f (ns.take k)) ns[k] := by rw [List.take_succ_eq_append_getElem hlt, dropF_snoc]
    simp only [go_sem, Int.reduceEq, Int.reduceAdd, Int.reduceSub, Int.reduceMul, Nat.reduceLT, Int.reduceLT, Int.reduceLE, Int.reduceToNat, Nat.reduceAdd, Nat.reduceSub, Nat.reduceMul, Nat.reduceLeDiff, reduceCtorEq, hlt, rdI hlt, tb1.blk]
    refine map_del (ek := kI) (ew := ewE) kI_fit k1 k2 tb1.ok.1 fun es2 hm2 => ?_
    simp only [go_sem, Int.reduceEq, Int.reduceAdd, Int.reduceSub, Int.reduceMul, Nat.reduceLT, Int.reduceLT, Int.reduceLE, Int.reduceToNat, Nat.reduceAdd, Nat.reduceSub, Nat.reduceMul, Nat.reduceLeDiff, reduceCtorEq, hadd]
    refine hN (k + 1) _ _ (by omega) ?_ ⟨hlt, ?_⟩
    · simp only [go_sem, Int.reduceEq, Int.reduceAdd, Int.reduceSub, Int.reduceMul, Nat.reduceLT, Int.reduceLT, Int.reduceLE, Int.reduceToNat, Nat.reduceAdd, Nat.reduceSub, Nat.reduceMul, Nat.reduceLeDiff, reduceCtorEq, d65_0]
    · rw [hsn]
      obtain ⟨es0, c0, _, rfl⟩ := hT
      exact ⟨es2, _, hm2, by rw [upd_upd]⟩
  · have hkl : k = ns.length := by omega
    subst hkl
    rw [List.take_length] at hT tb1 k2
    have hle := dropF_len f ns
    have hw : IntKind.i64.wrap ((f.length : Int) - ((dropF f ns).length : Int)) = (f.length : Int) - ((dropF f ns).length : Int) := w64 (by omega) (by omega)
    simp only [go_sem, Int.reduceEq, Int.reduceAdd, Int.reduceSub, Int.reduceMul, Nat.reduceLT, Int.reduceLT, Int.reduceLE, Int.reduceToNat, Nat.reduceAdd, Nat.reduceSub, Nat.reduceMul, Nat.reduceLeDiff, reduceCtorEq, hlt]
    refine frz_id ?_
    simp only [go_sem, Int.reduceEq, Int.reduceAdd, Int.reduceSub, Int.reduceMul, Nat.reduceLT, Int.reduceLT, Int.reduceLE, Int.reduceToNat, Nat.reduceAdd, Nat.reduceSub, Nat.reduceMul, Nat.reduceLeDiff, reduceCtorEq, tb1.blk]
    refine map_len k1 k2 ?_
    simp only [go_sem, Int.reduceEq, Int.reduceAdd, Int.reduceSub, Int.reduceMul, Nat.reduceLT, Int.reduceLT, Int.reduceLE, Int.reduceToNat, Nat.reduceAdd, Nat.reduceSub, Nat.reduceMul, Nat.reduceLeDiff, reduceCtorEq, hw]
    refine hQ _ _ _ _ _ _ (.inr rfl) rfl (FzH.refl _) (FzL.refl _ _ _) ⟨rfl, hT⟩

/-! ### Those not heard for long -/

def staleN (f : Tb) (now age : Int) : List Int := if now < 0 ∨ age < 0 then [] else ((allN f).filter fun e => decide (age < IntKind.i64.wrap (now - e.heard))).map (·.node)

theorem nstale_spec {t id : Nat} {most : Int} {kept : List Int} {f : Tb} {H : AHeap} (tb : TbIn t id most kept f H) (hn : f.length ≤ 12) (now age : Int) :
    CallsA Try.prog 121 [.ptr t 0, .int .i64 now, .int .i64 age] H (fun r H' => H' = H ∧ r = .ro (cat i1 (staleN f now age)) (staleN f now age).length false) := by
  (refine CallsA.enterR (ac := c121) (rs := r121) Try.func121 rfl (by decide) c121_ok r121_ok ?_; intro Q hQ; simp only [go_sem, Int.reduceEq, Int.reduceAdd, Int.reduceSub, Int.reduceMul, Nat.reduceLT, Int.reduceLT, Int.reduceLE, Int.reduceToNat, Nat.reduceAdd, Nat.reduceSub, Nat.reduceMul, Nat.reduceLeDiff, reduceCtorEq, c121, Try.ntmps121])
  by_cases g1 : now < 0
  · have e : staleN f now age = [] := by unfold staleN; rw [if_pos (.inl g1)]
    simp only [go_sem, Int.reduceEq, Int.reduceAdd, Int.reduceSub, Int.reduceMul, Nat.reduceLT, Int.reduceLT, Int.reduceLE, Int.reduceToNat, Nat.reduceAdd, Nat.reduceSub, Nat.reduceMul, Nat.reduceLeDiff, reduceCtorEq, g1]
    refine hQ _ _ _ _ H [.ro [] 0 false] (.inr rfl) rfl (FzH.refl _) (.cons .nils .nil) ⟨rfl, by rw [e]; rfl⟩
  by_cases g2 : age < 0
  · have e : staleN f now age = [] := by unfold staleN; rw [if_pos (.inr g2)]
    simp only [go_sem, Int.reduceEq, Int.reduceAdd, Int.reduceSub, Int.reduceMul, Nat.reduceLT, Int.reduceLT, Int.reduceLE, Int.reduceToNat, Nat.reduceAdd, Nat.reduceSub, Nat.reduceMul, Nat.reduceLeDiff, reduceCtorEq, g1, g2]
    refine hQ _ _ _ _ H [.ro [] 0 false] (.inr rfl) rfl (FzH.refl _) (.cons .nils .nil) ⟨rfl, by rw [e]; rfl⟩
  have e : staleN f now age = ((allN f).filter fun e => decide (age < IntKind.i64.wrap (now - e.heard))).map (·.node) := by unfold staleN; rw [if_neg (by omega)]
  simp only [go_sem, Int.reduceEq, Int.reduceAdd, Int.reduceSub, Int.reduceMul, Nat.reduceLT, Int.reduceLT, Int.reduceLE, Int.reduceToNat, Nat.reduceAdd, Nat.reduceSub, Nat.reduceMul, Nat.reduceLeDiff, reduceCtorEq, g1, g2]
  refine (nall_spec tb hn).use ?_
  rintro r H1 ⟨gr, hw⟩
  have hlenr := gr.len
  have hal : (allN f).length = f.length := allN_len f
  rw [← hal] at gr hlenr
  rw [e] at hQ
  generalize allN f = S at *
  let P : Nat → List Int := fun k => ((S.take k).filter fun e => decide (age < IntKind.i64.wrap (now - e.heard))).map (·.node)
  simp only [go_sem, Int.reduceEq, Int.reduceAdd, Int.reduceSub, Int.reduceMul, Nat.reduceLT, Int.reduceLT, Int.reduceLE, Int.reduceToNat, Nat.reduceAdd, Nat.reduceSub, Nat.reduceMul, Nat.reduceLeDiff, reduceCtorEq, hlenr]
  refine loop_zz d121_0 [(17, .ro (cat encE S) S.length false)] (fun y : Nat × AV => S.length - y.1) (fun y s => (s.set 19 (.int .i64 (y.1 : Int))).set 7 y.2) (fun y H' => y.1 ≤ S.length ∧ Grow H 1 y.2 (cat i1 (P y.1)) (P y.1).length H') (0, .nils) H gr.fzH ?_ ⟨Nat.zero_le _, Grow.nil⟩ ?_
  · simp only [go_sem, Int.reduceEq, Int.reduceAdd, Int.reduceSub, Int.reduceMul, Nat.reduceLT, Int.reduceLT, Int.reduceLE, Int.reduceToNat, Nat.reduceAdd, Nat.reduceSub, Nat.reduceMul, Nat.reduceLeDiff, reduceCtorEq, d121_0]
    repeat' (first | exact FzL.nil | exact gr.fz | exact Fz.refl _ | refine FzL.cons ?_ ?_)
  rintro N ⟨k, u⟩ H2 ⟨hk, g2'⟩ hN
  simp only at hk g2' hN
  simp only [go_sem, Int.reduceEq, Int.reduceAdd, Int.reduceSub, Int.reduceMul, Nat.reduceLT, Int.reduceLT, Int.reduceLE, Int.reduceToNat, Nat.reduceAdd, Nat.reduceSub, Nat.reduceMul, Nat.reduceLeDiff, reduceCtorEq, d121_0]
  have hadd := wadd1 (k := k) (by omega)
  have hPl : ∀ j, (P j).length ≤ S.length := fun j => by
    show (List.map _ _).length ≤ _
    rw [List.length_map]
    exact Nat.le_trans (List.length_filter_le _ _) (by rw [List.length_take]; omega)
  by_cases hlt : k < S.length
  · have hP : P (k + 1) = P k ++ if age < IntKind.i64.wrap (now - S[k].heard) then [S[k].node] else [] := by
      show List.map _ (List.filter _ _) = List.map _ (List.filter _ _) ++ _
      rw [List.take_succ_eq_append_getElem hlt, List.filter_append, List.map_append]
      congr 1
      by_cases g : age < IntKind.i64.wrap (now - S[k].heard) <;> simp [g]
    have ra : ∀ h', aloads h' 5 (.rp ((cat encE S).drop (k * 5))) = some (encE S[k]) := fun h' => rd_all (h := h') encE_len hlt
    simp only [go_sem, Int.reduceEq, Int.reduceAdd, Int.reduceSub, Int.reduceMul, Nat.reduceLT, Int.reduceLT, Int.reduceLE, Int.reduceToNat, Nat.reduceAdd, Nat.reduceSub, Nat.reduceMul, Nat.reduceLeDiff, reduceCtorEq, hlt, ra]
    intro p hp
    simp only [go_sem, Int.reduceEq, Int.reduceAdd, Int.reduceSub, Int.reduceMul, Nat.reduceLT, Int.reduceLT, Int.reduceLE, Int.reduceToNat, Nat.reduceAdd, Nat.reduceSub, Nat.reduceMul, Nat.reduceLeDiff, reduceCtorEq, encE, del_none hp]
    by_cases g : age < IntKind.i64.wrap (now - S[k].heard)
    · rw [if_pos g] at hP
      simp only [go_sem, Int.reduceEq, Int.reduceAdd, Int.reduceSub, Int.reduceMul, Nat.reduceLT, Int.reduceLT, Int.reduceLE, Int.reduceToNat, Nat.reduceAdd, Nat.reduceSub, Nat.reduceMul, Nat.reduceLeDiff, reduceCtorEq, g]
      refine g2'.add1 (x := i1 S[k].node) rfl rfl (by have := hPl k; omega) fun v' H3 g3 => ?_
      have e1 : cat i1 (P k) ++ i1 S[k].node = cat i1 (P (k + 1)) := by rw [hP, cat_append]; simp [cat]
      have e2 : (P k).length + 1 = (P (k + 1)).length := by rw [hP]; simp
      rw [e1, e2] at g3
      simp only [go_sem, Int.reduceEq, Int.reduceAdd, Int.reduceSub, Int.reduceMul, Nat.reduceLT, Int.reduceLT, Int.reduceLE, Int.reduceToNat, Nat.reduceAdd, Nat.reduceSub, Nat.reduceMul, Nat.reduceLeDiff, reduceCtorEq, hadd]
      refine hN (k + 1, v') _ _ (by simp only; omega) ?_ ⟨hlt, g3⟩
      simp only [go_sem, Int.reduceEq, Int.reduceAdd, Int.reduceSub, Int.reduceMul, Nat.reduceLT, Int.reduceLT, Int.reduceLE, Int.reduceToNat, Nat.reduceAdd, Nat.reduceSub, Nat.reduceMul, Nat.reduceLeDiff, reduceCtorEq, d121_0]
    · rw [if_neg g, List.append_nil] at hP
      simp only [go_sem, Int.reduceEq, Int.reduceAdd, Int.reduceSub, Int.reduceMul, Nat.reduceLT, Int.reduceLT, Int.reduceLE, Int.reduceToNat, Nat.reduceAdd, Nat.reduceSub, Nat.reduceMul, Nat.reduceLeDiff, reduceCtorEq, g, hadd]
      refine hN (k + 1, u) _ _ (by simp only; omega) ?_ ⟨hlt, by rw [hP]; exact g2'⟩
      simp only [go_sem, Int.reduceEq, Int.reduceAdd, Int.reduceSub, Int.reduceMul, Nat.reduceLT, Int.reduceLT, Int.reduceLE, Int.reduceToNat, Nat.reduceAdd, Nat.reduceSub, Nat.reduceMul, Nat.reduceLeDiff, reduceCtorEq, d121_0]
  · have hkl : k = S.length := by omega
    subst hkl
    have hPe : P S.length = (S.filter fun e => decide (age < IntKind.i64.wrap (now - e.heard))).map (·.node) := by
      show List.map _ (List.filter _ (S.take S.length)) = _
      rw [List.take_length]
    simp only [go_sem, Int.reduceEq, Int.reduceAdd, Int.reduceSub, Int.reduceMul, Nat.reduceLT, Int.reduceLT, Int.reduceLE, Int.reduceToNat, Nat.reduceAdd, Nat.reduceSub, Nat.reduceMul, Nat.reduceLeDiff, reduceCtorEq, hlt]
    refine frz_id ?_
    simp only [go_sem, Int.reduceEq, Int.reduceAdd, Int.reduceSub, Int.reduceMul, Nat.reduceLT, Int.reduceLT, Int.reduceLE, Int.reduceToNat, Nat.reduceAdd, Nat.reduceSub, Nat.reduceMul, Nat.reduceLeDiff, reduceCtorEq]
    refine hQ _ _ _ _ H [.ro (cat i1 (P S.length)) (P S.length).length false] (.inr rfl) rfl g2'.fzH (.cons g2'.fz .nil) ⟨rfl, by rw [← hPe]; rfl⟩

end Go.Proofs.Ytaeppifdbcoipaa
