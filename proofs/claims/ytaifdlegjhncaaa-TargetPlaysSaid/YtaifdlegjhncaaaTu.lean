/-
  Targets: All, in order.
-/
import Derived.Test.YtaifdlegjhncaaaTp
import Derived.Test.YtaifdlegjhncaaaSk
import Derived.Test.YtaifdlegjhncaaaSq
namespace Go.Proofs.Ytaifdlegjhncaaa
open Go E Go.Sort
set_option linter.unusedVariables false
set_option linter.unusedSimpArgs false
set_option linter.unusedSectionVars false
set_option maxRecDepth 100000

def sfl_ren : Go.Shelf.Ren := ⟨fun | 6 => 46 | 15 => 55 | 14 => 57 | 28 => 67 | 29 => 68 | 20 => 69 | 21 => 70 | 22 => 71 | 23 => 72 | 24 => 73 | 25 => 74 | 26 => 75 | 27 => 76 | 46 => 82 | 47 => 78 | 48 => 79 | 49 => 83 | 50 => 84 | 57 => 86 | n => n, fun | 22 => 49 | 24 => 38 | 25 => 75 | 3 => 3 | 39 => 84 | 0 => 0 | 53 => 96 | 55 => 36 | 4 => 4 | 46 => 89 | 45 => 88 | 50 => 93 | 5 => 5 | 9 => 9 | 66 => 103 | 70 => 107 | 76 => 111 | 77 => 112 | n => n, fun | n => n⟩
theorem sfl : Go.Proofs.SlLaysF0.n6 Try.prog sfl_ren := {
  mixed := by kernel_rfl,
  f6 := ⟨Try.f46.name, by decide, Try.func46.trans (congrArg some (by kernel_rfl))⟩,
  f14 := ⟨Try.f57.name, by decide, Try.func57.trans (congrArg some (by kernel_rfl))⟩,
  f15 := Try.func55.trans (congrArg some (by kernel_rfl)),
  f20 := ⟨Try.f69.name, by decide, Try.func69.trans (congrArg some (by kernel_rfl))⟩,
  f21 := ⟨Try.f70.name, by decide, Try.func70.trans (congrArg some (by kernel_rfl))⟩,
  f22 := ⟨Try.f71.name, by decide, Try.func71.trans (congrArg some (by kernel_rfl))⟩,
  f23 := ⟨Try.f72.name, by decide, Try.func72.trans (congrArg some (by kernel_rfl))⟩,
  f24 := ⟨Try.f73.name, by decide, Try.func73.trans (congrArg some (by kernel_rfl))⟩,
  f25 := ⟨Try.f74.name, by decide, Try.func74.trans (congrArg some (by kernel_rfl))⟩,
  f26 := ⟨Try.f75.name, by decide, Try.func75.trans (congrArg some (by kernel_rfl))⟩,
  f27 := ⟨Try.f76.name, by decide, Try.func76.trans (congrArg some (by kernel_rfl))⟩,
  f28 := Try.func67.trans (congrArg some (by kernel_rfl)),
  f29 := Try.func68.trans (congrArg some (by kernel_rfl)),
  f46 := ⟨Try.f82.name, by decide, Try.func82.trans (congrArg some (by kernel_rfl))⟩,
  f47 := Try.func78.trans (congrArg some (by kernel_rfl)),
  f48 := Try.func79.trans (congrArg some (by kernel_rfl)),
  f49 := ⟨Try.f83.name, by decide, Try.func83.trans (congrArg some (by kernel_rfl))⟩,
  f50 := ⟨Try.f84.name, by decide, Try.func84.trans (congrArg some (by kernel_rfl))⟩,
  f57 := ⟨Try.f86.name, by decide, Try.func86.trans (congrArg some (by kernel_rfl))⟩,
  t0 := Try.underlying0,
  a0 := Try.isAgg0,
  z0 := Try.sizeOf0,
  v0 := Try.zeroValue0,
  t3 := Try.underlying3,
  a3 := Try.isAgg3,
  z3 := Try.sizeOf3,
  v3 := Try.zeroValue3,
  t4 := Try.underlying4,
  a4 := Try.isAgg4,
  z4 := Try.sizeOf4,
  v4 := Try.zeroValue4,
  t5 := Try.underlying5,
  a5 := Try.isAgg5,
  z5 := Try.sizeOf5,
  v5 := Try.zeroValue5,
  t9 := Try.underlying9,
  a9 := Try.isAgg9,
  z9 := Try.sizeOf9,
  v9 := Try.zeroValue9,
  t22 := Try.underlying49,
  a22 := Try.isAgg49,
  z22 := Try.sizeOf49,
  v22 := Try.zeroValue49,
  t25 := Try.underlying75,
  a25 := Try.isAgg75,
  z25 := Try.sizeOf75,
  v25 := Try.zeroValue75,
  t39 := Try.underlying84,
  a39 := Try.isAgg84,
  z39 := Try.sizeOf84,
  v39 := Try.zeroValue84,
  t45 := Try.underlying88,
  a45 := Try.isAgg88,
  z45 := Try.sizeOf88,
  v45 := Try.zeroValue88,
  t46 := Try.underlying89,
  a46 := Try.isAgg89,
  z46 := Try.sizeOf89,
  v46 := Try.zeroValue89,
  t50 := Try.underlying93,
  a50 := Try.isAgg93,
  z50 := Try.sizeOf93,
  v50 := Try.zeroValue93,
  t53 := Try.underlying96,
  a53 := Try.isAgg96,
  z53 := Try.sizeOf96,
  v53 := Try.zeroValue96,
  t55 := Try.underlying36,
  a55 := Try.isAgg36,
  z55 := Try.sizeOf36,
  v55 := Try.zeroValue36,
  t66 := Try.underlying103,
  a66 := Try.isAgg103,
  z66 := Try.sizeOf103,
  v66 := Try.zeroValue103,
  t70 := Try.underlying107,
  a70 := Try.isAgg107,
  z70 := Try.sizeOf107,
  v70 := Try.zeroValue107,
  t76 := Try.underlying111,
  a76 := Try.isAgg111,
  z76 := Try.sizeOf111,
  v76 := Try.zeroValue111,
  t77 := Try.underlying112,
  a77 := Try.isAgg112,
  z77 := Try.sizeOf112,
  v77 := Try.zeroValue112 }

def nsl_ren : Go.Shelf.Ren := ⟨fun | 189 => 43 | 125 => 55 | 257 => 54 | 128 => 67 | 129 => 68 | 294 => 58 | 295 => 59 | 296 => 60 | 297 => 61 | 298 => 62 | 299 => 63 | 216 => 64 | 300 => 65 | 301 => 66 | 328 => 77 | 329 => 78 | 330 => 79 | 331 => 80 | 332 => 81 | 215 => 48 | 343 => 85 | n => n, fun | 28 => 45 | 3 => 3 | 46 => 84 | 0 => 0 | 51 => 96 | 53 => 36 | 4 => 4 | 183 => 89 | 182 => 88 | 131 => 93 | 5 => 5 | 9 => 9 | 218 => 103 | 222 => 107 | 228 => 111 | 229 => 112 | n => n, fun | n => n⟩
theorem nsl : Go.Proofs.Lays.n189 Try.prog nsl_ren := {
  mixed := by kernel_rfl,
  f125 := Try.func55.trans (congrArg some (by kernel_rfl)),
  f128 := Try.func67.trans (congrArg some (by kernel_rfl)),
  f129 := Try.func68.trans (congrArg some (by kernel_rfl)),
  f189 := Try.func43.trans (congrArg some (by kernel_rfl)),
  f215 := Try.func48.trans (congrArg some (by kernel_rfl)),
  f216 := Try.func64.trans (congrArg some (by kernel_rfl)),
  f257 := Try.func54.trans (congrArg some (by kernel_rfl)),
  f294 := Try.func58.trans (congrArg some (by kernel_rfl)),
  f295 := Try.func59.trans (congrArg some (by kernel_rfl)),
  f296 := Try.func60.trans (congrArg some (by kernel_rfl)),
  f297 := Try.func61.trans (congrArg some (by kernel_rfl)),
  f298 := Try.func62.trans (congrArg some (by kernel_rfl)),
  f299 := Try.func63.trans (congrArg some (by kernel_rfl)),
  f300 := Try.func65.trans (congrArg some (by kernel_rfl)),
  f301 := Try.func66.trans (congrArg some (by kernel_rfl)),
  f328 := Try.func77.trans (congrArg some (by kernel_rfl)),
  f329 := Try.func78.trans (congrArg some (by kernel_rfl)),
  f330 := Try.func79.trans (congrArg some (by kernel_rfl)),
  f331 := Try.func80.trans (congrArg some (by kernel_rfl)),
  f332 := Try.func81.trans (congrArg some (by kernel_rfl)),
  f343 := Try.func85.trans (congrArg some (by kernel_rfl)),
  t0 := Try.underlying0,
  a0 := Try.isAgg0,
  z0 := Try.sizeOf0,
  v0 := Try.zeroValue0,
  t3 := Try.underlying3,
  a3 := Try.isAgg3,
  z3 := Try.sizeOf3,
  v3 := Try.zeroValue3,
  t4 := Try.underlying4,
  a4 := Try.isAgg4,
  z4 := Try.sizeOf4,
  v4 := Try.zeroValue4,
  t5 := Try.underlying5,
  a5 := Try.isAgg5,
  z5 := Try.sizeOf5,
  v5 := Try.zeroValue5,
  t9 := Try.underlying9,
  a9 := Try.isAgg9,
  z9 := Try.sizeOf9,
  v9 := Try.zeroValue9,
  t28 := Try.underlying45,
  a28 := Try.isAgg45,
  z28 := Try.sizeOf45,
  v28 := Try.zeroValue45,
  t46 := Try.underlying84,
  a46 := Try.isAgg84,
  z46 := Try.sizeOf84,
  v46 := Try.zeroValue84,
  t51 := Try.underlying96,
  a51 := Try.isAgg96,
  z51 := Try.sizeOf96,
  v51 := Try.zeroValue96,
  t53 := Try.underlying36,
  a53 := Try.isAgg36,
  z53 := Try.sizeOf36,
  v53 := Try.zeroValue36,
  t131 := Try.underlying93,
  a131 := Try.isAgg93,
  z131 := Try.sizeOf93,
  v131 := Try.zeroValue93,
  t182 := Try.underlying88,
  a182 := Try.isAgg88,
  z182 := Try.sizeOf88,
  v182 := Try.zeroValue88,
  t183 := Try.underlying89,
  a183 := Try.isAgg89,
  z183 := Try.sizeOf89,
  v183 := Try.zeroValue89,
  t218 := Try.underlying103,
  a218 := Try.isAgg103,
  z218 := Try.sizeOf103,
  v218 := Try.zeroValue103,
  t222 := Try.underlying107,
  a222 := Try.isAgg107,
  z222 := Try.sizeOf107,
  v222 := Try.zeroValue107,
  t228 := Try.underlying111,
  a228 := Try.isAgg111,
  z228 := Try.sizeOf111,
  v228 := Try.zeroValue111,
  t229 := Try.underlying112,
  a229 := Try.isAgg112,
  z229 := Try.sizeOf112,
  v229 := Try.zeroValue112 }


theorem R__vals1 {id c : Nat} {es : Ents} {fs : List Rt} {b00 : AHeap} (hid0 : b00 id = some (.map es c)) (hes : es.map (·.2.1) = fs.map fun x => .agg (Rt.av x)) : SeqOf Try.prog 47 [.rp [.map id]] (fun x => .agg (Rt.av x)) b00 fs := by
  intro l I b0 H st hs0 h0 hround
  have hid := hs0 _ _ hid0
  obtain ⟨ps, rfl, rfl, hps⟩ := ents_zip hes
  generalize hk : (fun p : Ent × Rt => p.1.2.2) = key
  (refine CallsA.enterR (ac := c47) (rs := r47) Try.func47 rfl (by decide) c47_ok r47_ok ?_; intro Q hQ; simp only [go_sem, Int.reduceEq, Int.reduceAdd, Int.reduceSub, Int.reduceMul, Nat.reduceLT, Int.reduceLT, Int.reduceLE, Int.reduceToNat, Nat.reduceAdd, Nat.reduceSub, Nat.reduceMul, Nat.reduceLeDiff, reduceCtorEq, c47, Try.ntmps47])
  refine ⟨_, c, st.keep h0 hid, fun rid hr => ?_⟩
  have hr0 := st.none h0 hr
  have hne : id ≠ rid := by rintro rfl; rw [hid] at hr0; cases hr0
  refine loop_st d47_0 (fun x : Array Nat × List Rt => ps.length - x.2.length) (fun _ s => s) (fun x H => ∃ b, Sub b0 b ∧ b id = some (.map (ps.map (·.1)) c) ∧ b rid = some (.raw (.mapIter (some id) c x.1 c)) ∧ I b x.2 H ∧ ((seenL key x.1 ps).map (·.2)).Perm x.2) (#[], []) rfl
    ⟨upd b0 rid (.raw (.mapIter (some id) c #[] c)), Sub.upd2 (Sub.refl _) hr0, by rw [upd_ne hne]; exact hid, upd_same, st.more h0 hr, by rw [seen_empty]; exact List.Perm.refl _⟩ ?_
  rintro N ⟨seen, pre⟩ H1 ⟨b, hb1, hb2, hb3, hi, hp⟩ hN
  simp only at hb3 hi hp hN
  have hplen : pre.length = (seenL key seen ps).length := by rw [← hp.length_eq, List.length_map]
  simp only [go_sem, Int.reduceEq, Int.reduceAdd, Int.reduceSub, Int.reduceMul, Nat.reduceLT, Int.reduceLT, Int.reduceLE, Int.reduceToNat, Nat.reduceAdd, Nat.reduceSub, Nat.reduceMul, Nat.reduceLeDiff, reduceCtorEq, d47_0, st.keep hi hb3]
  refine ⟨_, c, st.keep hi hb2, rfl, rfl, fun hbo => ⟨fun e he hn => ?_, fun ha => ?_⟩⟩
  · have hnd : (ps.map key).Nodup := by
      subst hk
      have := hbo.1
      rw [List.map_map] at this
      exact this.imp (fun h => Nat.ne_of_lt h)
    obtain ⟨p, hpm, rfl⟩ := List.mem_map.1 he
    have hkp : key p = p.1.2.2 := by subst hk; rfl
    have hv := hps p hpm
    have hi2 := st.turn (o' := .raw (.mapIter (some id) c (seen.push p.1.2.2) c)) hi hb3
    have hpush := seen_push (key := key) hnd hpm (by rw [hkp]; exact hn)
    rw [hkp] at hpush
    have hpl := hpush.length_eq
    rw [List.length_append, List.length_cons, List.length_nil] at hpl
    have hsl := seen_len (key := key) (seen.push p.1.2.2) ps
    refine ⟨id, c, seen.push p.1.2.2, _, c, p.1, rfl, by rw [upd_ne hne]; exact st.keep hi hb2, he, by simp, fun _ q hq => ?_⟩
    have htk : List.take 4 (Rt.av p.2) = Rt.av p.2 := List.take_of_length_le (by rw [Rt.len]; exact Nat.le_refl _)
    simp only [go_sem, Int.reduceEq, Int.reduceAdd, Int.reduceSub, Int.reduceMul, Nat.reduceLT, Int.reduceLT, Int.reduceLE, Int.reduceToNat, Nat.reduceAdd, Nat.reduceSub, Nat.reduceMul, Nat.reduceLeDiff, reduceCtorEq, hv, Rt.len, Rt.sca, del_none hq, Nat.le_refl, htk]
    refine ⟨_, hround _ pre p.2 _ (List.mem_map_of_mem hpm) (by rw [List.length_map]; omega) hi2, fun H' hi3 => ?_⟩
    refine hN (seen.push p.1.2.2, pre ++ [p.2]) _ _ (by simp only [List.length_append, List.length_cons, List.length_nil]; omega) ?_ ⟨_, fun x o e => ?_, by rw [upd_ne hne]; exact hb2, upd_same, hi3, ?_⟩
    · simp only [go_sem, Int.reduceEq, Int.reduceAdd, Int.reduceSub, Int.reduceMul, Nat.reduceLT, Int.reduceLT, Int.reduceLE, Int.reduceToNat, Nat.reduceAdd, Nat.reduceSub, Nat.reduceMul, Nat.reduceLeDiff, reduceCtorEq, d47_0]
    · have : x ≠ rid := by rintro rfl; rw [hr0] at e; cases e
      rw [upd_ne this]; exact hb1 x o e
    · refine (hpush.map (·.2)).trans ?_
      rw [List.map_append]
      exact hp.append (List.Perm.refl _)
  · have hall : seenL key seen ps = ps := seen_all fun p hpm => by subst hk; exact ha _ (List.mem_map_of_mem hpm)
    rw [hall] at hp
    refine frz_id ?_
    refine hQ _ _ _ _ _ _ (.inl rfl) rfl (FzH.refl _) (FzL.refl _ _ _) ⟨b, pre, hb1, hp.symm, hi⟩

theorem R__app {g : FuncId} {caps : List AV} {fs : List Rt} {h : AHeap} (hs : SeqOf Try.prog g caps (fun x => .agg (Rt.av x)) h fs) (hn : fs.length ≤ 1000000) :
    CallsA Try.prog 56 [.nils, .fn g caps] h (fun r H => ∃ pre, pre.Perm fs ∧ Grow h 4 r (cat Rt.av pre) pre.length H ∧ Wr r) := by
  (refine CallsA.enterR (ac := c56) (rs := r56) Try.func56 rfl (by decide) c56_ok r56_ok ?_; intro Q hQ; simp only [go_sem, Int.reduceEq, Int.reduceAdd, Int.reduceSub, Int.reduceMul, Nat.reduceLT, Int.reduceLT, Int.reduceLE, Int.reduceToNat, Nat.reduceAdd, Nat.reduceSub, Nat.reduceMul, Nat.reduceLeDiff, reduceCtorEq, c56, Try.ntmps56])
  intro p hp
  unfold rangeA
  intro l m1 m2 hl hY
  have hpl : p ≠ l := by rintro rfl; rw [upd_same] at hl; cases hl
  have hl0 : h l = none := by rw [upd_ne hpl.symm] at hl; exact hl
  obtain ⟨S, hS⟩ : ∃ S : List AV, S = [.nils, .fn g caps, .ptr p 0, .undef, .nils, .undef, .fn g caps, .undef, .undef, .undef, .undef, .undef, .undef] := ⟨_, rfl⟩
  rw [← hS] at hY ⊢
  let I : AHeap → List Rt → AHeap → Prop := fun b pre H => ∃ v H2, Grow b 4 v (cat Rt.av pre) pre.length H2 ∧ Wr v ∧ H2 p = none ∧ H2 l = none ∧ H = upd (upd H2 p (.cells [v] 1)) l (.lp S m1)
  have hst : Stands I := by
    refine ⟨?_, ?_, ?_⟩
    · rintro b a H x o ⟨v, H2, gr, _, n1, n2, rfl⟩ hx
      have k := gr.keep hx
      rw [upd_ne (by rintro rfl; rw [n2] at k; cases k), upd_ne (by rintro rfl; rw [n1] at k; cases k)]
      exact k
    · rintro b a H x o ⟨v, H2, gr, hw, n1, n2, rfl⟩ hx
      simp only [upd_none] at hx
      obtain ⟨x1, _, x3, _, x5⟩ := hx
      exact ⟨v, upd H2 x o, gr.more x5, hw, by rw [upd_ne (Ne.symm x3)]; exact n1, by rw [upd_ne (Ne.symm x1)]; exact n2, by rw [upd_comm x1.symm, upd_comm x3.symm]⟩
    · rintro b a H x o o' ⟨v, H2, gr, hw, n1, n2, rfl⟩ hx
      have k := gr.keep hx
      have x1 : x ≠ l := by rintro rfl; rw [n2] at k; cases k
      have x3 : x ≠ p := by rintro rfl; rw [n1] at k; cases k
      exact ⟨v, upd H2 x o', gr.poke hx, hw, by rw [upd_ne (Ne.symm x3)]; exact n1, by rw [upd_ne (Ne.symm x1)]; exact n2, by rw [upd_comm x1.symm, upd_comm x3.symm]⟩
  refine ((hs l I h _ hst (Sub.refl h) ⟨.nils, h, Grow.nil, Wr.nils, hp, hl0, rfl⟩ ?_).mono ?_).goB
  · rintro b pre x H hx hlen ⟨v, H2, gr, hw, n1, n2, rfl⟩
    refine hY [.agg (Rt.av x)] _ _ rfl upd_same ?_
    have htk : List.take 4 (Rt.av x) = Rt.av x := List.take_of_length_le (by rw [Rt.len]; exact Nat.le_refl _)
    have nl : ∀ o, upd H2 p o l = none := fun o => by rw [upd_ne hpl.symm]; exact n2
    have gp := (gr.more (o := .cells [v] 1) n1).more (o := .lp S m2) (nl _)
    have np : b p = none := gr.none n1
    have nbl : ∀ o, upd b p o l = none := fun o => by rw [upd_ne hpl.symm]; exact gr.none n2
    have fin : ∀ K : AV → AHeap → Prop, (∀ v' H', H' p = some (.cells [v] 1) → H' l = some (.lp S m2) → cellsOf v' = some [v'] → scalar v' = true → I b (pre ++ [x]) (upd (upd H' p (.cells [v'] 1)) l (.lp S m1)) → K v' H') →
        appendA (upd (upd H2 p (.cells [v] 1)) l (.lp S m2)) 4 32 v (.ro (Rt.av x) 1 true) K := fun K hK => by
      refine gp.add1W (x := Rt.av x) (Rt.len x) (Rt.sca x) (by omega) fun v' H' g' w' => ?_
      have hb := g'.box
      refine hK v' H' (g'.keep (by rw [upd_ne hpl]; exact upd_same)) (g'.keep upd_same) hb.1 hb.2 ?_
      obtain ⟨Ha, ga, a1, a2, a3⟩ := g'.unpoke (nbl _)
      obtain ⟨Hb, gb, b1, b2, b3⟩ := ga.unpoke np
      refine ⟨v', Hb, ?_, w', b1, b2.isNone a1, ?_⟩
      · rw [cat_append, List.length_append]
        simpa [cat] using gb
      · rw [upd_comm hpl, a3, upd_comm hpl.symm, b3]
    rw [hS]
    simp only [go_sem, Int.reduceEq, Int.reduceAdd, Int.reduceSub, Int.reduceMul, Nat.reduceLT, Int.reduceLT, Int.reduceLE, Int.reduceToNat, Nat.reduceAdd, Nat.reduceSub, Nat.reduceMul, Nat.reduceLeDiff, reduceCtorEq, Rt.len, Rt.sca, htk, Nat.le_refl]
    intro q hq
    rw [← hS, del_none (by rw [hS]; exact hq)]
    refine ⟨upd_same, ?_⟩
    simp only [go_sem, Int.reduceEq, Int.reduceAdd, Int.reduceSub, Int.reduceMul, Nat.reduceLT, Int.reduceLT, Int.reduceLE, Int.reduceToNat, Nat.reduceAdd, Nat.reduceSub, Nat.reduceMul, Nat.reduceLeDiff, reduceCtorEq, upd_ne hpl, htk, Rt.len, Nat.le_refl]
    refine fin _ fun v' H' k1 k2 k3 k4 k5 => ?_
    simp only [go_sem, Int.reduceEq, Int.reduceAdd, Int.reduceSub, Int.reduceMul, Nat.reduceLT, Int.reduceLT, Int.reduceLE, Int.reduceToNat, Nat.reduceAdd, Nat.reduceSub, Nat.reduceMul, Nat.reduceLeDiff, reduceCtorEq, k1, k2, k3, k4, upd_ne hpl.symm]
    exact k5
  · rintro r H ⟨b, pre, hsub, hperm, v, H2, gr, hw, n1, n2, rfl⟩
    have nl : ∀ o, upd H2 p o l = none := fun o => by rw [upd_ne hpl.symm]; exact n2
    obtain ⟨H3, g3, s3⟩ := gr.rebase hsub
    refine ⟨upd_same, ?_⟩
    rw [hS]
    simp only [go_sem, Int.reduceEq, Int.reduceAdd, Int.reduceSub, Int.reduceMul, Nat.reduceLT, Int.reduceLT, Int.reduceLE, Int.reduceToNat, Nat.reduceAdd, Nat.reduceSub, Nat.reduceMul, Nat.reduceLeDiff, reduceCtorEq, del_same, del_none (nl _)]
    refine hQ _ _ _ _ _ _ (.inr rfl) rfl (FzH.sub (Sub.trans s3 (Sub.upd (Sub.refl _) n1))) (FzL.refl _ _ _) ⟨pre, hperm, g3, hw⟩

theorem R__coll {g : FuncId} {caps : List AV} {fs : List Rt} {h : AHeap} (hs : SeqOf Try.prog g caps (fun x => .agg (Rt.av x)) h fs) (hn : fs.length ≤ 1000000) :
    CallsA Try.prog 45 [.fn g caps] h (fun r H => ∃ pre, pre.Perm fs ∧ Grow h 4 r (cat Rt.av pre) pre.length H ∧ Wr r) := by
  (refine CallsA.enterR (ac := c45) (rs := r45) Try.func45 rfl (by decide) c45_ok r45_ok ?_; intro Q hQ; simp only [go_sem, Int.reduceEq, Int.reduceAdd, Int.reduceSub, Int.reduceMul, Nat.reduceLT, Int.reduceLT, Int.reduceLE, Int.reduceToNat, Nat.reduceAdd, Nat.reduceSub, Nat.reduceMul, Nat.reduceLeDiff, reduceCtorEq, c45, Try.ntmps45])
  refine (R__app hs hn).use ?_
  rintro r H hr
  simp only [go_sem, Int.reduceEq, Int.reduceAdd, Int.reduceSub, Int.reduceMul, Nat.reduceLT, Int.reduceLT, Int.reduceLE, Int.reduceToNat, Nat.reduceAdd, Nat.reduceSub, Nat.reduceMul, Nat.reduceLeDiff, reduceCtorEq]
  refine hQ _ _ _ _ _ _ (.inr rfl) rfl (FzH.refl _) (FzL.refl _ _ _) hr



instance : Inhabited Rt := ⟨rt0⟩
def encRV (r : Rt) : List Value := [.int .i64 r.node, .int .i64 r.via, .int .i64 r.sq, .int .i64 r.til]
theorem encRV_rel (W0 : World) (x : Rt) (l : List Value) : VRs W0 x.av l ↔ l = encRV x := by
  simp only [Rt.av, VRs, VR, encRV]
  constructor
  · rintro ⟨_, _, rfl, rfl, _, _, rfl, rfl, _, _, rfl, rfl, _, _, rfl, rfl, rfl⟩; rfl
  · rintro rfl; exact ⟨_, _, rfl, rfl, _, _, rfl, rfl, _, _, rfl, rfl, _, _, rfl, rfl, rfl⟩

theorem nodeR_swo : SWO (ltOf nodeR) := by
  have key : ∀ a b : Rt, ltOf nodeR a b = decide (a.node < b.node) := fun a b => by
    unfold ltOf nodeR
    refine decide_eq_decide.2 ?_
    split
    · simp [*]
    · split <;> simp [*]
  refine ⟨fun x => by rw [key]; simp, fun x y z h1 h2 => ?_, fun x y z h1 h2 => ?_⟩
  · rw [key] at *
    have := of_decide_eq_true h1
    have := of_decide_eq_true h2
    exact decide_eq_true (by omega)
  · rw [key] at *
    have := of_decide_eq_false h1
    have := of_decide_eq_false h2
    exact decide_eq_false (by omega)

theorem tall1_spec (a b : Rt) (h : AHeap) : PureA Try.prog 37 [.agg a.av, .agg b.av] h (.int .i64 (nodeR a b)) := by
  (refine PureA.enter (ac := c37) (rs := r37) Try.func37 rfl (by decide) c37_ok r37_ok ?_; intro Q hQ; simp only [go_sem, Int.reduceEq, Int.reduceAdd, Int.reduceSub, Int.reduceMul, Nat.reduceLT, Int.reduceLT, Int.reduceLE, Int.reduceToNat, Nat.reduceAdd, Nat.reduceSub, Nat.reduceMul, Nat.reduceLeDiff, reduceCtorEq, c37, Try.ntmps37, Rt.av])
  refine (cmp_spec _ _ _).use ?_
  simp only [go_sem, Int.reduceEq, Int.reduceAdd, Int.reduceSub, Int.reduceMul, Nat.reduceLT, Int.reduceLT, Int.reduceLE, Int.reduceToNat, Nat.reduceAdd, Nat.reduceSub, Nat.reduceMul, Nat.reduceLeDiff, reduceCtorEq]
  (refine hQ _ _ _ _ _ (by first | exact .inr rfl | exact .inl rfl) rfl (by first | exact FzH.refl _ | exact FzH.sub (by (repeat' (first | exact Sub.refl _ | assumption | (refine Sub.upd ?_ (by first | assumption | (simp only [*]; done) | exact Sub.isNone (by assumption) (by assumption) | exact Sub.isNone (by assumption) (by simp only [*]))))))) (FzL.refl _ _ _) ?_; try (simp only [go_sem, Int.reduceEq, Int.reduceAdd, Int.reduceSub, Int.reduceMul, Nat.reduceLT, Int.reduceLT, Int.reduceLE, Int.reduceToNat, Nat.reduceAdd, Nat.reduceSub, Nat.reduceMul, Nat.reduceLeDiff, reduceCtorEq, nodeR]))

theorem sortR_spec {l : List Rt} {v : AV} {h0 H : AHeap} (gr : Grow h0 4 v (cat Rt.av l) l.length H) (hw : Wr v) (hl : l.length ≤ 1000000) :
    CallsA Try.prog 46 [v, .fn 37 []] H (fun r H' => r = .tup [] ∧ ∃ l' : List Rt, l'.Perm l ∧ l'.Pairwise (fun a b => ¬ b.node < a.node) ∧ Grow h0 4 v (cat Rt.av l') l'.length H') := by
  rcases gr.how with ⟨rfl, e, rfl⟩ | ⟨rfl, _⟩ | ⟨id, cap, junk, tot, rfl, hcap, hT, hid, rfl⟩
  · refine CallsA.mono (sort_none sfl (fn := Try.f46) Try.func46 (by decide) (by decide) 37 _) ?_
    rintro r H' ⟨rfl, rfl⟩
    have : l = [] := List.length_eq_zero_iff.1 e
    subst this
    exact ⟨rfl, [], .refl _, .nil, gr⟩
  · exact absurd rfl (hw _ _ _)
  · have hk : ∀ x, (encRV x).length = 4 := fun _ => rfl
    have h1 : ∀ x, ∀ v ∈ encRV x, v.oneCell' = true := fun x v hv => by
      simp only [encRV, List.mem_cons, List.not_mem_nil, or_false] at hv
      rcases hv with rfl | rfl | rfl | rfl <;> rfl
    refine CallsA.mono (sort_any (enc := Rt.av) (encV := encRV) (k := 4) sfl (fun w => by rfl) (fun w => by rfl) (fn := Try.f46) Try.func46 (by decide) (by decide) hk (by omega) h1 encRV_rel nodeR_swo (g := 37) (enters_of Try.func37 (by decide) rfl) (fun x y => tall1_spec x y emp) upd_same (by omega)) ?_
    rintro r H' ⟨rfl, l', p, s, rfl⟩
    refine ⟨rfl, l', p, s.imp fun {a b} h => ?_, ⟨cat_len Rt.len _, cat_sca Rt.sca _, .inr (.inr ⟨id, cap, junk, tot, by rw [p.length_eq], by rw [p.length_eq]; exact hcap, hT, hid, upd_upd⟩)⟩⟩
    unfold ltOf nodeR at h
    have h2 := of_decide_eq_false h
    intro hlt
    rw [if_pos hlt] at h2
    exact h2 (by decide)

theorem sortedR_spec {g : FuncId} {caps : List AV} {fs : List Rt} {h : AHeap} (hs : SeqOf Try.prog g caps (fun x => .agg x.av) h fs) (hn : fs.length ≤ 1000) :
    CallsA Try.prog 35 [.fn g caps, .fn 37 []] h (fun r H => ∃ l', l'.Perm fs ∧ l'.Pairwise (fun a b => ¬ b.node < a.node) ∧ Grow h 4 r (cat Rt.av l') l'.length H ∧ Wr r) := by
  (refine CallsA.enterR (ac := c35) (rs := r35) Try.func35 rfl (by decide) c35_ok r35_ok ?_; intro Q hQ; simp only [go_sem, Int.reduceEq, Int.reduceAdd, Int.reduceSub, Int.reduceMul, Nat.reduceLT, Int.reduceLT, Int.reduceLE, Int.reduceToNat, Nat.reduceAdd, Nat.reduceSub, Nat.reduceMul, Nat.reduceLeDiff, reduceCtorEq, c35, Try.ntmps35])
  refine (R__coll hs (by omega)).use ?_
  rintro r H ⟨pre, hp, gr, hw⟩
  simp only [go_sem, Int.reduceEq, Int.reduceAdd, Int.reduceSub, Int.reduceMul, Nat.reduceLT, Int.reduceLT, Int.reduceLE, Int.reduceToNat, Nat.reduceAdd, Nat.reduceSub, Nat.reduceMul, Nat.reduceLeDiff, reduceCtorEq]
  refine (sortR_spec gr hw (by rw [hp.length_eq]; omega)).use ?_
  rintro r2 H2 ⟨rfl, l', p, s, gr2⟩
  simp only [go_sem, Int.reduceEq, Int.reduceAdd, Int.reduceSub, Int.reduceMul, Nat.reduceLT, Int.reduceLT, Int.reduceLE, Int.reduceToNat, Nat.reduceAdd, Nat.reduceSub, Nat.reduceMul, Nat.reduceLeDiff, reduceCtorEq]
  refine hQ _ _ _ _ _ _ (.inr rfl) rfl (FzH.refl _) (FzL.refl _ _ _) ⟨l', p.trans hp, s, gr2, hw⟩

theorem MapIs_valR {es : Ents} {f : Tr} (h : MapIs kI (fun r : Rt => .agg r.av) es f) : es.map (·.2.1) = (valR f).map fun x => .agg x.av := by
  have := congrArg (List.map Prod.snd) h
  simp only [List.map_map] at this
  unfold valR
  rw [List.map_map]
  exact this

theorem valsR_spec (id : Nat) (h : AHeap) : PureA Try.prog 36 [.map id] h (.fn 47 [.rp [.map id]]) := by
  (refine PureA.enter (ac := c36) (rs := r36) Try.func36 rfl (by decide) c36_ok r36_ok ?_; intro Q hQ; simp only [go_sem, Int.reduceEq, Int.reduceAdd, Int.reduceSub, Int.reduceMul, Nat.reduceLT, Int.reduceLT, Int.reduceLE, Int.reduceToNat, Nat.reduceAdd, Nat.reduceSub, Nat.reduceMul, Nat.reduceLeDiff, reduceCtorEq, c36, Try.ntmps36])
  (refine hQ _ _ _ _ _ (by first | exact .inr rfl | exact .inl rfl) rfl (by first | exact FzH.refl _ | exact FzH.sub (by (repeat' (first | exact Sub.refl _ | assumption | (refine Sub.upd ?_ (by first | assumption | (simp only [*]; done) | exact Sub.isNone (by assumption) (by assumption) | exact Sub.isNone (by assumption) (by simp only [*]))))))) (FzL.refl _ _ _) ?_; try (simp only [go_sem, Int.reduceEq, Int.reduceAdd, Int.reduceSub, Int.reduceMul, Nat.reduceLT, Int.reduceLT, Int.reduceLE, Int.reduceToNat, Nat.reduceAdd, Nat.reduceSub, Nat.reduceMul, Nat.reduceLeDiff, reduceCtorEq]))

theorem allR_uniq {f : Tr} (ok : trOk f) {l : List Rt} (p : l.Perm (valR f)) (s : l.Pairwise (fun a b => ¬ b.node < a.node)) : l = allR f := by
  refine allR_of ok p ?_
  have hnd : (l.map (·.node)).Nodup := by
    have h2 : (l.map (·.node)).Perm ((valR f).map (·.node)) := p.map _
    rw [h2.nodup_iff]
    have : (valR f).map (·.node) = f.map (·.1) := by
      unfold valR; rw [List.map_map]; exact List.map_congr_left fun p hp => (ok.2 p hp).symm
    rw [this]; exact ok.1
  have h3 : l.Pairwise (fun a b => a.node ≠ b.node) := List.Pairwise.of_map (·.node) (fun a b h => h) hnd
  exact (s.and h3).imp fun {a b} h => by have := h.1; have := h.2; omega

theorem tall_spec {h H : AHeap} {p id : Nat} {most : Int} {f : Tr} (t : TB h p id most f H) (ok : trOk f) (hn : f.length ≤ 100) :
    CallsA Try.prog 18 [.ptr p 0] H (fun r H' => Grow H 4 r (cat Rt.av (allR f)) (allR f).length H' ∧ Wr r) := by
  obtain ⟨es, c, hm, h1, h2⟩ := t.own
  (refine CallsA.enterR (ac := c18) (rs := r18) Try.func18 rfl (by decide) c18_ok r18_ok ?_; intro Q hQ; simp only [go_sem, Int.reduceEq, Int.reduceAdd, Int.reduceSub, Int.reduceMul, Nat.reduceLT, Int.reduceLT, Int.reduceLE, Int.reduceToNat, Nat.reduceAdd, Nat.reduceSub, Nat.reduceMul, Nat.reduceLeDiff, reduceCtorEq, c18, Try.ntmps18, h1])
  refine (valsR_spec id _).use ?_
  simp only [go_sem, Int.reduceEq, Int.reduceAdd, Int.reduceSub, Int.reduceMul, Nat.reduceLT, Int.reduceLT, Int.reduceLE, Int.reduceToNat, Nat.reduceAdd, Nat.reduceSub, Nat.reduceMul, Nat.reduceLeDiff, reduceCtorEq]
  refine (sortedR_spec (R__vals1 h2 (MapIs_valR hm)) (by simp [valR]; omega)).use ?_
  rintro r H' ⟨l', hp, hs, gr, hw⟩
  rw [allR_uniq ok hp hs] at gr
  simp only [go_sem, Int.reduceEq, Int.reduceAdd, Int.reduceSub, Int.reduceMul, Nat.reduceLT, Int.reduceLT, Int.reduceLE, Int.reduceToNat, Nat.reduceAdd, Nat.reduceSub, Nat.reduceMul, Nat.reduceLeDiff, reduceCtorEq]
  refine hQ _ _ _ _ _ _ (.inr rfl) rfl (FzH.refl _) (FzL.refl _ _ _) ⟨gr, hw⟩

end Go.Proofs.Ytaifdlegjhncaaa
