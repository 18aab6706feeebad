/-
  rivuletref03.Groups, hex, Text.
-/
import Derived.Test.YtdlghfekgecjjaaDoorAp
import Derived.Test.YtdlghfekgecjjaaDoorC2
import Derived.Test.YtdlghfekgecjjaaDoorC3
namespace Go.Proofs.YtdlghfekgecjjaaDoor
open Go E
set_option linter.unusedVariables false
set_option linter.unusedSimpArgs false
set_option maxRecDepth 100000

/-- The groups when so many bytes have been read. -/
def part (a : List Int) (i : Nat) : List Int := (List.range 8).map fun j => if 2 * j + 1 < i then a.getD (2 * j) 0 * 256 + a.getD (2 * j + 1) 0 else if 2 * j < i then a.getD (2 * j) 0 else 0
theorem part_len (a : List Int) (i : Nat) : (part a i).length = 8 := by simp [part]
theorem part_all (a : List Int) : part a 16 = grps a := by
  unfold part grps
  refine List.map_congr_left fun j hj => ?_
  have := List.mem_range.1 hj
  rw [if_pos (by omega)]
theorem part_get (a : List Int) (i k : Nat) (hk : k < 8) {h : k < (part a i).length} : (part a i)[k] = if 2 * k + 1 < i then a.getD (2 * k) 0 * 256 + a.getD (2 * k + 1) 0 else if 2 * k < i then a.getD (2 * k) 0 else 0 := by
  simp [part]
theorem part_now (a : List Int) (ha : isA a) (i : Nat) (hi : i < 16) {h : i / 2 < (part a i).length} : 0 ≤ (part a i)[i / 2] ∧ (part a i)[i / 2] ≤ 255 := by
  have hb : ∀ k, 0 ≤ a.getD k 0 ∧ a.getD k 0 ≤ 255 := fun k => by
    rw [List.getD_eq_getElem?_getD]
    by_cases hk : k < a.length
    · rw [List.getElem?_eq_getElem hk]; exact ha.2 _ (List.getElem_mem hk)
    · rw [List.getElem?_eq_none (by omega)]; simp
  rw [part_get a i _ (by omega), if_neg (by omega)]
  split
  · exact hb _
  · omega
theorem part_next (a : List Int) (i : Nat) (hi : i < 16) {h : i / 2 < (part a i).length} : (part a i).set (i / 2) (256 * (part a i)[i / 2] + a.getD i 0) = part a (i + 1) := by
  refine List.ext_getElem (by rw [List.length_set, part_len, part_len]) fun k h1 h2 => ?_
  have hk : k < 8 := by rw [part_len] at h2; exact h2
  rw [List.getElem_set, part_get a (i + 1) k hk]
  by_cases e : i / 2 = k
  · subst e
    rw [if_pos rfl, part_get a i _ hk, if_neg (by omega)]
    by_cases ho : i % 2 = 1
    · have e1 : 2 * (i / 2) + 1 = i := by omega
      rw [if_pos (by omega), if_pos (by omega), e1]
      omega
    · have e1 : 2 * (i / 2) = i := by omega
      rw [if_neg (by omega), if_neg (by omega), if_pos (by omega), e1]
      omega
  · rw [if_neg e, part_get a i k hk]
    by_cases c1 : 2 * k + 1 < i
    · rw [if_pos c1, if_pos (by omega)]
    · have c2 : ¬ 2 * k < i := by omega
      simp only [c1, c2, show ¬ (2 * k + 1 < i + 1) by omega, show ¬ (2 * k < i + 1) by omega, if_false]
theorem set_i1 {l : List Int} {k : Nat} {v : Int} (h : k < l.length) : splice (cat i1 l) k [.int .i64 v] = cat i1 (l.set k v) := by
  have h1 : (cat i1 l).take k = cat i1 (l.take k) := by have := cat_take i1_len l k; simpa using this
  have h2 : (cat i1 l).drop (k + 1) = cat i1 (l.drop (k + 1)) := by have := cat_drop i1_len l (k + 1); simpa using this
  unfold splice
  rw [List.length_singleton, h1, h2, List.set_eq_take_append_cons_drop, if_pos h, cat_append, cat_cons, List.append_assoc]
  rfl

set_option maxHeartbeats 4000000 in
theorem rgroups_spec (a : List Int) (ha : isA a) (h : AHeap) : PureA Tryd.prog 12 [.agg (cat b1 a)] h (.agg (cat i1 (grps a))) := by
  have r1 : ∀ x, binA .quo (.int .i64 x) (.int .i64 2) = some (.int .i64 (IntKind.i64.wrap (x.tdiv 2))) := fun x => rfl
  (refine PureA.enter (ac := c12) (rs := r12) Tryd.func12 rfl (by decide) c12_ok r12_ok ?_; intro Q hQ; simp only [go_sem, Int.reduceEq, Int.reduceAdd, Int.reduceSub, Int.reduceMul, Nat.reduceLT, Int.reduceLT, Int.reduceLE, Int.reduceToNat, Nat.reduceAdd, Nat.reduceSub, Nat.reduceMul, Nat.reduceLeDiff, reduceCtorEq, c12, Tryd.ntmps12])
  intro p hp q hq
  obtain ⟨hpq, hq2⟩ := two_ne hq
  have hqp : q ≠ p := fun e => hpq e.symm
  refine loop_range d12_0 16 (fun i s => s.set 4 (.int .i64 (i : Int))) (fun i H => H = upd (upd h p (.cells [.int .i64 0, .int .i64 0, .int .i64 0, .int .i64 0, .int .i64 0, .int .i64 0, .int .i64 0, .int .i64 0] 8)) q (.cells (cat i1 (part a i)) 8)) ?_ ?_ ?_
  · (simp only [go_sem, Int.reduceEq, Int.reduceAdd, Int.reduceSub, Int.reduceMul, Nat.reduceLT, Int.reduceLT, Int.reduceLE, Int.reduceToNat, Nat.reduceAdd, Nat.reduceSub, Nat.reduceMul, Nat.reduceLeDiff, reduceCtorEq, d12_0] <;> rfl)
  · rfl
  rintro N i H hi rfl hN
  have hadd := wadd1 (k := i) (by omega)
  by_cases hlt : i < 16
  · have c1 : decide ((i : Int) < 16) = true := decide_eq_true (by omega)
    have b1' : (0 : Int) ≤ (i : Int) ∧ (i : Int) < 16 := by omega
    have e2 : IntKind.i64.wrap ((i : Int).tdiv 2) = ((i / 2 : Nat) : Int) := by rw [Int.tdiv_eq_ediv_of_nonneg (by omega), w64 (by omega) (by omega)]; omega
    have b2' : (0 : Int) ≤ ((i / 2 : Nat) : Int) ∧ ((i / 2 : Nat) : Int) < 8 := by omega
    have hal : i < a.length := by rw [ha.1]; exact hlt
    have hpl : i / 2 < (part a i).length := by rw [part_len]; omega
    have ga : a.getD i 0 = a[i] := by simp [hal]
    have hb := ha.2 _ (List.getElem_mem hal)
    have hn := part_now a ha i hlt (h := hpl)
    have hnx := part_next a i hlt (h := hpl)
    have hcl : (cat i1 (part a i)).length = 8 := by rw [cat_len i1_len, part_len]
    have hcg : (cat i1 (part a i))[i / 2]? = some (.int .i64 (part a i)[i / 2]) := by
      have := cat_get0 i1_len (by omega) hpl
      simpa [i1] using this
    rw [ga] at hnx
    have k9 : i / 2 + 1 ≤ 8 := by omega
    obtain ⟨v, hv⟩ : ∃ v, (part a i)[i / 2]'hpl = v := ⟨_, rfl⟩
    rw [hv] at hn hnx hcg
    have hset := (set_i1 (v := 256 * v + a[i]) hpl).trans (congrArg (cat i1) hnx)
    unfold splice at hset
    simp only [List.length_cons, List.length_nil, Nat.zero_add] at hset
    have w1 : IntKind.i64.wrap (256 * v) = 256 * v := w64 (by omega) (by omega)
    have w2 : IntKind.i64.wrap (256 * v + a[i]) = 256 * v + a[i] := w64 (by omega) (by omega)
    have w3 : IntKind.i64.wrap a[i] = a[i] := w64 (by omega) (by omega)
    have rd := rdB (h := upd (upd h p (.cells [.int .i64 0, .int .i64 0, .int .i64 0, .int .i64 0, .int .i64 0, .int .i64 0, .int .i64 0, .int .i64 0] 8)) q (.cells (cat i1 (part a i)) 8)) hal
    simp only [go_sem, Int.reduceEq, Int.reduceAdd, Int.reduceSub, Int.reduceMul, Nat.reduceLT, Int.reduceLT, Int.reduceLE, Int.reduceToNat, Nat.reduceAdd, Nat.reduceSub, Nat.reduceMul, Nat.reduceLeDiff, reduceCtorEq, d12_0, c1, b1', r1, e2, b2', hadd, rd, hcg, hcl, k9, w1, w2, w3, Nat.mul_one, Int.toNat_natCast, if_true, hset, upd_twice, true_and]
    refine hN _ _ hlt ?_ rfl
    simp only [go_sem, Int.reduceEq, Int.reduceAdd, Int.reduceSub, Int.reduceMul, Nat.reduceLT, Int.reduceLT, Int.reduceLE, Int.reduceToNat, Nat.reduceAdd, Nat.reduceSub, Nat.reduceMul, Nat.reduceLeDiff, reduceCtorEq, d12_0]
  · have c1 : decide ((i : Int) < 16) = false := decide_eq_false (by omega)
    obtain rfl : i = 16 := by omega
    rw [part_all]
    have hcl : (cat i1 (grps a)).length = 8 := by rw [cat_len i1_len, grps_len]
    have hct : (cat i1 (grps a)).take 8 = cat i1 (grps a) := List.take_of_length_le (by omega)
    have hsc := cat_sca i1_sca (grps a)
    simp only [go_sem, Int.reduceEq, Int.reduceAdd, Int.reduceSub, Int.reduceMul, Nat.reduceLT, Int.reduceLT, Int.reduceLE, Int.reduceToNat, Nat.reduceAdd, Nat.reduceSub, Nat.reduceMul, Nat.reduceLeDiff, reduceCtorEq, d12_0, c1]
    refine frz_id ?_
    simp only [go_sem, Int.reduceEq, Int.reduceAdd, Int.reduceSub, Int.reduceMul, Nat.reduceLT, Int.reduceLT, Int.reduceLE, Int.reduceToNat, Nat.reduceAdd, Nat.reduceSub, Nat.reduceMul, Nat.reduceLeDiff, reduceCtorEq, upd_ne hpq, hcl, hct, hsc, Nat.le_refl, if_true]
    refine hQ _ _ _ _ _ (by first | exact .inr rfl | exact .inl rfl) (by first | rfl | (simp only [go_sem, Int.reduceEq, Int.reduceAdd, Int.reduceSub, Int.reduceMul, Nat.reduceLT, Int.reduceLT, Int.reduceLE, Int.reduceToNat, Nat.reduceAdd, Nat.reduceSub, Nat.reduceMul, Nat.reduceLeDiff, reduceCtorEq, r12, upd_ne hpq, hcl, hct, Nat.le_refl, if_true]; rfl) | simp only [go_sem, Int.reduceEq, Int.reduceAdd, Int.reduceSub, Int.reduceMul, Nat.reduceLT, Int.reduceLT, Int.reduceLE, Int.reduceToNat, Nat.reduceAdd, Nat.reduceSub, Nat.reduceMul, Nat.reduceLeDiff, reduceCtorEq, r12, upd_ne hpq, hcl, hct, Nat.le_refl, if_true]) (FzH.sub (Sub.del0 hp (by (repeat' (first | exact Sub.refl _ | assumption | (refine Sub.upd ?_ (by first | assumption | (simp only [*]; done) | exact Sub.isNone (by assumption) (by assumption) | exact Sub.isNone (by assumption) (by simp only [*])))))))) (FzL.refl _ _ _) ?_
    simp only [go_sem, Int.reduceEq, Int.reduceAdd, Int.reduceSub, Int.reduceMul, Nat.reduceLT, Int.reduceLT, Int.reduceLE, Int.reduceToNat, Nat.reduceAdd, Nat.reduceSub, Nat.reduceMul, Nat.reduceLeDiff, reduceCtorEq, hct]

/-! ### A number's digits -/

def sgnB : ByteArray := ByteArray.mk (Array.mk [48, 49, 50, 51, 52, 53, 54, 55, 56, 57, 97, 98, 99, 100, 101, 102])
theorem sgn_nat : ∀ d : Nat, d < 16 → sgnB.extract d (d + 1) = strOfNums [hexd (d : Int)] := by decide +kernel
theorem sgn_at (d : Int) (h0 : 0 ≤ d) (h1 : d < 16) : strA sgnB (some (.int .i64 d)) (some (.int .i64 (d + 1))) = some (.str (strOfNums [hexd d])) := by
  obtain ⟨m, rfl⟩ := Int.eq_ofNat_of_zero_le h0
  have e1 : sgnB.size = 16 := rfl
  have e2 : (0 : Int) ≤ (m : Int) + 1 ∧ (m : Int) + 1 ≤ ((16 : Nat) : Int) := by omega
  have e3 : ((m : Int) + 1).toNat = m + 1 := by omega
  have e4 : (0 : Int) ≤ (m : Int) ∧ (m : Int) ≤ ((m + 1 : Nat) : Int) := by omega
  simp only [strA, bnd, e1, if_pos e2, e3, if_pos e4, Int.toNat_natCast, sgn_nat m (by omega)]

theorem hexL_step {n : Int} (h0 : 16 ≤ n) (h1 : n < 65536) : hexL n = hexL (n / 16) ++ [hexd (n % 16)] := by
  unfold hexL
  rw [if_neg (show ¬ n < 16 by omega)]
  by_cases g2 : n < 256
  · rw [if_pos g2, if_pos (show n / 16 < 16 by omega)]; rfl
  · rw [if_neg g2, if_neg (show ¬ n / 16 < 16 by omega)]
    by_cases g3 : n < 4096
    · rw [if_pos g3, if_pos (show n / 16 < 256 by omega), show n / 256 = n / 16 / 16 by omega]; rfl
    · rw [if_neg g3, if_neg (show ¬ n / 16 < 256 by omega), if_pos (show n / 16 < 4096 by omega), show n / 256 = n / 16 / 16 by omega, show n / 4096 = n / 16 / 256 by omega]; rfl

theorem hex_step (n : Int) (h0 : 0 ≤ n) (h1 : n < 65536) (hrec : 16 ≤ n → ∀ h, PureA Tryd.prog 33 [.int .i64 (n / 16)] h (.str (hexS (n / 16)))) (h : AHeap) : PureA Tryd.prog 33 [.int .i64 n] h (.str (hexS n)) := by
  have r1 : binA .rem (.int .i64 n) (.int .i64 16) = some (.int .i64 (n % 16)) := by
    show some (AV.int .i64 (n.tmod 16)) = _
    rw [Int.tmod_eq_emod_of_nonneg h0]
  have r2 : IntKind.i64.wrap (n % 16 + 1) = n % 16 + 1 := w64 (by omega) (by omega)
  have r3 : binA .quo (.int .i64 n) (.int .i64 16) = some (.int .i64 (n / 16)) := by
    show some (AV.int .i64 (IntKind.i64.wrap (n.tdiv 16))) = _
    rw [Int.tdiv_eq_ediv_of_nonneg h0, w64 (by omega) (by omega)]
  have sg := sgn_at (n % 16) (by omega) (by omega)
  unfold sgnB at sg
  by_cases hlt : n < 16
  · have c1 : decide (n < 16) = true := decide_eq_true hlt
    (refine PureA.enter (ac := c33) (rs := r33) Tryd.func33 rfl (by decide) c33_ok r33_ok ?_; intro Q hQ; simp only [go_sem, Int.reduceEq, Int.reduceAdd, Int.reduceSub, Int.reduceMul, Nat.reduceLT, Int.reduceLT, Int.reduceLE, Int.reduceToNat, Nat.reduceAdd, Nat.reduceSub, Nat.reduceMul, Nat.reduceLeDiff, reduceCtorEq, c33, Tryd.ntmps33, r1, r2, sg, c1])
    (refine hQ _ _ _ _ _ (by first | exact .inr rfl | exact .inl rfl) rfl (by first | exact FzH.refl _ | exact FzH.sub (by (repeat' (first | exact Sub.refl _ | assumption | (refine Sub.upd ?_ (by first | assumption | (simp only [*]; done) | exact Sub.isNone (by assumption) (by assumption) | exact Sub.isNone (by assumption) (by simp only [*]))))))) (FzL.refl _ _ _) ?_; try (simp only [go_sem, Int.reduceEq, Int.reduceAdd, Int.reduceSub, Int.reduceMul, Nat.reduceLT, Int.reduceLT, Int.reduceLE, Int.reduceToNat, Nat.reduceAdd, Nat.reduceSub, Nat.reduceMul, Nat.reduceLeDiff, reduceCtorEq]))
    unfold hexS hexL
    rw [if_pos hlt, show n % 16 = n by omega]
  · have c1 : decide (n < 16) = false := decide_eq_false hlt
    have hl := hexL_len (n / 16)
    have mx := mx'
    have q1 := binA_cat (x := hexS (n / 16)) (y := strOfNums [hexd (n % 16)]) (by rw [hexS, strOfNums_size, strOfNums_size, mx]; simp only [List.length_cons, List.length_nil]; omega)
    (refine PureA.enter (ac := c33) (rs := r33) Tryd.func33 rfl (by decide) c33_ok r33_ok ?_; intro Q hQ; simp only [go_sem, Int.reduceEq, Int.reduceAdd, Int.reduceSub, Int.reduceMul, Nat.reduceLT, Int.reduceLT, Int.reduceLE, Int.reduceToNat, Nat.reduceAdd, Nat.reduceSub, Nat.reduceMul, Nat.reduceLeDiff, reduceCtorEq, c33, Tryd.ntmps33, r1, r2, sg, c1, r3])
    refine (hrec (by omega) _).use ?_
    simp only [go_sem, Int.reduceEq, Int.reduceAdd, Int.reduceSub, Int.reduceMul, Nat.reduceLT, Int.reduceLT, Int.reduceLE, Int.reduceToNat, Nat.reduceAdd, Nat.reduceSub, Nat.reduceMul, Nat.reduceLeDiff, reduceCtorEq, q1]
    (refine hQ _ _ _ _ _ (by first | exact .inr rfl | exact .inl rfl) rfl (by first | exact FzH.refl _ | exact FzH.sub (by (repeat' (first | exact Sub.refl _ | assumption | (refine Sub.upd ?_ (by first | assumption | (simp only [*]; done) | exact Sub.isNone (by assumption) (by assumption) | exact Sub.isNone (by assumption) (by simp only [*]))))))) (FzL.refl _ _ _) ?_; try (simp only [go_sem, Int.reduceEq, Int.reduceAdd, Int.reduceSub, Int.reduceMul, Nat.reduceLT, Int.reduceLT, Int.reduceLE, Int.reduceToNat, Nat.reduceAdd, Nat.reduceSub, Nat.reduceMul, Nat.reduceLeDiff, reduceCtorEq]))
    unfold hexS
    rw [nums_app, ← hexL_step (by omega) h1]

theorem hex1 (n : Int) (h0 : 0 ≤ n) (h1 : n < 16) : ∀ h, PureA Tryd.prog 33 [.int .i64 n] h (.str (hexS n)) := hex_step n h0 (by omega) fun e => by omega
theorem hex2 (n : Int) (h0 : 0 ≤ n) (h1 : n < 256) : ∀ h, PureA Tryd.prog 33 [.int .i64 n] h (.str (hexS n)) := hex_step n h0 (by omega) fun e => hex1 _ (by omega) (by omega)
theorem hex3 (n : Int) (h0 : 0 ≤ n) (h1 : n < 4096) : ∀ h, PureA Tryd.prog 33 [.int .i64 n] h (.str (hexS n)) := hex_step n h0 (by omega) fun e => hex2 _ (by omega) (by omega)
theorem hex_spec (n : Int) (h0 : 0 ≤ n) (h1 : n < 65536) : ∀ h, PureA Tryd.prog 33 [.int .i64 n] h (.str (hexS n)) := hex_step n h0 h1 fun e => hex3 _ (by omega) (by omega)

end Go.Proofs.YtdlghfekgecjjaaDoor
