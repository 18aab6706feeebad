/-
  rivuletref03.Text.
-/
import Derived.Test.YtdlghfekgecjjaaDoorAq
namespace Go.Proofs.YtdlghfekgecjjaaDoor
open Go E
set_option linter.unusedVariables false
set_option linter.unusedSimpArgs false
set_option maxRecDepth 100000

/-- The longest run of zeros, as the document looks for it. -/
def rrF (g : List Int) : Nat → Int × Int
  | 0 => (0, 1)
  | i + 1 => if (rrF g i).2 < (zr (g.drop i) : Int) then ((i : Int), (zr (g.drop i) : Int)) else rrF g i
def inR (a z : Int) (i : Nat) : Bool := decide (1 < z) && decide (a ≤ (i : Int)) && decide ((i : Int) < a + z)
def lastI (l : List Int) : Int := l.getLast?.getD 0
/-- The text of the first so many groups. -/
def rtF (g : List Int) (a z : Int) : Nat → List Int
  | 0 => []
  | i + 1 => if inR a z i then (if (i : Int) = a then rtF g a z i ++ [58, 58] else rtF g a z i)
    else (if rtF g a z i ≠ [] ∧ lastI (rtF g a z i) ≠ 58 then rtF g a z i ++ [58] else rtF g a z i) ++ hexL (g.getD i 0)
def rtextG (g : List Int) : List Int := rtF g (rrF g 8).1 (rrF g 8).2 8

theorem rtF_out {g : List Int} {a z : Int} {i : Nat} (h : inR a z i = false) : rtF g a z (i + 1) = (if rtF g a z i ≠ [] ∧ lastI (rtF g a z i) ≠ 58 then rtF g a z i ++ [58] else rtF g a z i) ++ hexL (g.getD i 0) := by
  rw [rtF, h]; rfl
theorem rtF_in {g : List Int} {a z : Int} {i : Nat} (h : inR a z i = true) : rtF g a z (i + 1) = (if (i : Int) = a then rtF g a z i ++ [58, 58] else rtF g a z i) := by
  rw [rtF, h]; rfl

theorem rrF_bound (g : List Int) (h8 : g.length = 8) : ∀ i, 0 ≤ (rrF g i).1 ∧ (rrF g i).1 ≤ i ∧ 1 ≤ (rrF g i).2 ∧ (rrF g i).2 ≤ 8
  | 0 => by simp [rrF]
  | i + 1 => by
    have ih := rrF_bound g h8 i
    have hz := zr_le (g.drop i)
    rw [List.length_drop] at hz
    unfold rrF
    split
    · simp only; omega
    · omega

theorem hexd_byte {d : Int} (h0 : 0 ≤ d) (h1 : d < 16) : 48 ≤ hexd d ∧ hexd d ≤ 102 ∧ hexd d ≠ 58 := by
  unfold hexd; split <;> omega
theorem hexL_byte {n : Int} (h0 : 0 ≤ n) (h1 : n ≤ 65535) : ∀ x ∈ hexL n, 48 ≤ x ∧ x ≤ 102 ∧ x ≠ 58 := by
  unfold hexL
  intro x hx
  split at hx
  · simp only [List.mem_cons, List.mem_nil_iff, or_false] at hx; subst hx; exact hexd_byte h0 (by omega)
  · split at hx
    · simp only [List.mem_cons, List.mem_nil_iff, or_false] at hx
      rcases hx with rfl | rfl <;> exact hexd_byte (by omega) (by omega)
    · split at hx
      · simp only [List.mem_cons, List.mem_nil_iff, or_false] at hx
        rcases hx with rfl | rfl | rfl <;> exact hexd_byte (by omega) (by omega)
      · simp only [List.mem_cons, List.mem_nil_iff, or_false] at hx
        rcases hx with rfl | rfl | rfl | rfl <;> exact hexd_byte (by omega) (by omega)

theorem grpD_byte {g : List Int} (hg : gOk g) (i : Nat) : 0 ≤ g.getD i 0 ∧ g.getD i 0 ≤ 65535 := by
  rw [List.getD_eq_getElem?_getD]
  by_cases hk : i < g.length
  · rw [List.getElem?_eq_getElem hk]; exact hg _ (List.getElem_mem hk)
  · rw [List.getElem?_eq_none (by omega)]; simp

theorem rtF_byte {g : List Int} (hg : gOk g) (a z : Int) : ∀ i, (∀ x ∈ rtF g a z i, 0 ≤ x ∧ x ≤ 255) ∧ (rtF g a z i).length ≤ 6 * i
  | 0 => ⟨fun x hx => by simp [rtF] at hx, by simp [rtF]⟩
  | i + 1 => by
    obtain ⟨h1, h2⟩ := rtF_byte hg a z i
    have hb := grpD_byte hg i
    have hx := hexL_byte hb.1 hb.2
    have hl := hexL_len (g.getD i 0)
    cases e : inR a z i
    · rw [rtF_out e]
      split
      · refine ⟨fun x hx' => ?_, by simp only [List.length_append, List.length_cons, List.length_nil]; omega⟩
        simp only [List.mem_append, List.mem_cons, List.mem_nil_iff, or_false] at hx'
        rcases hx' with (hx' | rfl) | hx'
        · exact h1 x hx'
        · omega
        · have := hx x hx'; omega
      · refine ⟨fun x hx' => ?_, by simp only [List.length_append]; omega⟩
        rcases List.mem_append.1 hx' with hx' | hx'
        · exact h1 x hx'
        · have := hx x hx'; omega
    · rw [rtF_in e]
      split
      · refine ⟨fun x hx' => ?_, by simp only [List.length_append, List.length_cons, List.length_nil]; omega⟩
        simp only [List.mem_append, List.mem_cons, List.mem_nil_iff, or_false] at hx'
        rcases hx' with hx' | rfl | rfl
        · exact h1 x hx'
        · omega
        · omega
      · exact ⟨h1, by omega⟩

theorem last_at (s : List Int) (hs : s ≠ []) (hb : ∀ x ∈ s, 0 ≤ x ∧ x ≤ 255) : ∃ c : UInt8, (strOfNums s)[s.length - 1]? = some c ∧ (c.toNat : Int) = lastI s := by
  have hl : s.length - 1 < s.length := by have := List.length_pos_iff.2 hs; omega
  have hx := hb _ (List.getElem_mem hl)
  have hd : s.length - 1 < (strOfNums s).data.size := by
    rw [show (strOfNums s).data.size = (strOfNums s).size from rfl, strOfNums_size]; exact hl
  refine ⟨UInt8.ofNat (s[s.length - 1]).toNat, ?_, ?_⟩
  · rw [getElem?_pos (strOfNums s) (s.length - 1) (by show _ < (strOfNums s).size; rw [strOfNums_size]; exact hl)]
    congr 1
    show (strOfNums s).data[s.length - 1] = _
    simp [strOfNums]
  · have e : lastI s = s[s.length - 1] := by
      unfold lastI
      rw [List.getLast?_eq_getElem?, List.getElem?_eq_getElem hl]; rfl
    rw [e]
    simp
    omega

theorem zr_zero : ∀ (l : List Int) (n : Nat) (h : n < l.length), n < zr l → l[n] = 0
  | x :: l, 0, h, hz => by
    unfold zr at hz
    split at hz
    · assumption
    · omega
  | x :: l, n + 1, h, hz => by
    unfold zr at hz
    split at hz
    · exact zr_zero l n (by simpa using h) (by omega)
    · omega
theorem zr_end : ∀ (l : List Int) (h : zr l < l.length), l[zr l] ≠ 0
  | x :: l, h => by
    by_cases hx : x = 0
    · have e : zr (x :: l) = zr l + 1 := by simp [zr, hx]
      have := zr_end l (by rw [e] at h; simpa using h)
      simp only [e]
      simpa using this
    · have e : zr (x :: l) = 0 := by simp [zr, hx]
      simp only [e]
      simpa using hx

theorem k58 : strOfNums [58] = ByteArray.mk (Array.mk [58]) := rfl
theorem k5858 : strOfNums [58, 58] = ByteArray.mk (Array.mk [58, 58]) := rfl

set_option maxHeartbeats 4000000 in
theorem rtext_spec (a0 : List Int) (ha : isA a0) (h : AHeap) : PureA Tryd.prog 13 [.agg (cat b1 a0)] h (.str (strOfNums (rtextG (grps a0)))) := by
  have h8 := grps_len a0
  have hg : gOk (grps a0) := grps_bound ha
  have hl : (cat i1 (grps a0)).length = 8 := by rw [cat_len i1_len]; omega
  have hsc := cat_sca i1_sca (grps a0)
  have hla : (cat b1 a0).length = 16 := by rw [cat_len b1_len, ha.1]
  have htk : (cat b1 a0).take 16 = cat b1 a0 := List.take_of_length_le (by omega)
  have gs := rgroups_spec a0 ha
  generalize grps a0 = g at *
  have tk8 : (cat i1 g).take 8 = cat i1 g := List.take_of_length_le (by omega)
  have mx := mx'
  (refine PureA.enter (ac := c13) (rs := r13) Tryd.func13 rfl (by decide) c13_ok r13_ok ?_; intro Q hQ; simp only [go_sem, Int.reduceEq, Int.reduceAdd, Int.reduceSub, Int.reduceMul, Nat.reduceLT, Int.reduceLT, Int.reduceLE, Int.reduceToNat, Nat.reduceAdd, Nat.reduceSub, Nat.reduceMul, Nat.reduceLeDiff, reduceCtorEq, c13, Tryd.ntmps13, hla, htk, Nat.le_refl])
  refine (gs _).use ?_
  simp only [go_sem, Int.reduceEq, Int.reduceAdd, Int.reduceSub, Int.reduceMul, Nat.reduceLT, Int.reduceLT, Int.reduceLE, Int.reduceToNat, Nat.reduceAdd, Nat.reduceSub, Nat.reduceMul, Nat.reduceLeDiff, reduceCtorEq]
  intro p hp
  simp only [go_sem, Int.reduceEq, Int.reduceAdd, Int.reduceSub, Int.reduceMul, Nat.reduceLT, Int.reduceLT, Int.reduceLE, Int.reduceToNat, Nat.reduceAdd, Nat.reduceSub, Nat.reduceMul, Nat.reduceLeDiff, reduceCtorEq, del_same, del_none hp, hl, hsc, tk8, Nat.le_refl, if_true]
  refine loop_range d13_0 8 (fun i s => ((s.set 4 (.int .i64 (rrF g i).1)).set 5 (.int .i64 (rrF g i).2)).set 6 (.int .i64 (i : Int))) (fun i H => H = h) ?_ rfl ?_
  · (simp only [go_sem, Int.reduceEq, Int.reduceAdd, Int.reduceSub, Int.reduceMul, Nat.reduceLT, Int.reduceLT, Int.reduceLE, Int.reduceToNat, Nat.reduceAdd, Nat.reduceSub, Nat.reduceMul, Nat.reduceLeDiff, reduceCtorEq, d13_0] <;> rfl)
  rintro N i H hi rfl hN
  have hadd := wadd1 (k := i) (by omega)
  by_cases hlt : i < 8
  · have c1 : decide ((i : Int) < 8) = true := decide_eq_true (by omega)
    have hzl := zr_le (g.drop i)
    have hdl : (g.drop i).length = 8 - i := by rw [List.length_drop, h8]
    have hnx : rrF g (i + 1) = if (rrF g i).2 < (zr (g.drop i) : Int) then ((i : Int), (zr (g.drop i) : Int)) else rrF g i := rfl
    simp only [go_sem, Int.reduceEq, Int.reduceAdd, Int.reduceSub, Int.reduceMul, Nat.reduceLT, Int.reduceLT, Int.reduceLE, Int.reduceToNat, Nat.reduceAdd, Nat.reduceSub, Nat.reduceMul, Nat.reduceLeDiff, reduceCtorEq, d13_0, c1]
    generalize hZ : zr (g.drop i) = Z at hnx hzl
    refine loop_range d13_1 Z (fun n s => s.set 7 (.int .i64 (n : Int))) (fun n H' => H' = H) ?_ rfl ?_
    · (simp only [go_sem, Int.reduceEq, Int.reduceAdd, Int.reduceSub, Int.reduceMul, Nat.reduceLT, Int.reduceLT, Int.reduceLE, Int.reduceToNat, Nat.reduceAdd, Nat.reduceSub, Nat.reduceMul, Nat.reduceLeDiff, reduceCtorEq, d13_1] <;> rfl)
    rintro N2 n H2 hn rfl hN2
    have hadd2 := wadd1 (k := n) (by omega)
    have w1 : IntKind.i64.wrap ((i : Int) + (n : Int)) = ((i + n : Nat) : Int) := by rw [w64 (by omega) (by omega)]; omega
    by_cases hnz : n < Z
    · have hgl : i + n < g.length := by omega
      have hdn : n < (g.drop i).length := by omega
      have h0 : g[i + n] = 0 := by
        have := zr_zero (g.drop i) n hdn (by omega)
        rwa [List.getElem_drop] at this
      have c2 : decide (((i + n : Nat) : Int) < 8) = true := decide_eq_true (by omega)
      have c3 : decide (g[i + n] = 0) = true := decide_eq_true h0
      have b2 : (0 : Int) ≤ ((i + n : Nat) : Int) ∧ ((i + n : Nat) : Int) < 8 := by omega
      simp only [go_sem, Int.reduceEq, Int.reduceAdd, Int.reduceSub, Int.reduceMul, Nat.reduceLT, Int.reduceLT, Int.reduceLE, Int.reduceToNat, Nat.reduceAdd, Nat.reduceSub, Nat.reduceMul, Nat.reduceLeDiff, reduceCtorEq, d13_1, w1, c2, c3, b2, rdI hgl, hadd2, Int.toNat_natCast, Nat.mul_one, true_and]
      refine hN2 _ _ hnz ?_ rfl
      simp only [go_sem, Int.reduceEq, Int.reduceAdd, Int.reduceSub, Int.reduceMul, Nat.reduceLT, Int.reduceLT, Int.reduceLE, Int.reduceToNat, Nat.reduceAdd, Nat.reduceSub, Nat.reduceMul, Nat.reduceLeDiff, reduceCtorEq, d13_1]
    · obtain rfl : n = Z := by omega
      have fin : ∀ (K : Prop), True := fun _ => trivial
      have hcond : decide (((i + n : Nat) : Int) < 8) = false ∨ ∃ hgl : i + n < g.length, decide (((i + n : Nat) : Int) < 8) = true ∧ decide (g[i + n] = 0) = false ∧ ((0 : Int) ≤ ((i + n : Nat) : Int) ∧ ((i + n : Nat) : Int) < 8) := by
        by_cases he : i + n < 8
        · have hz2 : zr (g.drop i) < (g.drop i).length := by omega
          have := zr_end (g.drop i) hz2
          rw [List.getElem_drop] at this
          simp only [hZ] at this
          exact .inr ⟨by omega, decide_eq_true (by omega), decide_eq_false this, by omega⟩
        · exact .inl (decide_eq_false (by omega))
      rcases hcond with c2 | ⟨hgl, c2, c3, b2⟩
      · simp only [go_sem, Int.reduceEq, Int.reduceAdd, Int.reduceSub, Int.reduceMul, Nat.reduceLT, Int.reduceLT, Int.reduceLE, Int.reduceToNat, Nat.reduceAdd, Nat.reduceSub, Nat.reduceMul, Nat.reduceLeDiff, reduceCtorEq, d13_1, w1, c2]
        refine frz_id ?_
        by_cases hgt : (rrF g i).2 < (n : Int)
        · have c4 : decide ((rrF g i).2 < (n : Int)) = true := decide_eq_true hgt
          rw [if_pos hgt] at hnx
          simp only [go_sem, Int.reduceEq, Int.reduceAdd, Int.reduceSub, Int.reduceMul, Nat.reduceLT, Int.reduceLT, Int.reduceLE, Int.reduceToNat, Nat.reduceAdd, Nat.reduceSub, Nat.reduceMul, Nat.reduceLeDiff, reduceCtorEq, c4, hadd]
          refine hN _ _ hlt ?_ rfl
          rw [hnx]
          simp only [go_sem, Int.reduceEq, Int.reduceAdd, Int.reduceSub, Int.reduceMul, Nat.reduceLT, Int.reduceLT, Int.reduceLE, Int.reduceToNat, Nat.reduceAdd, Nat.reduceSub, Nat.reduceMul, Nat.reduceLeDiff, reduceCtorEq, d13_0]
        · have c4 : decide ((rrF g i).2 < (n : Int)) = false := decide_eq_false hgt
          rw [if_neg hgt] at hnx
          simp only [go_sem, Int.reduceEq, Int.reduceAdd, Int.reduceSub, Int.reduceMul, Nat.reduceLT, Int.reduceLT, Int.reduceLE, Int.reduceToNat, Nat.reduceAdd, Nat.reduceSub, Nat.reduceMul, Nat.reduceLeDiff, reduceCtorEq, c4, hadd]
          refine hN _ _ hlt ?_ rfl
          rw [hnx]
          simp only [go_sem, Int.reduceEq, Int.reduceAdd, Int.reduceSub, Int.reduceMul, Nat.reduceLT, Int.reduceLT, Int.reduceLE, Int.reduceToNat, Nat.reduceAdd, Nat.reduceSub, Nat.reduceMul, Nat.reduceLeDiff, reduceCtorEq, d13_0]
      · simp only [go_sem, Int.reduceEq, Int.reduceAdd, Int.reduceSub, Int.reduceMul, Nat.reduceLT, Int.reduceLT, Int.reduceLE, Int.reduceToNat, Nat.reduceAdd, Nat.reduceSub, Nat.reduceMul, Nat.reduceLeDiff, reduceCtorEq, d13_1, w1, c2, c3, b2, rdI hgl, Int.toNat_natCast, Nat.mul_one, true_and]
        refine frz_id ?_
        by_cases hgt : (rrF g i).2 < (n : Int)
        · have c4 : decide ((rrF g i).2 < (n : Int)) = true := decide_eq_true hgt
          rw [if_pos hgt] at hnx
          simp only [go_sem, Int.reduceEq, Int.reduceAdd, Int.reduceSub, Int.reduceMul, Nat.reduceLT, Int.reduceLT, Int.reduceLE, Int.reduceToNat, Nat.reduceAdd, Nat.reduceSub, Nat.reduceMul, Nat.reduceLeDiff, reduceCtorEq, c4, hadd]
          refine hN _ _ hlt ?_ rfl
          rw [hnx]
          simp only [go_sem, Int.reduceEq, Int.reduceAdd, Int.reduceSub, Int.reduceMul, Nat.reduceLT, Int.reduceLT, Int.reduceLE, Int.reduceToNat, Nat.reduceAdd, Nat.reduceSub, Nat.reduceMul, Nat.reduceLeDiff, reduceCtorEq, d13_0]
        · have c4 : decide ((rrF g i).2 < (n : Int)) = false := decide_eq_false hgt
          rw [if_neg hgt] at hnx
          simp only [go_sem, Int.reduceEq, Int.reduceAdd, Int.reduceSub, Int.reduceMul, Nat.reduceLT, Int.reduceLT, Int.reduceLE, Int.reduceToNat, Nat.reduceAdd, Nat.reduceSub, Nat.reduceMul, Nat.reduceLeDiff, reduceCtorEq, c4, hadd]
          refine hN _ _ hlt ?_ rfl
          rw [hnx]
          simp only [go_sem, Int.reduceEq, Int.reduceAdd, Int.reduceSub, Int.reduceMul, Nat.reduceLT, Int.reduceLT, Int.reduceLE, Int.reduceToNat, Nat.reduceAdd, Nat.reduceSub, Nat.reduceMul, Nat.reduceLeDiff, reduceCtorEq, d13_0]
  · have c1 : decide ((i : Int) < 8) = false := decide_eq_false (by omega)
    obtain rfl : i = 8 := by omega
    have hb := rrF_bound g h8 8
    have hdef : rtextG g = rtF g (rrF g 8).1 (rrF g 8).2 8 := rfl
    rw [hdef] at hQ
    simp only [go_sem, Int.reduceEq, Int.reduceAdd, Int.reduceSub, Int.reduceMul, Nat.reduceLT, Int.reduceLT, Int.reduceLE, Int.reduceToNat, Nat.reduceAdd, Nat.reduceSub, Nat.reduceMul, Nat.reduceLeDiff, reduceCtorEq, d13_0, c1]
    refine frz_id ?_
    generalize (rrF g 8).1 = a at *
    generalize (rrF g 8).2 = z at *
    have w0 : IntKind.i64.wrap (a + z) = a + z := w64 (by omega) (by omega)
    simp only [go_sem, Int.reduceEq, Int.reduceAdd, Int.reduceSub, Int.reduceMul, Nat.reduceLT, Int.reduceLT, Int.reduceLE, Int.reduceToNat, Nat.reduceAdd, Nat.reduceSub, Nat.reduceMul, Nat.reduceLeDiff, reduceCtorEq]
    refine loop_range d13_2 8 (fun k s => (s.set 8 (.str (strOfNums (rtF g a z k)))).set 9 (.int .i64 (k : Int))) (fun k H' => H' = H) ?_ rfl ?_
    · (simp only [go_sem, Int.reduceEq, Int.reduceAdd, Int.reduceSub, Int.reduceMul, Nat.reduceLT, Int.reduceLT, Int.reduceLE, Int.reduceToNat, Nat.reduceAdd, Nat.reduceSub, Nat.reduceMul, Nat.reduceLeDiff, reduceCtorEq, d13_2] <;> rfl)
    rintro N k H2 hk rfl hN
    have hadd := wadd1 (k := k) (by omega)
    by_cases hlt : k < 8
    · have c2 : decide ((k : Int) < 8) = true := decide_eq_true (by omega)
      have k2 : (0 : Int) ≤ (k : Int) ∧ (k : Int) < 8 := by omega
      have hgl : k < g.length := by omega
      have ggk : g.getD k 0 = g[k] := by simp [hgl]
      have hbk := hg _ (List.getElem_mem hgl)
      have hx := hex_spec g[k] hbk.1 (by omega)
      have hxl := hexL_len g[k]
      obtain ⟨hsb, hsl2⟩ := rtF_byte hg a z k
      have go : ∀ s', kill d13_2 s' = _ → N s' _ := fun s' e => hN s' _ hlt e rfl
      obtain ⟨s, hsq⟩ : ∃ s, rtF g a z k = s := ⟨_, rfl⟩
      rw [hsq] at hsb hsl2
      have ro : ∀ hout : inR a z k = false, rtF g a z (k + 1) = (if s ≠ [] ∧ lastI s ≠ 58 then s ++ [58] else s) ++ hexL g[k] := fun hout => by rw [rtF_out hout, hsq, ggk]
      simp only [go_sem, Int.reduceEq, Int.reduceAdd, Int.reduceSub, Int.reduceMul, Nat.reduceLT, Int.reduceLT, Int.reduceLE, Int.reduceToNat, Nat.reduceAdd, Nat.reduceSub, Nat.reduceMul, Nat.reduceLeDiff, reduceCtorEq, d13_2, c2, hsq]
      by_cases hz1 : 1 < z
      · have d1 : decide (1 < z) = true := decide_eq_true hz1
        by_cases ha1 : a ≤ (k : Int)
        · have d2 : decide (a ≤ (k : Int)) = true := decide_eq_true ha1
          by_cases hk1 : (k : Int) < a + z
          · have d3 : decide ((k : Int) < a + z) = true := decide_eq_true hk1
            have hin : inR a z k = true := by unfold inR; rw [d1, d2, d3]; rfl
            rw [rtF_in hin, hsq] at go
            by_cases hka : (k : Int) = a
            · have d4 : decide ((k : Int) = a) = true := decide_eq_true hka
              rw [if_pos hka] at go
              have q0 := binA_cat (x := strOfNums s) (y := strOfNums [58, 58]) (by rw [strOfNums_size, strOfNums_size, mx]; simp only [List.length_cons, List.length_nil]; omega)
              rw [nums_app, k5858] at q0
              simp only [go_sem, Int.reduceEq, Int.reduceAdd, Int.reduceSub, Int.reduceMul, Nat.reduceLT, Int.reduceLT, Int.reduceLE, Int.reduceToNat, Nat.reduceAdd, Nat.reduceSub, Nat.reduceMul, Nat.reduceLeDiff, reduceCtorEq, d1, d2, w0, d3, d4, q0, hadd]
              refine go _ ?_
              simp only [go_sem, Int.reduceEq, Int.reduceAdd, Int.reduceSub, Int.reduceMul, Nat.reduceLT, Int.reduceLT, Int.reduceLE, Int.reduceToNat, Nat.reduceAdd, Nat.reduceSub, Nat.reduceMul, Nat.reduceLeDiff, reduceCtorEq, d13_2]
            · have d4 : decide ((k : Int) = a) = false := decide_eq_false hka
              rw [if_neg hka] at go
              simp only [go_sem, Int.reduceEq, Int.reduceAdd, Int.reduceSub, Int.reduceMul, Nat.reduceLT, Int.reduceLT, Int.reduceLE, Int.reduceToNat, Nat.reduceAdd, Nat.reduceSub, Nat.reduceMul, Nat.reduceLeDiff, reduceCtorEq, d1, d2, w0, d3, d4, hadd]
              refine go _ ?_
              simp only [go_sem, Int.reduceEq, Int.reduceAdd, Int.reduceSub, Int.reduceMul, Nat.reduceLT, Int.reduceLT, Int.reduceLE, Int.reduceToNat, Nat.reduceAdd, Nat.reduceSub, Nat.reduceMul, Nat.reduceLeDiff, reduceCtorEq, d13_2]
          · have d3 : decide ((k : Int) < a + z) = false := decide_eq_false hk1
            have hout : inR a z k = false := by unfold inR; rw [d1, d2, d3]; rfl
            rw [ro hout] at go
            simp only [go_sem, Int.reduceEq, Int.reduceAdd, Int.reduceSub, Int.reduceMul, Nat.reduceLT, Int.reduceLT, Int.reduceLE, Int.reduceToNat, Nat.reduceAdd, Nat.reduceSub, Nat.reduceMul, Nat.reduceLeDiff, reduceCtorEq, d1, d2, w0, d3]
            by_cases hs0 : s = []
            · subst hs0
              have l0 : (strOfNums []).size = 0 := rfl
              rw [if_neg (by simp), List.nil_append] at go
              have q1 := binA_cat (x := strOfNums []) (y := hexS g[k]) (by rw [l0, hexS, strOfNums_size, mx]; omega)
              rw [hexS, nums_app, List.nil_append] at q1
              simp only [go_sem, Int.reduceEq, Int.reduceAdd, Int.reduceSub, Int.reduceMul, Nat.reduceLT, Int.reduceLT, Int.reduceLE, Int.reduceToNat, Nat.reduceAdd, Nat.reduceSub, Nat.reduceMul, Nat.reduceLeDiff, reduceCtorEq, lenA_str, l0, k2, rdI hgl, Nat.lt_irrefl, decide_false, show decide ((0 : Int) < ((0 : Nat) : Int)) = false from rfl]
              refine (hx _).use ?_
              simp only [go_sem, Int.reduceEq, Int.reduceAdd, Int.reduceSub, Int.reduceMul, Nat.reduceLT, Int.reduceLT, Int.reduceLE, Int.reduceToNat, Nat.reduceAdd, Nat.reduceSub, Nat.reduceMul, Nat.reduceLeDiff, reduceCtorEq, hexS, q1, hadd]
              refine go _ ?_
              simp only [go_sem, Int.reduceEq, Int.reduceAdd, Int.reduceSub, Int.reduceMul, Nat.reduceLT, Int.reduceLT, Int.reduceLE, Int.reduceToNat, Nat.reduceAdd, Nat.reduceSub, Nat.reduceMul, Nat.reduceLeDiff, reduceCtorEq, d13_2]
            · have hsl : 0 < s.length := List.length_pos_iff.2 hs0
              obtain ⟨c, e1, e2⟩ := last_at s hs0 hsb
              have k3 : decide (0 < s.length) = true := decide_eq_true hsl
              have k3' : decide ((0 : Int) < (s.length : Int)) = true := decide_eq_true (by omega)
              have w1 : IntKind.i64.wrap ((s.length : Int) - 1) = ((s.length - 1 : Nat) : Int) := by rw [w64 (by omega) (by omega)]; omega
              by_cases hl : lastI s = 58
              · have k4 : decide (lastI s = 58) = true := decide_eq_true hl
                rw [if_neg (by simp [hl])] at go
                have q1 := binA_cat (x := strOfNums s) (y := hexS g[k]) (by rw [hexS, strOfNums_size, strOfNums_size, mx]; omega)
                rw [hexS, nums_app] at q1
                simp only [go_sem, Int.reduceEq, Int.reduceAdd, Int.reduceSub, Int.reduceMul, Nat.reduceLT, Int.reduceLT, Int.reduceLE, Int.reduceToNat, Nat.reduceAdd, Nat.reduceSub, Nat.reduceMul, Nat.reduceLeDiff, reduceCtorEq, lenA_str, strOfNums_size, k2, k3, k3', hsl, w1]
                refine ⟨c, e1, ?_⟩
                simp only [go_sem, Int.reduceEq, Int.reduceAdd, Int.reduceSub, Int.reduceMul, Nat.reduceLT, Int.reduceLT, Int.reduceLE, Int.reduceToNat, Nat.reduceAdd, Nat.reduceSub, Nat.reduceMul, Nat.reduceLeDiff, reduceCtorEq, e2, k4, Bool.not_true, rdI hgl, k2]
                refine (hx _).use ?_
                simp only [go_sem, Int.reduceEq, Int.reduceAdd, Int.reduceSub, Int.reduceMul, Nat.reduceLT, Int.reduceLT, Int.reduceLE, Int.reduceToNat, Nat.reduceAdd, Nat.reduceSub, Nat.reduceMul, Nat.reduceLeDiff, reduceCtorEq, hexS, q1, hadd]
                refine go _ ?_
                simp only [go_sem, Int.reduceEq, Int.reduceAdd, Int.reduceSub, Int.reduceMul, Nat.reduceLT, Int.reduceLT, Int.reduceLE, Int.reduceToNat, Nat.reduceAdd, Nat.reduceSub, Nat.reduceMul, Nat.reduceLeDiff, reduceCtorEq, d13_2]
              · have k4 : decide (lastI s = 58) = false := decide_eq_false hl
                rw [if_pos ⟨hs0, hl⟩] at go
                have q0 := binA_cat (x := strOfNums s) (y := strOfNums [58]) (by rw [strOfNums_size, strOfNums_size, mx]; simp only [List.length_cons, List.length_nil]; omega)
                have q1 := binA_cat (x := strOfNums (s ++ [58])) (y := hexS g[k]) (by rw [hexS, strOfNums_size, strOfNums_size, mx, List.length_append]; simp only [List.length_cons, List.length_nil]; omega)
                rw [nums_app, k58] at q0
                rw [hexS, nums_app] at q1
                simp only [go_sem, Int.reduceEq, Int.reduceAdd, Int.reduceSub, Int.reduceMul, Nat.reduceLT, Int.reduceLT, Int.reduceLE, Int.reduceToNat, Nat.reduceAdd, Nat.reduceSub, Nat.reduceMul, Nat.reduceLeDiff, reduceCtorEq, lenA_str, strOfNums_size, k2, k3, k3', hsl, w1]
                refine ⟨c, e1, ?_⟩
                simp only [go_sem, Int.reduceEq, Int.reduceAdd, Int.reduceSub, Int.reduceMul, Nat.reduceLT, Int.reduceLT, Int.reduceLE, Int.reduceToNat, Nat.reduceAdd, Nat.reduceSub, Nat.reduceMul, Nat.reduceLeDiff, reduceCtorEq, e2, k4, Bool.not_false, rdI hgl, k2, q0]
                refine (hx _).use ?_
                simp only [go_sem, Int.reduceEq, Int.reduceAdd, Int.reduceSub, Int.reduceMul, Nat.reduceLT, Int.reduceLT, Int.reduceLE, Int.reduceToNat, Nat.reduceAdd, Nat.reduceSub, Nat.reduceMul, Nat.reduceLeDiff, reduceCtorEq, hexS, q1, hadd]
                refine go _ ?_
                simp only [go_sem, Int.reduceEq, Int.reduceAdd, Int.reduceSub, Int.reduceMul, Nat.reduceLT, Int.reduceLT, Int.reduceLE, Int.reduceToNat, Nat.reduceAdd, Nat.reduceSub, Nat.reduceMul, Nat.reduceLeDiff, reduceCtorEq, d13_2]
        · have d2 : decide (a ≤ (k : Int)) = false := decide_eq_false ha1
          have hout : inR a z k = false := by unfold inR; rw [d1, d2]; rfl
          rw [ro hout] at go
          simp only [go_sem, Int.reduceEq, Int.reduceAdd, Int.reduceSub, Int.reduceMul, Nat.reduceLT, Int.reduceLT, Int.reduceLE, Int.reduceToNat, Nat.reduceAdd, Nat.reduceSub, Nat.reduceMul, Nat.reduceLeDiff, reduceCtorEq, d1, d2]
          by_cases hs0 : s = []
          · subst hs0
            have l0 : (strOfNums []).size = 0 := rfl
            rw [if_neg (by simp), List.nil_append] at go
            have q1 := binA_cat (x := strOfNums []) (y := hexS g[k]) (by rw [l0, hexS, strOfNums_size, mx]; omega)
            rw [hexS, nums_app, List.nil_append] at q1
            simp only [go_sem, Int.reduceEq, Int.reduceAdd, Int.reduceSub, Int.reduceMul, Nat.reduceLT, Int.reduceLT, Int.reduceLE, Int.reduceToNat, Nat.reduceAdd, Nat.reduceSub, Nat.reduceMul, Nat.reduceLeDiff, reduceCtorEq, lenA_str, l0, k2, rdI hgl, Nat.lt_irrefl, decide_false, show decide ((0 : Int) < ((0 : Nat) : Int)) = false from rfl]
            refine (hx _).use ?_
            simp only [go_sem, Int.reduceEq, Int.reduceAdd, Int.reduceSub, Int.reduceMul, Nat.reduceLT, Int.reduceLT, Int.reduceLE, Int.reduceToNat, Nat.reduceAdd, Nat.reduceSub, Nat.reduceMul, Nat.reduceLeDiff, reduceCtorEq, hexS, q1, hadd]
            refine go _ ?_
            simp only [go_sem, Int.reduceEq, Int.reduceAdd, Int.reduceSub, Int.reduceMul, Nat.reduceLT, Int.reduceLT, Int.reduceLE, Int.reduceToNat, Nat.reduceAdd, Nat.reduceSub, Nat.reduceMul, Nat.reduceLeDiff, reduceCtorEq, d13_2]
          · have hsl : 0 < s.length := List.length_pos_iff.2 hs0
            obtain ⟨c, e1, e2⟩ := last_at s hs0 hsb
            have k3 : decide (0 < s.length) = true := decide_eq_true hsl
            have k3' : decide ((0 : Int) < (s.length : Int)) = true := decide_eq_true (by omega)
            have w1 : IntKind.i64.wrap ((s.length : Int) - 1) = ((s.length - 1 : Nat) : Int) := by rw [w64 (by omega) (by omega)]; omega
            by_cases hl : lastI s = 58
            · have k4 : decide (lastI s = 58) = true := decide_eq_true hl
              rw [if_neg (by simp [hl])] at go
              have q1 := binA_cat (x := strOfNums s) (y := hexS g[k]) (by rw [hexS, strOfNums_size, strOfNums_size, mx]; omega)
              rw [hexS, nums_app] at q1
              simp only [go_sem, Int.reduceEq, Int.reduceAdd, Int.reduceSub, Int.reduceMul, Nat.reduceLT, Int.reduceLT, Int.reduceLE, Int.reduceToNat, Nat.reduceAdd, Nat.reduceSub, Nat.reduceMul, Nat.reduceLeDiff, reduceCtorEq, lenA_str, strOfNums_size, k2, k3, k3', hsl, w1]
              refine ⟨c, e1, ?_⟩
              simp only [go_sem, Int.reduceEq, Int.reduceAdd, Int.reduceSub, Int.reduceMul, Nat.reduceLT, Int.reduceLT, Int.reduceLE, Int.reduceToNat, Nat.reduceAdd, Nat.reduceSub, Nat.reduceMul, Nat.reduceLeDiff, reduceCtorEq, e2, k4, Bool.not_true, rdI hgl, k2]
              refine (hx _).use ?_
              simp only [go_sem, Int.reduceEq, Int.reduceAdd, Int.reduceSub, Int.reduceMul, Nat.reduceLT, Int.reduceLT, Int.reduceLE, Int.reduceToNat, Nat.reduceAdd, Nat.reduceSub, Nat.reduceMul, Nat.reduceLeDiff, reduceCtorEq, hexS, q1, hadd]
              refine go _ ?_
              simp only [go_sem, Int.reduceEq, Int.reduceAdd, Int.reduceSub, Int.reduceMul, Nat.reduceLT, Int.reduceLT, Int.reduceLE, Int.reduceToNat, Nat.reduceAdd, Nat.reduceSub, Nat.reduceMul, Nat.reduceLeDiff, reduceCtorEq, d13_2]
            · have k4 : decide (lastI s = 58) = false := decide_eq_false hl
              rw [if_pos ⟨hs0, hl⟩] at go
              have q0 := binA_cat (x := strOfNums s) (y := strOfNums [58]) (by rw [strOfNums_size, strOfNums_size, mx]; simp only [List.length_cons, List.length_nil]; omega)
              have q1 := binA_cat (x := strOfNums (s ++ [58])) (y := hexS g[k]) (by rw [hexS, strOfNums_size, strOfNums_size, mx, List.length_append]; simp only [List.length_cons, List.length_nil]; omega)
              rw [nums_app, k58] at q0
              rw [hexS, nums_app] at q1
              simp only [go_sem, Int.reduceEq, Int.reduceAdd, Int.reduceSub, Int.reduceMul, Nat.reduceLT, Int.reduceLT, Int.reduceLE, Int.reduceToNat, Nat.reduceAdd, Nat.reduceSub, Nat.reduceMul, Nat.reduceLeDiff, reduceCtorEq, lenA_str, strOfNums_size, k2, k3, k3', hsl, w1]
              refine ⟨c, e1, ?_⟩
              simp only [go_sem, Int.reduceEq, Int.reduceAdd, Int.reduceSub, Int.reduceMul, Nat.reduceLT, Int.reduceLT, Int.reduceLE, Int.reduceToNat, Nat.reduceAdd, Nat.reduceSub, Nat.reduceMul, Nat.reduceLeDiff, reduceCtorEq, e2, k4, Bool.not_false, rdI hgl, k2, q0]
              refine (hx _).use ?_
              simp only [go_sem, Int.reduceEq, Int.reduceAdd, Int.reduceSub, Int.reduceMul, Nat.reduceLT, Int.reduceLT, Int.reduceLE, Int.reduceToNat, Nat.reduceAdd, Nat.reduceSub, Nat.reduceMul, Nat.reduceLeDiff, reduceCtorEq, hexS, q1, hadd]
              refine go _ ?_
              simp only [go_sem, Int.reduceEq, Int.reduceAdd, Int.reduceSub, Int.reduceMul, Nat.reduceLT, Int.reduceLT, Int.reduceLE, Int.reduceToNat, Nat.reduceAdd, Nat.reduceSub, Nat.reduceMul, Nat.reduceLeDiff, reduceCtorEq, d13_2]
      · have d1 : decide (1 < z) = false := decide_eq_false hz1
        have hout : inR a z k = false := by unfold inR; rw [d1]; rfl
        rw [ro hout] at go
        simp only [go_sem, Int.reduceEq, Int.reduceAdd, Int.reduceSub, Int.reduceMul, Nat.reduceLT, Int.reduceLT, Int.reduceLE, Int.reduceToNat, Nat.reduceAdd, Nat.reduceSub, Nat.reduceMul, Nat.reduceLeDiff, reduceCtorEq, d1]
        by_cases hs0 : s = []
        · subst hs0
          have l0 : (strOfNums []).size = 0 := rfl
          rw [if_neg (by simp), List.nil_append] at go
          have q1 := binA_cat (x := strOfNums []) (y := hexS g[k]) (by rw [l0, hexS, strOfNums_size, mx]; omega)
          rw [hexS, nums_app, List.nil_append] at q1
          simp only [go_sem, Int.reduceEq, Int.reduceAdd, Int.reduceSub, Int.reduceMul, Nat.reduceLT, Int.reduceLT, Int.reduceLE, Int.reduceToNat, Nat.reduceAdd, Nat.reduceSub, Nat.reduceMul, Nat.reduceLeDiff, reduceCtorEq, lenA_str, l0, k2, rdI hgl, Nat.lt_irrefl, decide_false, show decide ((0 : Int) < ((0 : Nat) : Int)) = false from rfl]
          refine (hx _).use ?_
          simp only [go_sem, Int.reduceEq, Int.reduceAdd, Int.reduceSub, Int.reduceMul, Nat.reduceLT, Int.reduceLT, Int.reduceLE, Int.reduceToNat, Nat.reduceAdd, Nat.reduceSub, Nat.reduceMul, Nat.reduceLeDiff, reduceCtorEq, hexS, q1, hadd]
          refine go _ ?_
          simp only [go_sem, Int.reduceEq, Int.reduceAdd, Int.reduceSub, Int.reduceMul, Nat.reduceLT, Int.reduceLT, Int.reduceLE, Int.reduceToNat, Nat.reduceAdd, Nat.reduceSub, Nat.reduceMul, Nat.reduceLeDiff, reduceCtorEq, d13_2]
        · have hsl : 0 < s.length := List.length_pos_iff.2 hs0
          obtain ⟨c, e1, e2⟩ := last_at s hs0 hsb
          have k3 : decide (0 < s.length) = true := decide_eq_true hsl
          have k3' : decide ((0 : Int) < (s.length : Int)) = true := decide_eq_true (by omega)
          have w1 : IntKind.i64.wrap ((s.length : Int) - 1) = ((s.length - 1 : Nat) : Int) := by rw [w64 (by omega) (by omega)]; omega
          by_cases hl : lastI s = 58
          · have k4 : decide (lastI s = 58) = true := decide_eq_true hl
            rw [if_neg (by simp [hl])] at go
            have q1 := binA_cat (x := strOfNums s) (y := hexS g[k]) (by rw [hexS, strOfNums_size, strOfNums_size, mx]; omega)
            rw [hexS, nums_app] at q1
            simp only [go_sem, Int.reduceEq, Int.reduceAdd, Int.reduceSub, Int.reduceMul, Nat.reduceLT, Int.reduceLT, Int.reduceLE, Int.reduceToNat, Nat.reduceAdd, Nat.reduceSub, Nat.reduceMul, Nat.reduceLeDiff, reduceCtorEq, lenA_str, strOfNums_size, k2, k3, k3', hsl, w1]
            refine ⟨c, e1, ?_⟩
            simp only [go_sem, Int.reduceEq, Int.reduceAdd, Int.reduceSub, Int.reduceMul, Nat.reduceLT, Int.reduceLT, Int.reduceLE, Int.reduceToNat, Nat.reduceAdd, Nat.reduceSub, Nat.reduceMul, Nat.reduceLeDiff, reduceCtorEq, e2, k4, Bool.not_true, rdI hgl, k2]
            refine (hx _).use ?_
            simp only [go_sem, Int.reduceEq, Int.reduceAdd, Int.reduceSub, Int.reduceMul, Nat.reduceLT, Int.reduceLT, Int.reduceLE, Int.reduceToNat, Nat.reduceAdd, Nat.reduceSub, Nat.reduceMul, Nat.reduceLeDiff, reduceCtorEq, hexS, q1, hadd]
            refine go _ ?_
            simp only [go_sem, Int.reduceEq, Int.reduceAdd, Int.reduceSub, Int.reduceMul, Nat.reduceLT, Int.reduceLT, Int.reduceLE, Int.reduceToNat, Nat.reduceAdd, Nat.reduceSub, Nat.reduceMul, Nat.reduceLeDiff, reduceCtorEq, d13_2]
          · have k4 : decide (lastI s = 58) = false := decide_eq_false hl
            rw [if_pos ⟨hs0, hl⟩] at go
            have q0 := binA_cat (x := strOfNums s) (y := strOfNums [58]) (by rw [strOfNums_size, strOfNums_size, mx]; simp only [List.length_cons, List.length_nil]; omega)
            have q1 := binA_cat (x := strOfNums (s ++ [58])) (y := hexS g[k]) (by rw [hexS, strOfNums_size, strOfNums_size, mx, List.length_append]; simp only [List.length_cons, List.length_nil]; omega)
            rw [nums_app, k58] at q0
            rw [hexS, nums_app] at q1
            simp only [go_sem, Int.reduceEq, Int.reduceAdd, Int.reduceSub, Int.reduceMul, Nat.reduceLT, Int.reduceLT, Int.reduceLE, Int.reduceToNat, Nat.reduceAdd, Nat.reduceSub, Nat.reduceMul, Nat.reduceLeDiff, reduceCtorEq, lenA_str, strOfNums_size, k2, k3, k3', hsl, w1]
            refine ⟨c, e1, ?_⟩
            simp only [go_sem, Int.reduceEq, Int.reduceAdd, Int.reduceSub, Int.reduceMul, Nat.reduceLT, Int.reduceLT, Int.reduceLE, Int.reduceToNat, Nat.reduceAdd, Nat.reduceSub, Nat.reduceMul, Nat.reduceLeDiff, reduceCtorEq, e2, k4, Bool.not_false, rdI hgl, k2, q0]
            refine (hx _).use ?_
            simp only [go_sem, Int.reduceEq, Int.reduceAdd, Int.reduceSub, Int.reduceMul, Nat.reduceLT, Int.reduceLT, Int.reduceLE, Int.reduceToNat, Nat.reduceAdd, Nat.reduceSub, Nat.reduceMul, Nat.reduceLeDiff, reduceCtorEq, hexS, q1, hadd]
            refine go _ ?_
            simp only [go_sem, Int.reduceEq, Int.reduceAdd, Int.reduceSub, Int.reduceMul, Nat.reduceLT, Int.reduceLT, Int.reduceLE, Int.reduceToNat, Nat.reduceAdd, Nat.reduceSub, Nat.reduceMul, Nat.reduceLeDiff, reduceCtorEq, d13_2]
    · have c2 : decide ((k : Int) < 8) = false := decide_eq_false (by omega)
      obtain rfl : k = 8 := by omega
      simp only [go_sem, Int.reduceEq, Int.reduceAdd, Int.reduceSub, Int.reduceMul, Nat.reduceLT, Int.reduceLT, Int.reduceLE, Int.reduceToNat, Nat.reduceAdd, Nat.reduceSub, Nat.reduceMul, Nat.reduceLeDiff, reduceCtorEq, d13_2, c2]
      refine frz_id ?_
      simp only [go_sem, Int.reduceEq, Int.reduceAdd, Int.reduceSub, Int.reduceMul, Nat.reduceLT, Int.reduceLT, Int.reduceLE, Int.reduceToNat, Nat.reduceAdd, Nat.reduceSub, Nat.reduceMul, Nat.reduceLeDiff, reduceCtorEq]
      (refine hQ _ _ _ _ _ (by first | exact .inr rfl | exact .inl rfl) rfl (by first | exact FzH.refl _ | exact FzH.sub (by (repeat' (first | exact Sub.refl _ | assumption | (refine Sub.upd ?_ (by first | assumption | (simp only [*]; done) | exact Sub.isNone (by assumption) (by assumption) | exact Sub.isNone (by assumption) (by simp only [*]))))))) (FzL.refl _ _ _) ?_; try (simp only [go_sem, Int.reduceEq, Int.reduceAdd, Int.reduceSub, Int.reduceMul, Nat.reduceLT, Int.reduceLT, Int.reduceLE, Int.reduceToNat, Nat.reduceAdd, Nat.reduceSub, Nat.reduceMul, Nat.reduceLeDiff, reduceCtorEq]))

end Go.Proofs.YtdlghfekgecjjaaDoor
