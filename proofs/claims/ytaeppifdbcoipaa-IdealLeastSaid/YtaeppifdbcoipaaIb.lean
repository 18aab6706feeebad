/-
  ideal.Heap: contracts.
-/
import Derived.Test.YtaeppifdbcoipaaSo
import Derived.Test.YtaeppifdbcoipaaC5
import Derived.Test.YtaeppifdbcoipaaIa
namespace Go.Proofs.Ytaeppifdbcoipaa
open Go E
set_option linter.unusedVariables false
set_option linter.unusedSimpArgs false
set_option maxRecDepth 100000

def encJ (x : Jb) : List AV := [.int .i64 x.rank, .int .i64 x.node, .int .i64 x.num]
theorem encJ_len (x : Jb) : (encJ x).length = 3 := rfl
theorem encJ_sca (x : Jb) : (encJ x).all scalar = true := rfl

def cmpI3 (a b : Int) : Int := if a < b then -1 else if b < a then 1 else 0
def aheadI (a b : Jb) : Int := or0 [cmpI3 a.rank b.rank, cmpI3 a.node b.node, cmpI3 a.num b.num]
theorem aheadI_lt (a b : Jb) : decide (aheadI a b < 0) = decide (ltJ a b) := by
  refine decide_eq_decide.2 ?_
  unfold aheadI ltJ cmpI3
  simp only [or0]
  (repeat' split) <;> omega

theorem ahead_spec (a b : Jb) (h : AHeap) : PureA Try.prog 164 [.agg (encJ a), .agg (encJ b)] h (.int .i64 (aheadI a b)) := by
  (refine PureA.enter (ac := c164) (rs := r164) Try.func164 rfl (by decide) c164_ok r164_ok ?_; intro Q hQ; simp only [go_sem, Int.reduceEq, Int.reduceAdd, Int.reduceSub, Int.reduceMul, Nat.reduceLT, Int.reduceLT, Int.reduceLE, Int.reduceToNat, Nat.reduceAdd, Nat.reduceSub, Nat.reduceMul, Nat.reduceLeDiff, reduceCtorEq, c164, Try.ntmps164, encJ])
  refine (cmp_spec _ _ _).use ?_
  simp only [go_sem, Int.reduceEq, Int.reduceAdd, Int.reduceSub, Int.reduceMul, Nat.reduceLT, Int.reduceLT, Int.reduceLE, Int.reduceToNat, Nat.reduceAdd, Nat.reduceSub, Nat.reduceMul, Nat.reduceLeDiff, reduceCtorEq]
  refine (cmp_spec _ _ _).use ?_
  simp only [go_sem, Int.reduceEq, Int.reduceAdd, Int.reduceSub, Int.reduceMul, Nat.reduceLT, Int.reduceLT, Int.reduceLE, Int.reduceToNat, Nat.reduceAdd, Nat.reduceSub, Nat.reduceMul, Nat.reduceLeDiff, reduceCtorEq]
  refine (cmp_spec _ _ _).use ?_
  simp only [go_sem, Int.reduceEq, Int.reduceAdd, Int.reduceSub, Int.reduceMul, Nat.reduceLT, Int.reduceLT, Int.reduceLE, Int.reduceToNat, Nat.reduceAdd, Nat.reduceSub, Nat.reduceMul, Nat.reduceLeDiff, reduceCtorEq]
  have := or_spec [cmpI3 a.rank b.rank, cmpI3 a.node b.node, cmpI3 a.num b.num] true h (by simp)
  refine (show PureA Try.prog 99 [.ro [.int .i64 (cmpI3 a.rank b.rank), .int .i64 (cmpI3 a.node b.node), .int .i64 (cmpI3 a.num b.num)] 3 true] h _ from this).use ?_
  simp only [go_sem, Int.reduceEq, Int.reduceAdd, Int.reduceSub, Int.reduceMul, Nat.reduceLT, Int.reduceLT, Int.reduceLE, Int.reduceToNat, Nat.reduceAdd, Nat.reduceSub, Nat.reduceMul, Nat.reduceLeDiff, reduceCtorEq]
  (refine hQ _ _ _ _ _ (by first | exact .inr rfl | exact .inl rfl) rfl (by first | exact FzH.refl _ | exact FzH.sub (by (repeat' (first | exact Sub.refl _ | assumption | (refine Sub.upd ?_ (by first | assumption | (simp only [*]; done) | exact Sub.isNone (by assumption) (by assumption) | exact Sub.isNone (by assumption) (by simp only [*]))))))) (FzL.refl _ _ _) ?_; try (simp only [go_sem, Int.reduceEq, Int.reduceAdd, Int.reduceSub, Int.reduceMul, Nat.reduceLT, Int.reduceLT, Int.reduceLE, Int.reduceToNat, Nat.reduceAdd, Nat.reduceSub, Nat.reduceMul, Nat.reduceLeDiff, reduceCtorEq, aheadI]))

/-- The heap at q. -/
def HIn (q : Nat) (c : Int) (l : List Jb) (h0 H : AHeap) : Prop := ∃ v H0, Grow h0 3 v (cat encJ l) l.length H0 ∧ Wr v ∧ H0 q = none ∧ H = upd H0 q (.cells [v, .int .i64 c] 2)

theorem HIn.out {q : Nat} {c : Int} {l : List Jb} {h0 H : AHeap} (i : HIn q c l h0 H) : ∃ v, H q = some (.cells [v, .int .i64 c] 2) ∧ Grow (upd h0 q (.cells [v, .int .i64 c] 2)) 3 v (cat encJ l) l.length H ∧ Wr v ∧ h0 q = none := by
  obtain ⟨v, H0, g, w, hq, rfl⟩ := i
  exact ⟨v, upd_same, g.more hq, w, g.none hq⟩
theorem HIn.of {q : Nat} {c : Int} {l : List Jb} {h0 H : AHeap} {v : AV} {o : AObj} (hq : h0 q = none) (g : Grow (upd h0 q o) 3 v (cat encJ l) l.length H) (w : Wr v) : HIn q c l h0 (upd H q (.cells [v, .int .i64 c] 2)) := by
  obtain ⟨h2, g2, h2q, _, e⟩ := g.unpoke hq
  exact ⟨v, h2, g2, w, h2q, e _⟩
theorem HIn.back {q : Nat} {c : Int} {l : List Jb} {h0 H : AHeap} {v : AV} (hq : h0 q = none) (g : Grow (upd h0 q (.cells [v, .int .i64 c] 2)) 3 v (cat encJ l) l.length H) (w : Wr v) : HIn q c l h0 H := by
  have h1 := HIn.of (c := c) hq g w
  have h2 := g.keep (x := q) upd_same
  have : upd H q (.cells [v, .int .i64 c] 2) = H := by
    funext y
    by_cases hy : y = q
    · subst hy; rw [upd_same, h2]
    · rw [upd_ne hy]
  rw [this] at h1; exact h1
theorem HIn.sub {q : Nat} {c : Int} {l : List Jb} {h0 H : AHeap} (i : HIn q c l h0 H) : Sub h0 H := by
  obtain ⟨v, H0, g, w, hq, rfl⟩ := i
  exact g.sub.upd2 (g.none hq)

theorem hLen_spec {q : Nat} {c : Int} {l : List Jb} {h0 H : AHeap} (i : HIn q c l h0 H) : PureA Try.prog 29 [.ptr q 0] H (.int .i64 (l.length : Int)) := by
  obtain ⟨v, blk, g, w, hq⟩ := i.out
  have hlen := g.len
  (refine PureA.enter (ac := c29) (rs := r29) Try.func29 rfl (by decide) c29_ok r29_ok ?_; intro Q hQ; simp only [go_sem, Int.reduceEq, Int.reduceAdd, Int.reduceSub, Int.reduceMul, Nat.reduceLT, Int.reduceLT, Int.reduceLE, Int.reduceToNat, Nat.reduceAdd, Nat.reduceSub, Nat.reduceMul, Nat.reduceLeDiff, reduceCtorEq, c29, Try.ntmps29, blk, hlen])
  (refine hQ _ _ _ _ _ (by first | exact .inr rfl | exact .inl rfl) rfl (by first | exact FzH.refl _ | exact FzH.sub (by (repeat' (first | exact Sub.refl _ | assumption | (refine Sub.upd ?_ (by first | assumption | (simp only [*]; done) | exact Sub.isNone (by assumption) (by assumption) | exact Sub.isNone (by assumption) (by simp only [*]))))))) (FzL.refl _ _ _) ?_; try (simp only [go_sem, Int.reduceEq, Int.reduceAdd, Int.reduceSub, Int.reduceMul, Nat.reduceLT, Int.reduceLT, Int.reduceLE, Int.reduceToNat, Nat.reduceAdd, Nat.reduceSub, Nat.reduceMul, Nat.reduceLeDiff, reduceCtorEq]))

theorem hless_spec {q : Nat} {c : Int} {l : List Jb} {h0 H : AHeap} (i : HIn q c l h0 H) {a b : Nat} (ha : a < l.length) (hb : b < l.length) : PureA Try.prog 137 [.ptr q 0, .int .i64 (a : Int), .int .i64 (b : Int)] H (.bool (decide (ltJ (atJ l a) (atJ l b)))) := by
  obtain ⟨v, blk, g, w, hq⟩ := i.out
  rw [atJ_eq ha, atJ_eq hb]
  (refine PureA.enter (ac := c137) (rs := r137) Try.func137 rfl (by decide) c137_ok r137_ok ?_; intro Q hQ; simp only [go_sem, Int.reduceEq, Int.reduceAdd, Int.reduceSub, Int.reduceMul, Nat.reduceLT, Int.reduceLT, Int.reduceLE, Int.reduceToNat, Nat.reduceAdd, Nat.reduceSub, Nat.reduceMul, Nat.reduceLeDiff, reduceCtorEq, c137, Try.ntmps137, blk])
  refine g.at w encJ_len ha fun id _ h1 => ?_
  simp only [go_sem, Int.reduceEq, Int.reduceAdd, Int.reduceSub, Int.reduceMul, Nat.reduceLT, Int.reduceLT, Int.reduceLE, Int.reduceToNat, Nat.reduceAdd, Nat.reduceSub, Nat.reduceMul, Nat.reduceLeDiff, reduceCtorEq, h1, blk]
  refine g.at w encJ_len hb fun id2 _ h2 => ?_
  simp only [go_sem, Int.reduceEq, Int.reduceAdd, Int.reduceSub, Int.reduceMul, Nat.reduceLT, Int.reduceLT, Int.reduceLE, Int.reduceToNat, Nat.reduceAdd, Nat.reduceSub, Nat.reduceMul, Nat.reduceLeDiff, reduceCtorEq, h2]
  refine (ahead_spec l[a] l[b] _).use ?_
  simp only [go_sem, Int.reduceEq, Int.reduceAdd, Int.reduceSub, Int.reduceMul, Nat.reduceLT, Int.reduceLT, Int.reduceLE, Int.reduceToNat, Nat.reduceAdd, Nat.reduceSub, Nat.reduceMul, Nat.reduceLeDiff, reduceCtorEq]
  (refine hQ _ _ _ _ _ (by first | exact .inr rfl | exact .inl rfl) rfl (by first | exact FzH.refl _ | exact FzH.sub (by (repeat' (first | exact Sub.refl _ | assumption | (refine Sub.upd ?_ (by first | assumption | (simp only [*]; done) | exact Sub.isNone (by assumption) (by assumption) | exact Sub.isNone (by assumption) (by simp only [*]))))))) (FzL.refl _ _ _) ?_; try (simp only [go_sem, Int.reduceEq, Int.reduceAdd, Int.reduceSub, Int.reduceMul, Nat.reduceLT, Int.reduceLT, Int.reduceLE, Int.reduceToNat, Nat.reduceAdd, Nat.reduceSub, Nat.reduceMul, Nat.reduceLeDiff, reduceCtorEq, aheadI_lt]))

section
variable {α : Type} {enc : α → List AV} {esz : Nat} {h0 : AHeap} {id tot : Nat} {junk : List AV} {l : List α}
theorem own_get (he : ∀ a, (enc a).length = esz) {i : Nat} (hi : i < l.length) : aloads (upd h0 id (.cells (cat enc l ++ junk) tot)) esz (.ptr id (i * esz)) = some (enc l[i]) := by
  have h1 : (l.take i).length = i := by rw [List.length_take]; omega
  have := own_at (enc := enc) (h0 := h0) (id := id) (tot := tot) (junk := junk) he (A := l.take i) (B := l.drop (i + 1)) (x := l[i])
  rw [← List.drop_eq_getElem_cons hi, List.take_append_drop, h1] at this
  exact this
theorem set_cells (he : ∀ a, (enc a).length = esz) {i : Nat} (hi : i < l.length) (y : α) :
    i * esz + esz ≤ (cat enc l ++ junk).length ∧ (cat enc l ++ junk).take (i * esz) ++ enc y ++ (cat enc l ++ junk).drop (i * esz + esz) = cat enc (l.set i y) ++ junk := by
  have h1 : (l.take i).length = i := by rw [List.length_take]; omega
  have hA : (cat enc (l.take i)).length = i * esz := by rw [cat_len he, h1]
  have hl : cat enc l ++ junk = cat enc (l.take i) ++ (enc l[i] ++ (cat enc (l.drop (i + 1)) ++ junk)) := by
    conv => lhs; rw [← List.take_append_drop i l, List.drop_eq_getElem_cons hi]
    rw [cat_append, cat_cons]; simp only [List.append_assoc]
  constructor
  · rw [hl, List.length_append, List.length_append, hA, he]; omega
  · rw [hl, ← hA, List.take_left, ← List.drop_drop, List.drop_left, ← he l[i], List.drop_left, List.set_eq_take_append_cons_drop, if_pos hi, cat_append, cat_cons]
    simp only [List.append_assoc]
end

theorem hswap_spec {q : Nat} {c : Int} {l : List Jb} {h0 H : AHeap} (i : HIn q c l h0 H) {a b : Nat} (ha : a < l.length) (hb : b < l.length) :
    CallsA Try.prog 82 [.ptr q 0, .int .i64 (a : Int), .int .i64 (b : Int)] H (fun r H' => r = .tup [] ∧ HIn q c (swapJ l a b) h0 H') := by
  obtain ⟨v, blk, g, w, hq⟩ := i.out
  rcases g.how with ⟨rfl, e, _⟩ | ⟨rfl, _⟩ | ⟨id, cap, junk, tot, rfl, hcap, hT, hid, rfl⟩
  · omega
  · exact absurd rfl (w _ _ _)
  generalize hB : upd h0 q (.cells [.sl id 0 l.length cap, .int .i64 c] 2) = B at *
  have r1 := own_get (h0 := B) (id := id) (tot := tot) (junk := junk) encJ_len ha
  have r2 := own_get (h0 := B) (id := id) (tot := tot) (junk := junk) encJ_len hb
  obtain ⟨w1, w1'⟩ := set_cells (junk := junk) encJ_len ha l[b]
  obtain ⟨w2, w2'⟩ := set_cells (junk := junk) (l := l.set a l[b]) encJ_len (i := b) (by rw [List.length_set]; exact hb) l[a]
  (refine CallsA.enterR (ac := c82) (rs := r82) Try.func82 rfl (by decide) c82_ok r82_ok ?_; intro Q hQ; simp only [go_sem, Int.reduceEq, Int.reduceAdd, Int.reduceSub, Int.reduceMul, Nat.reduceLT, Int.reduceLT, Int.reduceLE, Int.reduceToNat, Nat.reduceAdd, Nat.reduceSub, Nat.reduceMul, Nat.reduceLeDiff, reduceCtorEq, c82, Try.ntmps82, blk, ha, hb, r1, r2])
  simp only [go_sem, Int.reduceEq, Int.reduceAdd, Int.reduceSub, Int.reduceMul, Nat.reduceLT, Int.reduceLT, Int.reduceLE, Int.reduceToNat, Nat.reduceAdd, Nat.reduceSub, Nat.reduceMul, Nat.reduceLeDiff, reduceCtorEq, encJ_len, encJ_sca, w1, w2, w1', w2']
  refine hQ _ _ _ _ _ _ (.inl rfl) rfl (FzH.refl _) (FzL.refl _ _ _) ⟨rfl, ?_⟩
  have hs : swapJ l a b = (l.set a l[b]).set b l[a] := by unfold swapJ; rw [atJ_eq ha, atJ_eq hb]
  have hsl := swapJ_len l a b
  rw [← hs]
  refine HIn.back (v := .sl id 0 l.length cap) hq ?_ Wr.sl
  rw [hB]
  exact ⟨by rw [cat_len encJ_len], cat_sca encJ_sca _, .inr (.inr ⟨id, cap, junk, tot, by rw [hsl], by omega, hT, hid, rfl⟩)⟩

theorem hrise_spec {q : Nat} {c : Int} {l : List Jb} {h0 H : AHeap} (i : HIn q c l h0 H) {a : Nat} (ha : a < l.length) (hn : l.length ≤ 1000000) (hr : HpR l a) :
    CallsA Try.prog 84 [.ptr q 0, .int .i64 (a : Int)] H (fun r H' => r = .tup [] ∧ ∃ l', l'.Perm l ∧ Hp l' ∧ HIn q c l' h0 H') := by
  (refine CallsA.enterR (ac := c84) (rs := r84) Try.func84 rfl (by decide) c84_ok r84_ok ?_; intro Q hQ; simp only [go_sem, Int.reduceEq, Int.reduceAdd, Int.reduceSub, Int.reduceMul, Nat.reduceLT, Int.reduceLT, Int.reduceLE, Int.reduceToNat, Nat.reduceAdd, Nat.reduceSub, Nat.reduceMul, Nat.reduceLeDiff, reduceCtorEq, c84, Try.ntmps84])
  refine loop_st d84_0 (fun x : Nat × List Jb => x.1) (fun x s => s.set 1 (.int .i64 (x.1 : Int))) (fun x H => x.2.Perm l ∧ x.1 < x.2.length ∧ HpR x.2 x.1 ∧ HIn q c x.2 h0 H) (a, l) ?_ ⟨List.Perm.refl _, ha, hr, i⟩ ?_
  · (simp only [go_sem, Int.reduceEq, Int.reduceAdd, Int.reduceSub, Int.reduceMul, Nat.reduceLT, Int.reduceLT, Int.reduceLE, Int.reduceToNat, Nat.reduceAdd, Nat.reduceSub, Nat.reduceMul, Nat.reduceLeDiff, reduceCtorEq, d84_0] <;> rfl)
  rintro N ⟨k, m⟩ H1 ⟨hp, hk, hr1, i1⟩ hN
  simp only at hp hk hr1 i1 hN
  simp only [go_sem, Int.reduceEq, Int.reduceAdd, Int.reduceSub, Int.reduceMul, Nat.reduceLT, Int.reduceLT, Int.reduceLE, Int.reduceToNat, Nat.reduceAdd, Nat.reduceSub, Nat.reduceMul, Nat.reduceLeDiff, reduceCtorEq, d84_0]
  have hml := hp.length_eq
  by_cases h0k : 0 < k
  · have e1 : IntKind.i64.wrap ((k : Int) - 1) = ((k - 1 : Nat) : Int) := by rw [w64 (by omega) (by omega)]; omega
    have e2 : ((k - 1 : Nat) : Int).tdiv 2 = (((k - 1) / 2 : Nat) : Int) := by rw [Int.tdiv_eq_ediv_of_nonneg (by omega)]; omega
    have e3 : IntKind.i64.wrap (((k - 1) / 2 : Nat) : Int) = (((k - 1) / 2 : Nat) : Int) := w64 (by omega) (by omega)
    have h0k' : decide ((0 : Int) < (k : Int)) = true := decide_eq_true (by omega)
    have hpar : (k - 1) / 2 < m.length := by omega
    simp only [go_sem, Int.reduceEq, Int.reduceAdd, Int.reduceSub, Int.reduceMul, Nat.reduceLT, Int.reduceLT, Int.reduceLE, Int.reduceToNat, Nat.reduceAdd, Nat.reduceSub, Nat.reduceMul, Nat.reduceLeDiff, reduceCtorEq, h0k', e1, binA, e2, e3, show ((2 : Int) == 0) = false from rfl]
    refine (hless_spec i1 hk hpar).use ?_
    cases hl : decide (ltJ (atJ m k) (atJ m ((k - 1) / 2)))
    · simp only [go_sem, Int.reduceEq, Int.reduceAdd, Int.reduceSub, Int.reduceMul, Nat.reduceLT, Int.reduceLT, Int.reduceLE, Int.reduceToNat, Nat.reduceAdd, Nat.reduceSub, Nat.reduceMul, Nat.reduceLeDiff, reduceCtorEq]
      refine frz_id ?_
      refine hQ _ _ _ _ _ _ (.inl rfl) rfl (FzH.refl _) (FzL.refl _ _ _) ⟨rfl, m, hp, hr1.done (fun g => of_decide_eq_false hl g.2), i1⟩
    · simp only [go_sem, Int.reduceEq, Int.reduceAdd, Int.reduceSub, Int.reduceMul, Nat.reduceLT, Int.reduceLT, Int.reduceLE, Int.reduceToNat, Nat.reduceAdd, Nat.reduceSub, Nat.reduceMul, Nat.reduceLeDiff, reduceCtorEq, e1, binA, e2, e3, show ((2 : Int) == 0) = false from rfl]
      refine (hswap_spec i1 hk hpar).use ?_
      rintro _ H2 ⟨rfl, i2⟩
      simp only [go_sem, Int.reduceEq, Int.reduceAdd, Int.reduceSub, Int.reduceMul, Nat.reduceLT, Int.reduceLT, Int.reduceLE, Int.reduceToNat, Nat.reduceAdd, Nat.reduceSub, Nat.reduceMul, Nat.reduceLeDiff, reduceCtorEq, e1, binA, e2, e3, show ((2 : Int) == 0) = false from rfl]
      refine hN ((k - 1) / 2, swapJ m k ((k - 1) / 2)) _ _ (by simp only; omega) ?_ ⟨(swapJ_perm hk hpar).trans hp, by rw [swapJ_len]; exact hpar, hr1.step hk h0k (of_decide_eq_true hl), i2⟩
      simp only [go_sem, Int.reduceEq, Int.reduceAdd, Int.reduceSub, Int.reduceMul, Nat.reduceLT, Int.reduceLT, Int.reduceLE, Int.reduceToNat, Nat.reduceAdd, Nat.reduceSub, Nat.reduceMul, Nat.reduceLeDiff, reduceCtorEq, d84_0]
  · have h0k' : decide ((0 : Int) < (k : Int)) = false := decide_eq_false (by omega)
    simp only [go_sem, Int.reduceEq, Int.reduceAdd, Int.reduceSub, Int.reduceMul, Nat.reduceLT, Int.reduceLT, Int.reduceLE, Int.reduceToNat, Nat.reduceAdd, Nat.reduceSub, Nat.reduceMul, Nat.reduceLeDiff, reduceCtorEq, h0k']
    refine frz_id ?_
    refine hQ _ _ _ _ _ _ (.inl rfl) rfl (FzH.refl _) (FzL.refl _ _ _) ⟨rfl, m, hp, hr1.done (fun g => h0k g.1), i1⟩

theorem hsink1_spec {q : Nat} {c : Int} {l : List Jb} {h0 H : AHeap} (i : HIn q c l h0 H) {a : Nat} (ha : a < l.length) (hn : l.length ≤ 1000000) :
    CallsA Try.prog 136 [.int .i64 (a : Int), .rp [.ptr q 0]] H (fun r H' => H' = H ∧ ∃ b : Nat, r = .int .i64 (b : Int) ∧ b < l.length ∧ (b = a ∨ (0 < b ∧ (b - 1) / 2 = a ∧ ltJ (atJ l b) (atJ l a))) ∧ ∀ k, 0 < k → k < l.length → (k - 1) / 2 = a → ¬ ltJ (atJ l k) (atJ l b)) := by
  obtain ⟨v, blk, g, w, hq⟩ := i.out
  have hlen := g.len
  have e1 : IntKind.i64.wrap (2 * (a : Int)) = ((2 * a : Nat) : Int) := by rw [w64 (by omega) (by omega)]; omega
  have e2 := wadd1 (k := 2 * a) (by omega)
  have e3 : IntKind.i64.wrap (((2 * a : Nat) : Int) + 2) = ((2 * a + 2 : Nat) : Int) := by rw [w64 (by omega) (by omega)]; omega
  (refine CallsA.enterR (ac := c136) (rs := r136) Try.func136 rfl (by decide) c136_ok r136_ok ?_; intro Q hQ; simp only [go_sem, Int.reduceEq, Int.reduceAdd, Int.reduceSub, Int.reduceMul, Nat.reduceLT, Int.reduceLT, Int.reduceLE, Int.reduceToNat, Nat.reduceAdd, Nat.reduceSub, Nat.reduceMul, Nat.reduceLeDiff, reduceCtorEq, c136, Try.ntmps136, e1, e2])
  refine loop_st d136_0 (fun x : Nat × Nat => 2 * a + 3 - x.1) (fun x s => (s.set 5 (.int .i64 (x.1 : Int))).set 4 (.int .i64 (x.2 : Int))) (fun x H' => H' = H ∧ 2 * a + 1 ≤ x.1 ∧ x.1 ≤ 2 * a + 3 ∧ x.2 < l.length ∧ (x.2 = a ∨ (0 < x.2 ∧ (x.2 - 1) / 2 = a ∧ ltJ (atJ l x.2) (atJ l a))) ∧ ∀ k, 0 < k → k < l.length → k < x.1 → (k - 1) / 2 = a → ¬ ltJ (atJ l k) (atJ l x.2)) (2 * a + 1, a) ?_ ⟨rfl, Nat.le_refl _, by omega, ha, .inl rfl, fun k k0 _ hk hka => by omega⟩ ?_
  · (simp only [go_sem, Int.reduceEq, Int.reduceAdd, Int.reduceSub, Int.reduceMul, Nat.reduceLT, Int.reduceLT, Int.reduceLE, Int.reduceToNat, Nat.reduceAdd, Nat.reduceSub, Nat.reduceMul, Nat.reduceLeDiff, reduceCtorEq, d136_0] <;> rfl)
  rintro N ⟨k, b⟩ H1 ⟨eH, hk1, hk2, hb, hb2, hall⟩ hN
  simp only at hk1 hk2 hb hb2 hall hN
  rw [eH]
  simp only [go_sem, Int.reduceEq, Int.reduceAdd, Int.reduceSub, Int.reduceMul, Nat.reduceLT, Int.reduceLT, Int.reduceLE, Int.reduceToNat, Nat.reduceAdd, Nat.reduceSub, Nat.reduceMul, Nat.reduceLeDiff, reduceCtorEq, d136_0, e1, e3]
  have hadd := wadd1 (k := k) (by omega)
  by_cases c1 : k ≤ 2 * a + 2
  · by_cases c2 : k < l.length
    · simp only [go_sem, Int.reduceEq, Int.reduceAdd, Int.reduceSub, Int.reduceMul, Nat.reduceLT, Int.reduceLT, Int.reduceLE, Int.reduceToNat, Nat.reduceAdd, Nat.reduceSub, Nat.reduceMul, Nat.reduceLeDiff, reduceCtorEq, c1, blk, hlen, c2]
      refine (hless_spec i c2 hb).use ?_
      have hk0 : 0 < k := by omega
      have hka : (k - 1) / 2 = a := by omega
      cases hl : decide (ltJ (atJ l k) (atJ l b))
      · have hl' := of_decide_eq_false hl
        simp only [go_sem, Int.reduceEq, Int.reduceAdd, Int.reduceSub, Int.reduceMul, Nat.reduceLT, Int.reduceLT, Int.reduceLE, Int.reduceToNat, Nat.reduceAdd, Nat.reduceSub, Nat.reduceMul, Nat.reduceLeDiff, reduceCtorEq, hadd]
        refine hN (k + 1, b) _ _ (by simp only; omega) ?_ ⟨rfl, by simp only; omega, by simp only; omega, hb, hb2, fun m m0 hm hmk hma => ?_⟩
        · simp only [go_sem, Int.reduceEq, Int.reduceAdd, Int.reduceSub, Int.reduceMul, Nat.reduceLT, Int.reduceLT, Int.reduceLE, Int.reduceToNat, Nat.reduceAdd, Nat.reduceSub, Nat.reduceMul, Nat.reduceLeDiff, reduceCtorEq, d136_0]
        · by_cases e : m = k
          · subst e; exact hl'
          · exact hall m m0 hm (by simp only at hmk; omega) hma
      · have hl' := of_decide_eq_true hl
        simp only [go_sem, Int.reduceEq, Int.reduceAdd, Int.reduceSub, Int.reduceMul, Nat.reduceLT, Int.reduceLT, Int.reduceLE, Int.reduceToNat, Nat.reduceAdd, Nat.reduceSub, Nat.reduceMul, Nat.reduceLeDiff, reduceCtorEq, hadd]
        refine hN (k + 1, k) _ _ (by simp only; omega) ?_ ⟨rfl, by simp only; omega, by simp only; omega, c2, .inr ⟨hk0, hka, ?_⟩, fun m m0 hm hmk hma => ?_⟩
        · simp only [go_sem, Int.reduceEq, Int.reduceAdd, Int.reduceSub, Int.reduceMul, Nat.reduceLT, Int.reduceLT, Int.reduceLE, Int.reduceToNat, Nat.reduceAdd, Nat.reduceSub, Nat.reduceMul, Nat.reduceLeDiff, reduceCtorEq, d136_0]
        · rcases hb2 with e | ⟨_, _, e⟩
          · rw [e] at hl'; exact hl'
          · exact ltJ_trans hl' e
        · by_cases e : m = k
          · subst e; exact ltJ_irr _
          · exact fun g => hall m m0 hm (by simp only at hmk; omega) hma (ltJ_trans g hl')
    · simp only [go_sem, Int.reduceEq, Int.reduceAdd, Int.reduceSub, Int.reduceMul, Nat.reduceLT, Int.reduceLT, Int.reduceLE, Int.reduceToNat, Nat.reduceAdd, Nat.reduceSub, Nat.reduceMul, Nat.reduceLeDiff, reduceCtorEq, c1, blk, hlen, c2]
      refine frz_id ?_
      simp only [go_sem, Int.reduceEq, Int.reduceAdd, Int.reduceSub, Int.reduceMul, Nat.reduceLT, Int.reduceLT, Int.reduceLE, Int.reduceToNat, Nat.reduceAdd, Nat.reduceSub, Nat.reduceMul, Nat.reduceLeDiff, reduceCtorEq]
      refine hQ _ _ _ _ _ _ (.inr rfl) rfl (FzH.refl _) (FzL.refl _ _ _) ⟨rfl, b, rfl, hb, hb2, fun m m0 hm hma => hall m m0 hm (by omega) hma⟩
  · simp only [go_sem, Int.reduceEq, Int.reduceAdd, Int.reduceSub, Int.reduceMul, Nat.reduceLT, Int.reduceLT, Int.reduceLE, Int.reduceToNat, Nat.reduceAdd, Nat.reduceSub, Nat.reduceMul, Nat.reduceLeDiff, reduceCtorEq, c1]
    refine frz_id ?_
    simp only [go_sem, Int.reduceEq, Int.reduceAdd, Int.reduceSub, Int.reduceMul, Nat.reduceLT, Int.reduceLT, Int.reduceLE, Int.reduceToNat, Nat.reduceAdd, Nat.reduceSub, Nat.reduceMul, Nat.reduceLeDiff, reduceCtorEq]
    refine hQ _ _ _ _ _ _ (.inr rfl) rfl (FzH.refl _) (FzL.refl _ _ _) ⟨rfl, b, rfl, hb, hb2, fun m m0 hm hma => hall m m0 hm (by omega) hma⟩

theorem hsink_spec {q : Nat} {c : Int} {l : List Jb} {h0 H : AHeap} (i : HIn q c l h0 H) {a : Nat} (ha : a < l.length) (hn : l.length ≤ 1000000) (hr : HpS l a) :
    CallsA Try.prog 83 [.ptr q 0, .int .i64 (a : Int)] H (fun r H' => r = .tup [] ∧ ∃ l', l'.Perm l ∧ Hp l' ∧ HIn q c l' h0 H') := by
  (refine CallsA.enterR (ac := c83) (rs := r83) Try.func83 rfl (by decide) c83_ok r83_ok ?_; intro Q hQ; simp only [go_sem, Int.reduceEq, Int.reduceAdd, Int.reduceSub, Int.reduceMul, Nat.reduceLT, Int.reduceLT, Int.reduceLE, Int.reduceToNat, Nat.reduceAdd, Nat.reduceSub, Nat.reduceMul, Nat.reduceLeDiff, reduceCtorEq, c83, Try.ntmps83])
  refine (hsink1_spec i ha hn).use ?_
  rintro _ H1 ⟨eH, b, rfl, hb, hb2, hall⟩
  rw [eH]
  simp only [go_sem, Int.reduceEq, Int.reduceAdd, Int.reduceSub, Int.reduceMul, Nat.reduceLT, Int.reduceLT, Int.reduceLE, Int.reduceToNat, Nat.reduceAdd, Nat.reduceSub, Nat.reduceMul, Nat.reduceLeDiff, reduceCtorEq]
  refine loop_st d83_0 (fun x : Nat × Nat × List Jb => l.length - x.1) (fun x s => (s.set 1 (.int .i64 (x.1 : Int))).set 5 (.int .i64 (x.2.1 : Int)))
    (fun x H => x.2.2.Perm l ∧ x.1 < x.2.2.length ∧ x.2.1 < x.2.2.length ∧ HpS x.2.2 x.1 ∧ (x.2.1 = x.1 ∨ (0 < x.2.1 ∧ (x.2.1 - 1) / 2 = x.1 ∧ ltJ (atJ x.2.2 x.2.1) (atJ x.2.2 x.1))) ∧ (∀ k, 0 < k → k < x.2.2.length → (k - 1) / 2 = x.1 → ¬ ltJ (atJ x.2.2 k) (atJ x.2.2 x.2.1)) ∧ HIn q c x.2.2 h0 H) (a, b, l) ?_ ⟨List.Perm.refl _, ha, hb, hr, hb2, hall, i⟩ ?_
  · (simp only [go_sem, Int.reduceEq, Int.reduceAdd, Int.reduceSub, Int.reduceMul, Nat.reduceLT, Int.reduceLT, Int.reduceLE, Int.reduceToNat, Nat.reduceAdd, Nat.reduceSub, Nat.reduceMul, Nat.reduceLeDiff, reduceCtorEq, d83_0] <;> rfl)
  rintro N ⟨k, j, m⟩ H2 ⟨hp, hk, hj, hr1, hj2, hm, i1⟩ hN
  simp only at hp hk hj hr1 hj2 hm i1 hN
  simp only [go_sem, Int.reduceEq, Int.reduceAdd, Int.reduceSub, Int.reduceMul, Nat.reduceLT, Int.reduceLT, Int.reduceLE, Int.reduceToNat, Nat.reduceAdd, Nat.reduceSub, Nat.reduceMul, Nat.reduceLeDiff, reduceCtorEq, d83_0]
  have hml := hp.length_eq
  by_cases e : j = k
  · have e' : decide (j = k) = true := decide_eq_true e
    simp only [go_sem, Int.reduceEq, Int.reduceAdd, Int.reduceSub, Int.reduceMul, Nat.reduceLT, Int.reduceLT, Int.reduceLE, Int.reduceToNat, Nat.reduceAdd, Nat.reduceSub, Nat.reduceMul, Nat.reduceLeDiff, reduceCtorEq, e']
    refine frz_id ?_
    refine hQ _ _ _ _ _ _ (.inl rfl) rfl (FzH.refl _) (FzL.refl _ _ _) ⟨rfl, m, hp, hr1.done (fun k2 k0 hk2 hp2 => by have := hm k2 k0 hk2 hp2; rw [e] at this; exact this), i1⟩
  · have e' : decide (j = k) = false := decide_eq_false e
    obtain ⟨j0, jp, jl⟩ := hj2.resolve_left e
    simp only [go_sem, Int.reduceEq, Int.reduceAdd, Int.reduceSub, Int.reduceMul, Nat.reduceLT, Int.reduceLT, Int.reduceLE, Int.reduceToNat, Nat.reduceAdd, Nat.reduceSub, Nat.reduceMul, Nat.reduceLeDiff, reduceCtorEq, e']
    refine (hswap_spec i1 hk hj).use ?_
    rintro _ H3 ⟨rfl, i3⟩
    have hs := hr1.step hj jp j0 jl hm
    have hsl := swapJ_len m k j
    simp only [go_sem, Int.reduceEq, Int.reduceAdd, Int.reduceSub, Int.reduceMul, Nat.reduceLT, Int.reduceLT, Int.reduceLE, Int.reduceToNat, Nat.reduceAdd, Nat.reduceSub, Nat.reduceMul, Nat.reduceLeDiff, reduceCtorEq]
    refine (hsink1_spec i3 (a := j) (by rw [hsl]; exact hj) (by omega)).use ?_
    rintro _ H4 ⟨eH4, b4, rfl, g1, g2, g3⟩
    rw [eH4]
    simp only [go_sem, Int.reduceEq, Int.reduceAdd, Int.reduceSub, Int.reduceMul, Nat.reduceLT, Int.reduceLT, Int.reduceLE, Int.reduceToNat, Nat.reduceAdd, Nat.reduceSub, Nat.reduceMul, Nat.reduceLeDiff, reduceCtorEq]
    refine hN (j, b4, swapJ m k j) _ _ (by simp only; omega) ?_ ⟨(swapJ_perm hk hj).trans hp, by rw [hsl]; exact hj, g1, hs, g2, g3, i3⟩
    simp only [go_sem, Int.reduceEq, Int.reduceAdd, Int.reduceSub, Int.reduceMul, Nat.reduceLT, Int.reduceLT, Int.reduceLE, Int.reduceToNat, Nat.reduceAdd, Nat.reduceSub, Nat.reduceMul, Nat.reduceLeDiff, reduceCtorEq, d83_0]

theorem hsink_nil {q : Nat} {c : Int} {h0 H : AHeap} (i : HIn q c [] h0 H) : CallsA Try.prog 83 [.ptr q 0, .int .i64 0] H (fun r H' => r = .tup [] ∧ H' = H) := by
  obtain ⟨v, blk, g, w, hq⟩ := i.out
  have hlen := g.len
  have s1 : CallsA Try.prog 136 [.int .i64 0, .rp [.ptr q 0]] H (fun r H' => H' = H ∧ r = .int .i64 0) := by
    (refine CallsA.enterR (ac := c136) (rs := r136) Try.func136 rfl (by decide) c136_ok r136_ok ?_; intro Q hQ; simp only [go_sem, Int.reduceEq, Int.reduceAdd, Int.reduceSub, Int.reduceMul, Nat.reduceLT, Int.reduceLT, Int.reduceLE, Int.reduceToNat, Nat.reduceAdd, Nat.reduceSub, Nat.reduceMul, Nat.reduceLeDiff, reduceCtorEq, c136, Try.ntmps136])
    refine loop_st d136_0 (fun _ : Unit => 0) (fun _ s => (s.set 5 (.int .i64 1)).set 4 (.int .i64 0)) (fun _ H' => H' = H) () ?_ rfl ?_
    · (simp only [go_sem, Int.reduceEq, Int.reduceAdd, Int.reduceSub, Int.reduceMul, Nat.reduceLT, Int.reduceLT, Int.reduceLE, Int.reduceToNat, Nat.reduceAdd, Nat.reduceSub, Nat.reduceMul, Nat.reduceLeDiff, reduceCtorEq, d136_0] <;> rfl)
    rintro N _ H1 eH hN
    rw [eH]
    simp only [go_sem, Int.reduceEq, Int.reduceAdd, Int.reduceSub, Int.reduceMul, Nat.reduceLT, Int.reduceLT, Int.reduceLE, Int.reduceToNat, Nat.reduceAdd, Nat.reduceSub, Nat.reduceMul, Nat.reduceLeDiff, reduceCtorEq, d136_0, blk, hlen, List.length_nil]
    refine frz_id ?_
    simp only [go_sem, Int.reduceEq, Int.reduceAdd, Int.reduceSub, Int.reduceMul, Nat.reduceLT, Int.reduceLT, Int.reduceLE, Int.reduceToNat, Nat.reduceAdd, Nat.reduceSub, Nat.reduceMul, Nat.reduceLeDiff, reduceCtorEq]
    refine hQ _ _ _ _ _ _ (.inr rfl) rfl (FzH.refl _) (FzL.refl _ _ _) ⟨rfl, rfl⟩
  (refine CallsA.enterR (ac := c83) (rs := r83) Try.func83 rfl (by decide) c83_ok r83_ok ?_; intro Q hQ; simp only [go_sem, Int.reduceEq, Int.reduceAdd, Int.reduceSub, Int.reduceMul, Nat.reduceLT, Int.reduceLT, Int.reduceLE, Int.reduceToNat, Nat.reduceAdd, Nat.reduceSub, Nat.reduceMul, Nat.reduceLeDiff, reduceCtorEq, c83, Try.ntmps83])
  refine s1.use ?_
  rintro _ H1 ⟨eH, rfl⟩
  rw [eH]
  simp only [go_sem, Int.reduceEq, Int.reduceAdd, Int.reduceSub, Int.reduceMul, Nat.reduceLT, Int.reduceLT, Int.reduceLE, Int.reduceToNat, Nat.reduceAdd, Nat.reduceSub, Nat.reduceMul, Nat.reduceLeDiff, reduceCtorEq]
  refine loop_st d83_0 (fun _ : Unit => 0) (fun _ s => (s.set 1 (.int .i64 0)).set 5 (.int .i64 0)) (fun _ H' => H' = H) () ?_ rfl ?_
  · (simp only [go_sem, Int.reduceEq, Int.reduceAdd, Int.reduceSub, Int.reduceMul, Nat.reduceLT, Int.reduceLT, Int.reduceLE, Int.reduceToNat, Nat.reduceAdd, Nat.reduceSub, Nat.reduceMul, Nat.reduceLeDiff, reduceCtorEq, d83_0] <;> rfl)
  rintro N _ H2 eH2 hN
  rw [eH2]
  simp only [go_sem, Int.reduceEq, Int.reduceAdd, Int.reduceSub, Int.reduceMul, Nat.reduceLT, Int.reduceLT, Int.reduceLE, Int.reduceToNat, Nat.reduceAdd, Nat.reduceSub, Nat.reduceMul, Nat.reduceLeDiff, reduceCtorEq, d83_0]
  refine frz_id ?_
  refine hQ _ _ _ _ _ _ (.inl rfl) rfl (FzH.refl _) (FzL.refl _ _ _) ⟨rfl, rfl⟩

theorem cutTo {α : Type} {enc : α → List AV} {esz : Nat} (he : ∀ a, (enc a).length = esz) (hs : ∀ a, (enc a).all scalar = true) {l : List α} {v : AV} {B H : AHeap} (g : Grow B esz v (cat enc l) l.length H) (w : Wr v) {m : Nat} (hm : m ≤ l.length) :
    ∃ v', sliceA esz v none (some (.int .i64 (m : Int))) none = some v' ∧ Grow B esz v' (cat enc (l.take m)) (l.take m).length H ∧ Wr v' := by
  have hl : (l.take m).length = m := by rw [List.length_take]; omega
  rcases g.how with ⟨rfl, e, rfl⟩ | ⟨rfl, _⟩ | ⟨id, cap, junk, tot, rfl, hcap, hT, hid, rfl⟩
  · have hm0 : m = 0 := by omega
    subst hm0
    exact ⟨.nils, rfl, Grow.nil, Wr.nils⟩
  · exact absurd rfl (w _ _ _)
  · refine ⟨_, own_hi (by omega), ⟨cat_len he _, cat_sca hs _, .inr (.inr ⟨id, cap, cat enc (l.drop m) ++ junk, tot, by rw [hl], by omega, hT, hid, ?_⟩)⟩, Wr.sl⟩
    rw [← List.append_assoc, ← cat_append, List.take_append_drop]

theorem hAdd_spec {q : Nat} {c : Int} {l : List Jb} {h0 H : AHeap} (i : HIn q c l h0 H) (hn : l.length ≤ 900000) (hc : 0 ≤ c ∧ c ≤ 1000000) (hh : Hp l) (node rank : Int) :
    CallsA Try.prog 28 [.ptr q 0, .int .i64 node, .int .i64 rank] H (fun r H' => r = .tup [] ∧ ∃ l', l'.Perm (⟨rank, node, c⟩ :: l) ∧ Hp l' ∧ HIn q (c + 1) l' h0 H') := by
  obtain ⟨v, blk, g, w, hq⟩ := i.out
  have w1 := w64 (n := c + 1) (by omega) (by omega)
  (refine CallsA.enterR (ac := c28) (rs := r28) Try.func28 rfl (by decide) c28_ok r28_ok ?_; intro Q hQ; simp only [go_sem, Int.reduceEq, Int.reduceAdd, Int.reduceSub, Int.reduceMul, Nat.reduceLT, Int.reduceLT, Int.reduceLE, Int.reduceToNat, Nat.reduceAdd, Nat.reduceSub, Nat.reduceMul, Nat.reduceLeDiff, reduceCtorEq, c28, Try.ntmps28, blk])
  refine g.add1W (x := encJ ⟨rank, node, c⟩) rfl rfl (by omega) fun v' H3 g3 w3 => ?_
  have e : cat encJ l ++ encJ ⟨rank, node, c⟩ = cat encJ (l ++ [⟨rank, node, c⟩]) := by rw [cat_append]; simp [cat]
  rw [e] at g3
  have hl1 : (l ++ [(⟨rank, node, c⟩ : Jb)]).length = l.length + 1 := by simp
  rw [← hl1] at g3
  have hlen := g3.len
  have i3 := HIn.of (c := c + 1) hq g3 w3
  have w2 : IntKind.i64.wrap (((l ++ [(⟨rank, node, c⟩ : Jb)]).length : Int) - 1) = (l.length : Int) := by rw [hl1, w64 (by omega) (by omega)]; omega
  simp only [go_sem, Int.reduceEq, Int.reduceAdd, Int.reduceSub, Int.reduceMul, Nat.reduceLT, Int.reduceLT, Int.reduceLE, Int.reduceToNat, Nat.reduceAdd, Nat.reduceSub, Nat.reduceMul, Nat.reduceLeDiff, reduceCtorEq, g3.box.1, g3.box.2, g3.keep upd_same, w1, hlen, w2]
  refine (hrise_spec i3 (a := l.length) (by rw [hl1]; omega) (by rw [hl1]; omega) (hh.push _)).use ?_
  rintro _ H4 ⟨rfl, l4, p4, h4, i4⟩
  simp only [go_sem, Int.reduceEq, Int.reduceAdd, Int.reduceSub, Int.reduceMul, Nat.reduceLT, Int.reduceLT, Int.reduceLE, Int.reduceToNat, Nat.reduceAdd, Nat.reduceSub, Nat.reduceMul, Nat.reduceLeDiff, reduceCtorEq]
  refine hQ _ _ _ _ _ _ (.inl rfl) rfl (FzH.refl _) (FzL.refl _ _ _) ⟨rfl, l4, p4.trans List.perm_append_comm, h4, i4⟩

theorem hTake_spec {q : Nat} {c : Int} {l : List Jb} {h0 H : AHeap} (i : HIn q c l h0 H) (hn : l.length ≤ 900000) (hh : Hp l) :
    CallsA Try.prog 26 [.ptr q 0] H (fun r H' => (l = [] ∧ r = .tup [.int .i64 0, .int .i64 0, .bool false] ∧ H' = H) ∨ ∃ x l', r = .tup [.int .i64 x.node, .int .i64 x.rank, .bool true] ∧ l.Perm (x :: l') ∧ (∀ y ∈ l, ¬ ltJ y x) ∧ Hp l' ∧ HIn q c l' h0 H') := by
  obtain ⟨v, blk, g, w, hq⟩ := i.out
  have hlen := g.len
  (refine CallsA.enterR (ac := c26) (rs := r26) Try.func26 rfl (by decide) c26_ok r26_ok ?_; intro Q hQ; simp only [go_sem, Int.reduceEq, Int.reduceAdd, Int.reduceSub, Int.reduceMul, Nat.reduceLT, Int.reduceLT, Int.reduceLE, Int.reduceToNat, Nat.reduceAdd, Nat.reduceSub, Nat.reduceMul, Nat.reduceLeDiff, reduceCtorEq, c26, Try.ntmps26])
  refine (hLen_spec i).use ?_
  by_cases hl : l = []
  · subst hl
    simp only [go_sem, Int.reduceEq, Int.reduceAdd, Int.reduceSub, Int.reduceMul, Nat.reduceLT, Int.reduceLT, Int.reduceLE, Int.reduceToNat, Nat.reduceAdd, Nat.reduceSub, Nat.reduceMul, Nat.reduceLeDiff, reduceCtorEq, List.length_nil]
    refine hQ _ _ _ _ _ _ (.inr rfl) rfl (FzH.refl _) (FzL.refl _ _ _) (.inl ⟨rfl, rfl, rfl⟩)
  · have hl0 : 0 < l.length := List.length_pos_iff.2 hl
    have hne : decide ((l.length : Int) = 0) = false := decide_eq_false (by omega)
    have hat0 := atJ_eq hl0
    simp only [go_sem, Int.reduceEq, Int.reduceAdd, Int.reduceSub, Int.reduceMul, Nat.reduceLT, Int.reduceLT, Int.reduceLE, Int.reduceToNat, Nat.reduceAdd, Nat.reduceSub, Nat.reduceMul, Nat.reduceLeDiff, reduceCtorEq, hne, blk]
    refine g.at (i := 0) w encJ_len hl0 fun id _ h1 => ?_
    simp only [go_sem, Int.reduceEq, Int.reduceAdd, Int.reduceSub, Int.reduceMul, Nat.reduceLT, Int.reduceLT, Int.reduceLE, Int.reduceToNat, Nat.reduceAdd, Nat.reduceSub, Nat.reduceMul, Nat.reduceLeDiff, reduceCtorEq, h1, encJ_len, encJ_sca]
    intro p hp
    have w1 : IntKind.i64.wrap ((l.length : Int) - 1) = ((l.length - 1 : Nat) : Int) := by rw [w64 (by omega) (by omega)]; omega
    simp only [go_sem, Int.reduceEq, Int.reduceAdd, Int.reduceSub, Int.reduceMul, Nat.reduceLT, Int.reduceLT, Int.reduceLE, Int.reduceToNat, Nat.reduceAdd, Nat.reduceSub, Nat.reduceMul, Nat.reduceLeDiff, reduceCtorEq, del_none hp, del_same, blk, hlen, w1, encJ_len]
    refine (hswap_spec i (a := 0) (b := l.length - 1) hl0 (by omega)).use ?_
    rintro _ H2 ⟨rfl, i2⟩
    obtain ⟨v2, blk2, g2, w2, _⟩ := i2.out
    obtain ⟨v3, s3, g3, w3⟩ := cutTo encJ_len encJ_sca g2 w2 (m := l.length - 1) (by rw [swapJ_len]; omega)
    have hpop : (swapJ l 0 (l.length - 1)).take (l.length - 1) = popJ l := rfl
    rw [hpop] at g3
    have i3 := HIn.of (c := c) hq g3 w3
    simp only [go_sem, Int.reduceEq, Int.reduceAdd, Int.reduceSub, Int.reduceMul, Nat.reduceLT, Int.reduceLT, Int.reduceLE, Int.reduceToNat, Nat.reduceAdd, Nat.reduceSub, Nat.reduceMul, Nat.reduceLeDiff, reduceCtorEq, blk2, s3, g3.box.1, g3.box.2]
    have hperm := popJ_perm hl0
    rw [hat0] at hperm
    have hmin : ∀ y ∈ l, ¬ ltJ y l[0] := fun y hy => by
      obtain ⟨k, hk, rfl⟩ := List.mem_iff_getElem.1 hy
      have := hh.least k hk
      rw [atJ_eq hk, hat0] at this; exact this
    by_cases hp0 : popJ l = []
    · rw [hp0] at i3 hperm
      refine (hsink_nil i3).use ?_
      rintro _ H4 ⟨rfl, e4⟩
      rw [e4]
      simp only [go_sem, Int.reduceEq, Int.reduceAdd, Int.reduceSub, Int.reduceMul, Nat.reduceLT, Int.reduceLT, Int.reduceLE, Int.reduceToNat, Nat.reduceAdd, Nat.reduceSub, Nat.reduceMul, Nat.reduceLeDiff, reduceCtorEq, encJ]
      refine hQ _ _ _ _ _ _ (.inr rfl) rfl (FzH.refl _) (FzL.refl _ _ _) (.inr ⟨l[0], [], rfl, hperm, hmin, fun k _ hk => by simp at hk, i3⟩)
    · refine (hsink_spec i3 (a := 0) (List.length_pos_iff.2 hp0) (by rw [popJ_len]; omega) (hh.pop hl0)).use ?_
      rintro _ H4 ⟨rfl, l4, p4, hh4, i4⟩
      simp only [go_sem, Int.reduceEq, Int.reduceAdd, Int.reduceSub, Int.reduceMul, Nat.reduceLT, Int.reduceLT, Int.reduceLE, Int.reduceToNat, Nat.reduceAdd, Nat.reduceSub, Nat.reduceMul, Nat.reduceLeDiff, reduceCtorEq, encJ]
      refine hQ _ _ _ _ _ _ (.inr rfl) rfl (FzH.refl _) (FzL.refl _ _ _) (.inr ⟨l[0], l4, rfl, hperm.trans (p4.symm.cons _), hmin, hh4, i4⟩)

end Go.Proofs.Ytaeppifdbcoipaa
