/-
  The queue: QueueOrders on abstract values.
-/
import Derived.Test.YtfgapneenpdnoaaQc
namespace Go.Proofs.Ytfgapneenpdnoaa
open Go E
set_option linter.unusedVariables false
set_option linter.unusedSimpArgs false
set_option maxRecDepth 100000

/-! ### The plain law -/

structure OkQ (n k : Nat) (st : Int × List It) : Prop where
  up : st.2.Pairwise fun x y => x.to < y.to
  all : ∀ x ∈ st.2, 0 ≤ x.to ∧ x.to < k ∧ (x.cl = 0 ∨ x.cl = 1)
  len : st.2.length = min k n
  sum : st.1 + st.2.length = k
  d0 : 0 ≤ st.1

theorem cutI_sub (l : List It) (i : Nat) : (cutI l i).Sublist l := by
  unfold cutI
  have h1 : (l.drop (i + 1)).Sublist (l.drop i) := by
    rw [← List.drop_drop]; exact List.drop_sublist _ _
  have h2 := (List.Sublist.refl (l.take i)).append h1
  rwa [List.take_append_drop] at h2

theorem cutI_len {l : List It} {i : Nat} (h : i < l.length) : (cutI l i).length + 1 = l.length := by
  unfold cutI; rw [List.length_append, List.length_take, List.length_drop]; omega

theorem OkQ.put {n k : Nat} {st : Int × List It} (o : OkQ n k st) (hk : k ≤ 1000) {x : It} (h1 : x.to = k) (h2 : x.cl = 0 ∨ x.cl = 1) : OkQ n (k + 1) (putQ n st x).1 := by
  have hsum := o.sum
  have hlen := o.len
  have app : ∀ l : List It, l.Sublist st.2 → (l ++ [x]).Pairwise (fun x y => x.to < y.to) ∧ ∀ y ∈ l ++ [x], 0 ≤ y.to ∧ y.to < (k + 1 : Nat) ∧ (y.cl = 0 ∨ y.cl = 1) := fun l hl => by
    constructor
    · rw [List.pairwise_append]
      refine ⟨o.up.sublist hl, by simp, fun a ha b hb => ?_⟩
      simp at hb; subst hb
      rw [h1]; exact (o.all a (hl.subset ha)).2.1
    · intro y hy
      rw [List.mem_append] at hy
      rcases hy with hy | hy
      · have := o.all y (hl.subset hy); refine ⟨this.1, by omega, this.2.2⟩
      · simp at hy; subst hy; exact ⟨by omega, by omega, h2⟩
  have hd0 := o.d0
  unfold putQ
  split
  · rename_i g
    obtain ⟨a1, a2⟩ := app st.2 (List.Sublist.refl _)
    exact ⟨a1, a2, by simp; omega, by simp; omega, o.d0⟩
  · split
    · refine ⟨o.up, fun y hy => ?_, ?_, ?_, ?_⟩
      · have := o.all y hy; exact ⟨this.1, by omega, this.2.2⟩
      · simp only; omega
      · simp only; omega
      · simp only; omega
    · rename_i g1 g2
      obtain ⟨a1, a2⟩ := app _ (cutI_sub st.2 (lastI st.2).toNat)
      have hl := (lastI_lt st.2).1
      have := cutI_len (l := st.2) (i := (lastI st.2).toNat) (by omega)
      exact ⟨a1, a2, by simp; omega, by simp; omega, by simp; omega⟩

/-- What is still to be taken. -/
structure OkT (N k : Nat) (l : List It) (a b : Int) : Prop where
  up : l.Pairwise fun x y => x.to < y.to
  cl : ∀ x ∈ l, 0 ≤ x.to ∧ (x.cl = 0 ∨ x.cl = 1)
  c0 : ∀ x ∈ l, x.cl = 0 → a < x.to ∧ b < 0
  c1 : ∀ x ∈ l, x.cl = 1 → b < x.to
  sum : k + l.length = N

theorem next_at {l : List It} {j : Nat} (hj : j < l.length) (e : nextI l = j) : (l[j].cl = 0 ∧ ∀ x ∈ l.take j, x.cl ≠ 0) ∨ (j = 0 ∧ ∀ x ∈ l, x.cl ≠ 0) := by
  unfold nextI idxP at e
  cases g : l.findIdx? (fun x => decide (x.cl = 0)) with
  | none =>
    rw [g] at e
    have := List.findIdx?_eq_none_iff.1 g
    refine .inr ⟨?_, fun x hx => by simpa using this x hx⟩
    simp at e; omega
  | some i =>
    rw [g] at e
    obtain ⟨h1, h2, h3⟩ := List.findIdx?_eq_some_iff_getElem.1 g
    have : i = j := by simp at e; omega
    subst this
    refine .inl ⟨by simpa using h2, fun x hx => ?_⟩
    obtain ⟨m, hm, rfl⟩ := List.mem_take_iff_getElem.1 hx
    simpa using h3 m (by omega)

theorem up_drop {l : List It} {j : Nat} (hj : j < l.length) (h : l.Pairwise fun x y => x.to < y.to) {x : It} (hx : x ∈ l.drop (j + 1)) : l[j].to < x.to := by
  have h2 := h.sublist (List.drop_sublist j l)
  rw [List.drop_eq_getElem_cons hj] at h2
  exact (List.pairwise_cons.1 h2).1 x hx

theorem OkT.take {N k : Nat} {l : List It} {a b : Int} (o : OkT N k l a b) {j : Nat} (hj : j < l.length) (e : nextI l = j) :
    (l[j].cl = 0 ∧ a < l[j].to ∧ b < 0 ∧ OkT N (k + 1) (cutI l j) l[j].to b) ∨ (l[j].cl = 1 ∧ b < l[j].to ∧ OkT N (k + 1) (cutI l j) a l[j].to) := by
  have hm := List.getElem_mem hj
  have hc := cutI_len hj
  have hs := cutI_sub l j
  have hsum := o.sum
  rcases (o.cl _ hm).2 with h0 | h1
  · obtain ⟨x1, x2⟩ := o.c0 _ hm h0
    refine .inl ⟨h0, x1, x2, o.up.sublist hs, fun x hx => o.cl x (hs.subset hx), fun x hx hx0 => ⟨?_, (o.c0 x (hs.subset hx) hx0).2⟩, fun x hx => o.c1 x (hs.subset hx), by omega⟩
    unfold cutI at hx
    rw [List.mem_append] at hx
    rcases hx with hx | hx
    · rcases next_at hj e with ⟨_, g⟩ | ⟨_, g⟩
      · exact absurd hx0 (g x hx)
      · exact absurd h0 (g _ hm)
    · exact up_drop hj o.up hx
  · have hn : j = 0 ∧ ∀ x ∈ l, x.cl ≠ 0 := by
      rcases next_at hj e with ⟨g, _⟩ | g
      · omega
      · exact g
    refine .inr ⟨h1, o.c1 _ hm h1, o.up.sublist hs, fun x hx => o.cl x (hs.subset hx), fun x hx hx0 => ?_, fun x hx hx1 => ?_, by omega⟩
    · exact absurd hx0 (hn.2 x (hs.subset hx))
    · obtain ⟨rfl, _⟩ := hn
      exact up_drop hj o.up (by simpa [cutI] using hx)

theorem OkQ.start {n : Nat} : OkQ n 0 (0, []) := ⟨by simp, by simp, by simp, by simp, by simp⟩

theorem OkQ.turn {n k : Nat} {st : Int × List It} (o : OkQ n k st) : OkT (min k n) 0 st.2 (-1) (-1) :=
  ⟨o.up, fun x hx => ⟨(o.all x hx).1, (o.all x hx).2.2⟩, fun x hx _ => ⟨by have := (o.all x hx).1; omega, by omega⟩, fun x hx _ => by have := (o.all x hx).1; omega, by have := o.len; omega⟩

/-! ### The walk -/

theorem QIn.poke {q p : Nat} {n d : Int} {l : List It} {h0 H : AHeap} {o o' : AObj} (i : QIn q n d l h0 H) (hp : h0 p = some o') : QIn q n d l (upd h0 p o) (upd H p o) := by
  obtain ⟨v, H0, g, w, hq, rfl⟩ := i
  have hpq : p ≠ q := by rintro rfl; rw [g.keep hp] at hq; cases hq
  exact ⟨v, upd H0 p o, g.poke hp, w, by rw [upd_ne hpq.symm]; exact hq, upd_comm hpq.symm⟩

def boB (b : Bool) : List AV := [.bool b]
theorem boB_len (b : Bool) : (boB b).length = 1 := rfl
theorem rdO {h : AHeap} {l : List Bool} {k : Nat} (hk : k < l.length) : aload h (.rp ((cat boB l).drop k)) = some (.bool l[k]) := by
  have := rd_first (h := h) boB_len (by omega) hk
  simpa [boB] using this

theorem qTake_at {q : Nat} {n d : Int} {l : List It} {h0 H : AHeap} (i : QIn q n d l h0 H) (hn : l.length ≤ 100000) {k : Nat} {x : It} (hk : k < l.length) (e : nextI l = k) (hx : l[k] = x) :
    CallsA Try.prog 9 [.ptr q 0] H (fun r H' => r = .tup [.agg (encIt x), .int .i64 0] ∧ QIn q n d (cutI l k) h0 H') := by
  refine (qTake_spec i hn).mono ?_
  rintro r H' (⟨rfl, _⟩ | ⟨k', hk', e', hr, i'⟩)
  · simp at hk
  · rw [e] at e'
    have : k = k' := by omega
    subst this
    exact ⟨by rw [hr, hx], i'⟩

theorem qTake_end {q : Nat} {n d : Int} {h0 H : AHeap} (i : QIn q n d [] h0 H) : CallsA Try.prog 9 [.ptr q 0] H (fun r H' => r = .tup [.agg [.int .i64 0, .int .i64 0, .nils], .int .i64 4] ∧ QIn q n d [] h0 H') := by
  refine (qTake_spec i (by simp)).mono ?_
  rintro r H' (⟨_, h⟩ | ⟨k', hk', _⟩)
  · exact h
  · simp at hk'

theorem putZ {h : AHeap} {q : Nat} {a b : Int} {ex : Bool} : FzL h h [.ptr q 0, .ro [.int .i64 a, .int .i64 b, .nils] 1 ex] [.ptr q 0, .ro (cat encIt [⟨a, b, []⟩]) 1 ex] := by
  refine .cons (.refl _) (.cons (Fz.ro (.cons (.refl _) (.cons (.refl _) (.cons .nils .nil))) (by simp)) .nil)

theorem qknown_spec (h : AHeap) : PureA Try.prog 10 [] h (.bool true) := by
  (refine PureA.enter (ac := c10) (rs := r10) Try.func10 rfl (by decide) c10_ok r10_ok ?_; intro Q hQ; simp only [go_sem, Int.reduceEq, Int.reduceAdd, Int.reduceSub, Int.reduceMul, Nat.reduceLT, Int.reduceLT, Int.reduceLE, Int.reduceToNat, Nat.reduceAdd, Nat.reduceSub, Nat.reduceMul, Nat.reduceLeDiff, reduceCtorEq, c10, Try.ntmps10])
  refine (qnew_spec 2 (by omega) (by omega) h).use ?_
  rintro _ H ⟨q, rfl, i⟩
  simp only [go_sem, Int.reduceEq, Int.reduceAdd, Int.reduceSub, Int.reduceMul, Nat.reduceLT, Int.reduceLT, Int.reduceLE, Int.reduceToNat, Nat.reduceAdd, Nat.reduceSub, Nat.reduceMul, Nat.reduceLeDiff, reduceCtorEq]
  refine CallsA.useZ (qPut_spec (xs := [⟨1, 1, []⟩, ⟨2, 1, []⟩, ⟨3, 0, []⟩]) i (by omega) (by omega) true (by simp) (by simp) rfl) ?_ ?_
  · exact .cons (.refl _) (.cons (Fz.ro (.cons (.refl _) (.cons (.refl _) (.cons .nils (.cons (.refl _) (.cons (.refl _) (.cons .nils (.cons (.refl _) (.cons (.refl _) (.cons .nils .nil))))))))) (by simp)) .nil)
  rintro _ H1 ⟨rfl, i1⟩
  rw [show runQ 2 (0, []) [⟨1, 1, []⟩, ⟨2, 1, []⟩, ⟨3, 0, []⟩] = ((1, [⟨1, 1, []⟩, ⟨3, 0, []⟩]), 1) from rfl] at i1 ⊢
  simp only [go_sem, Int.reduceEq, Int.reduceAdd, Int.reduceSub, Int.reduceMul, Nat.reduceLT, Int.reduceLT, Int.reduceLE, Int.reduceToNat, Nat.reduceAdd, Nat.reduceSub, Nat.reduceMul, Nat.reduceLeDiff, reduceCtorEq]
  refine (qTake_at (k := 1) (x := ⟨3, 0, []⟩) i1 (by simp) (by simp) rfl rfl).use ?_
  rintro _ H2 ⟨rfl, i2⟩
  simp only [go_sem, Int.reduceEq, Int.reduceAdd, Int.reduceSub, Int.reduceMul, Nat.reduceLT, Int.reduceLT, Int.reduceLE, Int.reduceToNat, Nat.reduceAdd, Nat.reduceSub, Nat.reduceMul, Nat.reduceLeDiff, reduceCtorEq, encIt]
  intro p2 hp2
  have i2' : QIn q 2 1 [⟨1, 1, []⟩] h (del H2 p2) := by rw [del_none hp2]; exact i2
  refine (qTake_at (k := 0) (x := ⟨1, 1, []⟩) i2' (by simp) (by simp) rfl rfl).use ?_
  rintro _ H3 ⟨rfl, i3⟩
  simp only [go_sem, Int.reduceEq, Int.reduceAdd, Int.reduceSub, Int.reduceMul, Nat.reduceLT, Int.reduceLT, Int.reduceLE, Int.reduceToNat, Nat.reduceAdd, Nat.reduceSub, Nat.reduceMul, Nat.reduceLeDiff, reduceCtorEq, encIt]
  intro p3 hp3
  have i3' : QIn q 2 1 [] h (del H3 p3) := by rw [del_none hp3]; exact i3
  refine (qTake_end i3').use ?_
  rintro _ H4 ⟨rfl, i4⟩
  simp only [go_sem, Int.reduceEq, Int.reduceAdd, Int.reduceSub, Int.reduceMul, Nat.reduceLT, Int.reduceLT, Int.reduceLE, Int.reduceToNat, Nat.reduceAdd, Nat.reduceSub, Nat.reduceMul, Nat.reduceLeDiff, reduceCtorEq]
  intro p4 hp4
  rw [del_none hp4]
  refine (qdropped_spec i4).use ?_
  simp only [go_sem, Int.reduceEq, Int.reduceAdd, Int.reduceSub, Int.reduceMul, Nat.reduceLT, Int.reduceLT, Int.reduceLE, Int.reduceToNat, Nat.reduceAdd, Nat.reduceSub, Nat.reduceMul, Nat.reduceLeDiff, reduceCtorEq]
  refine hQ _ _ _ _ _ (.inr rfl) rfl (FzH.sub i4.sub) (FzL.refl _ _ _) rfl

theorem qorders_spec (most : Int) (cs : List Bool) (h : AHeap) (hn : cs.length ≤ 9223372036854775807) : PureA Try.prog 3 [.int .i64 most, .ro (cat boB cs) cs.length false] h (.bool true) := by
  have e1 : (IntKind.u64.wrap most).tmod 8 = most % 18446744073709551616 % 8 := by rw [wu64]; exact Int.tmod_eq_emod_of_nonneg (Int.emod_nonneg _ (by omega))
  have m1 : 0 ≤ most % 18446744073709551616 % 8 ∧ most % 18446744073709551616 % 8 < 8 := by omega
  (refine PureA.enter (ac := c3) (rs := r3) Try.func3 rfl (by decide) c3_ok r3_ok ?_; intro Q hQ; simp only [go_sem, Int.reduceEq, Int.reduceAdd, Int.reduceSub, Int.reduceMul, Nat.reduceLT, Int.reduceLT, Int.reduceLE, Int.reduceToNat, Nat.reduceAdd, Nat.reduceSub, Nat.reduceMul, Nat.reduceLeDiff, reduceCtorEq, c3, Try.ntmps3])
  generalize most % 18446744073709551616 % 8 = M at *
  have w1 : IntKind.i64.wrap M = M := w64 (by omega) (by omega)
  have w2 : IntKind.i64.wrap (1 + M) = 1 + M := w64 (by omega) (by omega)
  simp only [go_sem, Int.reduceEq, Int.reduceAdd, Int.reduceSub, Int.reduceMul, Nat.reduceLT, Int.reduceLT, Int.reduceLE, Int.reduceToNat, Nat.reduceAdd, Nat.reduceSub, Nat.reduceMul, Nat.reduceLeDiff, reduceCtorEq, binA, e1, show ((8 : Int) == 0) = false from rfl, w1, w2]
  obtain ⟨m, hm⟩ : ∃ m : Nat, 1 + M = (m : Int) := ⟨(1 + M).toNat, by omega⟩
  rw [hm] at w2 ⊢
  refine (qnew_spec m (by omega) (by omega) h).use ?_
  rintro _ H ⟨q, rfl, i⟩
  simp only [go_sem, Int.reduceEq, Int.reduceAdd, Int.reduceSub, Int.reduceMul, Nat.reduceLT, Int.reduceLT, Int.reduceLE, Int.reduceToNat, Nat.reduceAdd, Nat.reduceSub, Nat.reduceMul, Nat.reduceLeDiff, reduceCtorEq]
  have hmin : (if (30 : Int) < (cs.length : Int) then 30 else (cs.length : Int)) = ((min cs.length 30 : Nat) : Int) := by omega
  have hmin' : min (cs.length : Int) 30 = ((min cs.length 30 : Nat) : Int) := by omega
  generalize hnn : min cs.length 30 = nn at *
  simp only [go_sem, Int.reduceEq, Int.reduceAdd, Int.reduceSub, Int.reduceMul, Nat.reduceLT, Int.reduceLT, Int.reduceLE, Int.reduceToNat, Nat.reduceAdd, Nat.reduceSub, Nat.reduceMul, Nat.reduceLeDiff, reduceCtorEq, hmin, hmin', if_min]
  refine loop_st d3_0 (fun x : Nat × (Int × List It) => nn - x.1) (fun x s => s.set 8 (.int .i64 (x.1 : Int))) (fun x H => x.1 ≤ nn ∧ OkQ m x.1 x.2 ∧ QIn q m x.2.1 x.2.2 h H) (0, 0, []) ?_ ⟨Nat.zero_le _, OkQ.start, i⟩ ?_
  · (simp only [go_sem, Int.reduceEq, Int.reduceAdd, Int.reduceSub, Int.reduceMul, Nat.reduceLT, Int.reduceLT, Int.reduceLE, Int.reduceToNat, Nat.reduceAdd, Nat.reduceSub, Nat.reduceMul, Nat.reduceLeDiff, reduceCtorEq, d3_0] <;> rfl)
  rintro N ⟨k, st⟩ H1 ⟨hk, ok, i1⟩ hN
  simp only [go_sem, Int.reduceEq, Int.reduceAdd, Int.reduceSub, Int.reduceMul, Nat.reduceLT, Int.reduceLT, Int.reduceLE, Int.reduceToNat, Nat.reduceAdd, Nat.reduceSub, Nat.reduceMul, Nat.reduceLeDiff, reduceCtorEq, d3_0]
  simp only at hk ok i1 hN
  have hadd := wadd1 (k := k) (by omega)
  by_cases hlt : k < nn
  · have hc : k < cs.length := by omega
    simp only [go_sem, Int.reduceEq, Int.reduceAdd, Int.reduceSub, Int.reduceMul, Nat.reduceLT, Int.reduceLT, Int.reduceLE, Int.reduceToNat, Nat.reduceAdd, Nat.reduceSub, Nat.reduceMul, Nat.reduceLeDiff, reduceCtorEq, hlt, hc, rdO hc]
    cases hb : cs[k]
    · have ok2 := ok.put (x := ⟨k, 0, []⟩) (by omega) rfl (.inl rfl)
      simp only [go_sem, Int.reduceEq, Int.reduceAdd, Int.reduceSub, Int.reduceMul, Nat.reduceLT, Int.reduceLT, Int.reduceLE, Int.reduceToNat, Nat.reduceAdd, Nat.reduceSub, Nat.reduceMul, Nat.reduceLeDiff, reduceCtorEq]
      refine CallsA.useZ (qPut_spec (xs := [⟨k, 0, []⟩]) i1 ok.d0 (by have := ok.sum; omega) true (by have := ok.len; simp; omega) (by simp) (by simp [errI, chkI]; omega)) putZ ?_
      rintro _ H2 ⟨rfl, i2⟩
      simp only [go_sem, Int.reduceEq, Int.reduceAdd, Int.reduceSub, Int.reduceMul, Nat.reduceLT, Int.reduceLT, Int.reduceLE, Int.reduceToNat, Nat.reduceAdd, Nat.reduceSub, Nat.reduceMul, Nat.reduceLeDiff, reduceCtorEq, hadd]
      refine hN (k + 1, (putQ m st ⟨k, 0, []⟩).1) _ _ (by simp only; omega) ?_ ⟨hlt, ok2, i2⟩
      simp only [go_sem, Int.reduceEq, Int.reduceAdd, Int.reduceSub, Int.reduceMul, Nat.reduceLT, Int.reduceLT, Int.reduceLE, Int.reduceToNat, Nat.reduceAdd, Nat.reduceSub, Nat.reduceMul, Nat.reduceLeDiff, reduceCtorEq, d3_0]
    · have ok2 := ok.put (x := ⟨k, 1, []⟩) (by omega) rfl (.inr rfl)
      simp only [go_sem, Int.reduceEq, Int.reduceAdd, Int.reduceSub, Int.reduceMul, Nat.reduceLT, Int.reduceLT, Int.reduceLE, Int.reduceToNat, Nat.reduceAdd, Nat.reduceSub, Nat.reduceMul, Nat.reduceLeDiff, reduceCtorEq]
      refine CallsA.useZ (qPut_spec (xs := [⟨k, 1, []⟩]) i1 ok.d0 (by have := ok.sum; omega) true (by have := ok.len; simp; omega) (by simp) (by simp [errI, chkI]; omega)) putZ ?_
      rintro _ H2 ⟨rfl, i2⟩
      simp only [go_sem, Int.reduceEq, Int.reduceAdd, Int.reduceSub, Int.reduceMul, Nat.reduceLT, Int.reduceLT, Int.reduceLE, Int.reduceToNat, Nat.reduceAdd, Nat.reduceSub, Nat.reduceMul, Nat.reduceLeDiff, reduceCtorEq, hadd]
      refine hN (k + 1, (putQ m st ⟨k, 1, []⟩).1) _ _ (by simp only; omega) ?_ ⟨hlt, ok2, i2⟩
      simp only [go_sem, Int.reduceEq, Int.reduceAdd, Int.reduceSub, Int.reduceMul, Nat.reduceLT, Int.reduceLT, Int.reduceLE, Int.reduceToNat, Nat.reduceAdd, Nat.reduceSub, Nat.reduceMul, Nat.reduceLeDiff, reduceCtorEq, d3_0]
  · have hkn : k = nn := by omega
    subst hkn
    simp only [go_sem, Int.reduceEq, Int.reduceAdd, Int.reduceSub, Int.reduceMul, Nat.reduceLT, Int.reduceLT, Int.reduceLE, Int.reduceToNat, Nat.reduceAdd, Nat.reduceSub, Nat.reduceMul, Nat.reduceLeDiff, reduceCtorEq, hlt]
    refine frz_id ?_
    simp only [go_sem, Int.reduceEq, Int.reduceAdd, Int.reduceSub, Int.reduceMul, Nat.reduceLT, Int.reduceLT, Int.reduceLE, Int.reduceToNat, Nat.reduceAdd, Nat.reduceSub, Nat.reduceMul, Nat.reduceLeDiff, reduceCtorEq]
    intro p hp
    have hp0 := i1.sub.isNone hp
    refine loop_st d3_1 (fun x : Nat × List It × Int × Int => 40 - x.1) (fun x s => (s.set 12 (.int .i64 (x.1 : Int))).set 14 (.int .i64 (x.1 : Int))) (fun x H => x.1 ≤ 40 ∧ OkT (min k m) x.1 x.2.1 x.2.2.1 x.2.2.2 ∧ QIn q m st.1 x.2.1 (upd h p (.cells [.int .i64 x.2.2.1, .int .i64 x.2.2.2] 2)) H) (0, st.2, -1, -1) ?_ ⟨Nat.zero_le _, ok.turn, i1.more hp⟩ ?_
    · (simp only [go_sem, Int.reduceEq, Int.reduceAdd, Int.reduceSub, Int.reduceMul, Nat.reduceLT, Int.reduceLT, Int.reduceLE, Int.reduceToNat, Nat.reduceAdd, Nat.reduceSub, Nat.reduceMul, Nat.reduceLeDiff, reduceCtorEq, d3_1] <;> rfl)
    rintro N ⟨j, l, a, b⟩ H2 ⟨hj, ot, i2⟩ hN
    simp only [go_sem, Int.reduceEq, Int.reduceAdd, Int.reduceSub, Int.reduceMul, Nat.reduceLT, Int.reduceLT, Int.reduceLE, Int.reduceToNat, Nat.reduceAdd, Nat.reduceSub, Nat.reduceMul, Nat.reduceLeDiff, reduceCtorEq, d3_1]
    simp only at hj ot i2 hN
    have hadd := wadd1 (k := j) (by omega)
    have hsum := ot.sum
    by_cases h40 : (j : Int) < 40
    · by_cases hl : l = []
      · subst hl
        simp only [go_sem, Int.reduceEq, Int.reduceAdd, Int.reduceSub, Int.reduceMul, Nat.reduceLT, Int.reduceLT, Int.reduceLE, Int.reduceToNat, Nat.reduceAdd, Nat.reduceSub, Nat.reduceMul, Nat.reduceLeDiff, reduceCtorEq, h40]
        refine (qTake_end i2).use ?_
        rintro _ H3 ⟨rfl, i3⟩
        simp only [go_sem, Int.reduceEq, Int.reduceAdd, Int.reduceSub, Int.reduceMul, Nat.reduceLT, Int.reduceLT, Int.reduceLE, Int.reduceToNat, Nat.reduceAdd, Nat.reduceSub, Nat.reduceMul, Nat.reduceLeDiff, reduceCtorEq]
        intro p5 hp5
        simp only [go_sem, Int.reduceEq, Int.reduceAdd, Int.reduceSub, Int.reduceMul, Nat.reduceLT, Int.reduceLT, Int.reduceLE, Int.reduceToNat, Nat.reduceAdd, Nat.reduceSub, Nat.reduceMul, Nat.reduceLeDiff, reduceCtorEq, del_none hp5]
        refine frz_id ?_
        simp only [go_sem, Int.reduceEq, Int.reduceAdd, Int.reduceSub, Int.reduceMul, Nat.reduceLT, Int.reduceLT, Int.reduceLE, Int.reduceToNat, Nat.reduceAdd, Nat.reduceSub, Nat.reduceMul, Nat.reduceLeDiff, reduceCtorEq]
        refine (qknown_spec _).use ?_
        have hsum2 := ok.sum
        have hlen2 := ok.len
        simp only [List.length_nil, Nat.add_zero] at hsum
        have f1 : (if m < k then (m : Int) else (k : Int)) = (j : Int) := by split <;> omega
        have f2 : IntKind.i64.wrap ((j : Int) + st.1) = (k : Int) := by rw [w64 (by omega) (by omega)]; omega
        simp only [go_sem, Int.reduceEq, Int.reduceAdd, Int.reduceSub, Int.reduceMul, Nat.reduceLT, Int.reduceLT, Int.reduceLE, Int.reduceToNat, Nat.reduceAdd, Nat.reduceSub, Nat.reduceMul, Nat.reduceLeDiff, reduceCtorEq, f1]
        refine (qdropped_spec i3).use ?_
        simp only [go_sem, Int.reduceEq, Int.reduceAdd, Int.reduceSub, Int.reduceMul, Nat.reduceLT, Int.reduceLT, Int.reduceLE, Int.reduceToNat, Nat.reduceAdd, Nat.reduceSub, Nat.reduceMul, Nat.reduceLeDiff, reduceCtorEq, f2]
        refine hQ _ _ _ _ _ (.inr rfl) rfl (FzH.sub (Sub.trans ((Sub.refl _).upd2 hp0) i3.sub)) (FzL.refl _ _ _) rfl
      · have hl0 : 0 < l.length := List.length_pos_iff.2 hl
        obtain ⟨n1, n2⟩ := nextI_lt l
        obtain ⟨t, ht⟩ : ∃ t : Nat, nextI l = (t : Int) := ⟨(nextI l).toNat, by omega⟩
        have ht2 : t < l.length := by omega
        simp only [go_sem, Int.reduceEq, Int.reduceAdd, Int.reduceSub, Int.reduceMul, Nat.reduceLT, Int.reduceLT, Int.reduceLE, Int.reduceToNat, Nat.reduceAdd, Nat.reduceSub, Nat.reduceMul, Nat.reduceLeDiff, reduceCtorEq, h40]
        refine (qTake_at i2 (by omega) ht2 ht rfl).use ?_
        rintro _ H3 ⟨rfl, i3⟩
        rcases ot.take ht2 ht with ⟨c0, c1, c2, ot2⟩ | ⟨c0, c1, ot2⟩
        · have d1 : ¬ l[t].to ≤ a := by omega
          have d2 : ¬ 0 ≤ b := by omega
          have i4 := i3.poke (o := .cells [.int .i64 l[t].to, .int .i64 b] 2) upd_same
          rw [upd_upd] at i4
          simp only [go_sem, Int.reduceEq, Int.reduceAdd, Int.reduceSub, Int.reduceMul, Nat.reduceLT, Int.reduceLT, Int.reduceLE, Int.reduceToNat, Nat.reduceAdd, Nat.reduceSub, Nat.reduceMul, Nat.reduceLeDiff, reduceCtorEq, encIt]
          intro p5 hp5
          simp only [go_sem, Int.reduceEq, Int.reduceAdd, Int.reduceSub, Int.reduceMul, Nat.reduceLT, Int.reduceLT, Int.reduceLE, Int.reduceToNat, Nat.reduceAdd, Nat.reduceSub, Nat.reduceMul, Nat.reduceLeDiff, reduceCtorEq, del_none hp5, c0, d1, d2, i3.sub p _ upd_same, hadd]
          refine hN (j + 1, cutI l t, l[t].to, b) _ _ (by simp only; omega) ?_ ⟨by simp only; omega, ot2, i4⟩
          simp only [go_sem, Int.reduceEq, Int.reduceAdd, Int.reduceSub, Int.reduceMul, Nat.reduceLT, Int.reduceLT, Int.reduceLE, Int.reduceToNat, Nat.reduceAdd, Nat.reduceSub, Nat.reduceMul, Nat.reduceLeDiff, reduceCtorEq, d3_1]
        · have d1 : ¬ l[t].to ≤ b := by omega
          have i4 := i3.poke (o := .cells [.int .i64 a, .int .i64 l[t].to] 2) upd_same
          rw [upd_upd] at i4
          simp only [go_sem, Int.reduceEq, Int.reduceAdd, Int.reduceSub, Int.reduceMul, Nat.reduceLT, Int.reduceLT, Int.reduceLE, Int.reduceToNat, Nat.reduceAdd, Nat.reduceSub, Nat.reduceMul, Nat.reduceLeDiff, reduceCtorEq, encIt]
          intro p5 hp5
          simp only [go_sem, Int.reduceEq, Int.reduceAdd, Int.reduceSub, Int.reduceMul, Nat.reduceLT, Int.reduceLT, Int.reduceLE, Int.reduceToNat, Nat.reduceAdd, Nat.reduceSub, Nat.reduceMul, Nat.reduceLeDiff, reduceCtorEq, del_none hp5, c0, d1, i3.sub p _ upd_same, hadd]
          refine hN (j + 1, cutI l t, a, l[t].to) _ _ (by simp only; omega) ?_ ⟨by simp only; omega, ot2, i4⟩
          simp only [go_sem, Int.reduceEq, Int.reduceAdd, Int.reduceSub, Int.reduceMul, Nat.reduceLT, Int.reduceLT, Int.reduceLE, Int.reduceToNat, Nat.reduceAdd, Nat.reduceSub, Nat.reduceMul, Nat.reduceLeDiff, reduceCtorEq, d3_1]
    · omega

theorem qorders_law (xs : List AV) (h : ArgsSh Try.prog 6 Try.f3.params.toList xs) : PureA Try.prog 3 xs emp (.bool true) := by
  rw [Try.params3] at h
  simp only [ArgsSh, ArgSh, Try.underlying22, Try.underlying3] at h
  obtain ⟨x, _, rfl, hx, z, _, rfl, hz, rfl⟩ := h
  rw [ShC] at hz
  simp only [Try.underlying22] at hz
  simp only [Try.underlying3, ShC] at hx
  obtain ⟨m, hm, _⟩ := hx
  cases hm
  obtain ⟨els, e, hl, hels⟩ := hz
  cases e
  obtain ⟨l, e1, e2, _⟩ := sh_list (enc := boB) (R := fun _ => True) (els := els) fun el hel => by
    have := (hels el hel).2
    simp only [ShC, Try.underlying4] at this
    obtain ⟨b, rfl⟩ := this
    exact ⟨b, rfl, trivial⟩
  rw [e1, e2]
  exact qorders_spec m l emp (by have := maxLen_le; omega)

end Go.Proofs.Ytfgapneenpdnoaa
