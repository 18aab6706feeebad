/-
  words.Join; WordsJoin on abstract values.
-/
import Derived.Test.YteijaibggalapaaGreatDoorC1
import Derived.Test.YteijaibggalapaaGreatDoorWb
namespace Go.Proofs.YteijaibggalapaaGreatDoor
open Go E
set_option linter.unusedVariables false
set_option linter.unusedSimpArgs false
set_option maxRecDepth 100000

def jb (sep : ByteArray) (xs : List ByteArray) : ByteArray := ⟨(Lib.join (xs.map (·.data.toList)) sep.data.toList).toArray⟩
theorem ba_ext {a b : ByteArray} (h : a.data.toList = b.data.toList) : a = b := by
  cases a; cases b; congr 1; exact Array.ext' h
theorem ba_size (b : ByteArray) : b.size = b.data.toList.length := by rw [Array.length_toList]; rfl
theorem jb_nil (sep : ByteArray) : jb sep [] = ⟨#[]⟩ := rfl
theorem jb_data (sep : ByteArray) (xs : List ByteArray) : (jb sep xs).data.toList = Lib.join (xs.map (·.data.toList)) sep.data.toList := rfl
theorem ba_app (a b : ByteArray) : (a ++ b).data.toList = a.data.toList ++ b.data.toList := by rw [ByteArray.data_append, Array.toList_append]
theorem jb_one (sep x : ByteArray) : jb sep [x] = x := by
  apply ba_ext; rw [jb_data, List.map_cons, List.map_nil, Lib.join_one]
theorem jb_snoc {sep y : ByteArray} {xs : List ByteArray} (h : xs ≠ []) : jb sep (xs ++ [y]) = jb sep xs ++ sep ++ y := by
  apply ba_ext
  rw [ba_app, ba_app, jb_data, jb_data]
  cases xs with
  | nil => exact absurd rfl h
  | cons x r =>
    simp only [List.cons_append, List.map_cons, List.map_append, List.map_nil, Lib.join_cons, Lib.joinTail, List.flatten_append, List.flatten_cons, List.flatten_nil, List.append_nil, List.append_assoc]
theorem lens_le {m : Nat} : ∀ {xs : List ByteArray}, (∀ x ∈ xs, x.size ≤ m) → Lib.lens (xs.map (·.data.toList)) ≤ xs.length * m
  | [], _ => by simp [Lib.lens]
  | x :: xs, h => by
    have h1 := h x (by simp)
    have h2 := lens_le (xs := xs) fun y hy => h y (by simp [hy])
    have h3 := (ba_size x).symm
    simp only [Lib.lens, List.map_cons, List.sum_cons, List.length_cons, Nat.succ_mul] at h2 ⊢
    omega
theorem jb_size {m : Nat} {sep : ByteArray} {xs : List ByteArray} (hs : sep.size ≤ m) (h : ∀ x ∈ xs, x.size ≤ m) : (jb sep xs).size ≤ 2 * (xs.length * m) := by
  have e : (jb sep xs).size = (Lib.join (xs.map (·.data.toList)) sep.data.toList).length := ba_size _
  rw [e]
  cases xs with
  | nil => simp [Lib.join_nil]
  | cons x r =>
    have h2 := lens_le h
    have h3 := (ba_size sep).symm
    rw [List.map_cons, Lib.join_length, h3, List.length_map]
    rw [List.map_cons] at h2
    have h4 : sep.size * r.length ≤ r.length * m := by rw [Nat.mul_comm]; exact Nat.mul_le_mul_left _ hs
    simp only [List.length_cons, Nat.succ_mul] at h2 ⊢
    omega

def neS (b : ByteArray) : Bool := decide (b.size ≠ 0)
theorem ne_empty (b : ByteArray) : (!(b.toList == (ByteArray.mk (Array.mk [])).toList)) = neS b := by
  rw [Lib.toList_data, Lib.toList_data]
  unfold neS
  rw [ba_size]
  cases b.data.toList <;> rfl

theorem rdS {h : AHeap} {l : List ByteArray} {k : Nat} (hk : k < l.length) : aload h (.rp ((cat s1 l).drop k)) = some (.str l[k]) := by
  have := rd_first (h := h) s1_len (by omega) hk
  simpa [s1] using this

theorem filt_snoc {p : ByteArray → Bool} {l : List ByteArray} {k : Nat} (hk : k < l.length) : (l.take (k + 1)).filter p = (l.take k).filter p ++ (if p l[k] then [l[k]] else []) := by
  rw [List.take_succ_eq_append_getElem hk, List.filter_append]
  congr 1
  simp only [List.filter_cons, List.filter_nil]

theorem wjoin_spec (sep : ByteArray) (l : List ByteArray) (ex : Bool) (h : AHeap) (hs : sep.size ≤ 1000000) (hl : l.length ≤ 10000) (hx : ∀ x ∈ l, x.size ≤ 1000000) : PureA Tryz.prog 6 [.str sep, .ro (cat s1 l) l.length ex] h (.str (jb sep (l.filter neS))) := by
  (refine PureA.enter (ac := c6) (rs := r6) Tryz.func6 rfl (by decide) c6_ok r6_ok ?_; intro Q hQ; simp only [go_sem, Int.reduceEq, Int.reduceAdd, Int.reduceSub, Int.reduceMul, Nat.reduceLT, Int.reduceLT, Int.reduceLE, Int.reduceToNat, Nat.reduceAdd, Nat.reduceSub, Nat.reduceMul, Nat.reduceLeDiff, reduceCtorEq, c6, Tryz.ntmps6])
  refine loop_st d6_0 (fun x : Nat × AV => l.length - x.1) (fun x s => (s.set 5 x.2).set 10 (.int .i64 x.1)) (fun x h' => x.1 ≤ l.length ∧ Grow h 1 x.2 (cat s1 ((l.take x.1).filter neS)) ((l.take x.1).filter neS).length h' ∧ Wr x.2) (0, .nils) ?_ ⟨Nat.zero_le _, Grow.nil, Wr.nils⟩ ?_
  · (simp only [go_sem, Int.reduceEq, Int.reduceAdd, Int.reduceSub, Int.reduceMul, Nat.reduceLT, Int.reduceLT, Int.reduceLE, Int.reduceToNat, Nat.reduceAdd, Nat.reduceSub, Nat.reduceMul, Nat.reduceLeDiff, reduceCtorEq, d6_0] <;> rfl)
  rintro N ⟨k, v⟩ h1 ⟨hk, g, hw⟩ hN
  dsimp only at hk g hw hN
  simp only [go_sem, Int.reduceEq, Int.reduceAdd, Int.reduceSub, Int.reduceMul, Nat.reduceLT, Int.reduceLT, Int.reduceLE, Int.reduceToNat, Nat.reduceAdd, Nat.reduceSub, Nat.reduceMul, Nat.reduceLeDiff, reduceCtorEq, d6_0]
  have hadd := wadd1 (k := k) (by omega)
  have hfl : ((l.take k).filter neS).length ≤ 10000 := Nat.le_trans (List.length_filter_le _ _) (by rw [List.length_take]; omega)
  by_cases hlt : k < l.length
  · have hf := filt_snoc (p := neS) hlt
    simp only [go_sem, Int.reduceEq, Int.reduceAdd, Int.reduceSub, Int.reduceMul, Nat.reduceLT, Int.reduceLT, Int.reduceLE, Int.reduceToNat, Nat.reduceAdd, Nat.reduceSub, Nat.reduceMul, Nat.reduceLeDiff, reduceCtorEq, hlt, rdS hlt, binA_sne, ne_empty]
    refine cond_split (fun hb => ?_) (fun hb => ?_)
    · rw [if_pos hb] at hf
      simp only [go_sem, Int.reduceEq, Int.reduceAdd, Int.reduceSub, Int.reduceMul, Nat.reduceLT, Int.reduceLT, Int.reduceLE, Int.reduceToNat, Nat.reduceAdd, Nat.reduceSub, Nat.reduceMul, Nat.reduceLeDiff, reduceCtorEq, co_str, s1]
      refine E.Grow.add1W g rfl rfl (by omega) fun v' h' g' w' => ?_
      simp only [go_sem, Int.reduceEq, Int.reduceAdd, Int.reduceSub, Int.reduceMul, Nat.reduceLT, Int.reduceLT, Int.reduceLE, Int.reduceToNat, Nat.reduceAdd, Nat.reduceSub, Nat.reduceMul, Nat.reduceLeDiff, reduceCtorEq, hadd]
      refine hN (k + 1, v') _ _ (by dsimp only; omega) ?_ ⟨hlt, ?_, w'⟩
      · simp only [go_sem, Int.reduceEq, Int.reduceAdd, Int.reduceSub, Int.reduceMul, Nat.reduceLT, Int.reduceLT, Int.reduceLE, Int.reduceToNat, Nat.reduceAdd, Nat.reduceSub, Nat.reduceMul, Nat.reduceLeDiff, reduceCtorEq, d6_0]
      · rw [hf, cat_append, List.length_append]; exact g'
    · rw [if_neg (by simp [hb])] at hf
      simp only [go_sem, Int.reduceEq, Int.reduceAdd, Int.reduceSub, Int.reduceMul, Nat.reduceLT, Int.reduceLT, Int.reduceLE, Int.reduceToNat, Nat.reduceAdd, Nat.reduceSub, Nat.reduceMul, Nat.reduceLeDiff, reduceCtorEq, hadd]
      refine hN (k + 1, v) _ _ (by dsimp only; omega) ?_ ⟨hlt, ?_, hw⟩
      · simp only [go_sem, Int.reduceEq, Int.reduceAdd, Int.reduceSub, Int.reduceMul, Nat.reduceLT, Int.reduceLT, Int.reduceLE, Int.reduceToNat, Nat.reduceAdd, Nat.reduceSub, Nat.reduceMul, Nat.reduceLeDiff, reduceCtorEq, d6_0]
      · rw [hf, List.append_nil]; exact g
  · obtain rfl : k = l.length := by omega
    rw [List.take_of_length_le (Nat.le_refl _)] at g
    (simp only [go_sem, Int.reduceEq, Int.reduceAdd, Int.reduceSub, Int.reduceMul, Nat.reduceLT, Int.reduceLT, Int.reduceLE, Int.reduceToNat, Nat.reduceAdd, Nat.reduceSub, Nat.reduceMul, Nat.reduceLeDiff, reduceCtorEq, hlt]; refine frz_id ?_; simp only [go_sem, Int.reduceEq, Int.reduceAdd, Int.reduceSub, Int.reduceMul, Nat.reduceLT, Int.reduceLT, Int.reduceLE, Int.reduceToNat, Nat.reduceAdd, Nat.reduceSub, Nat.reduceMul, Nat.reduceLeDiff, reduceCtorEq])
    have hj := jb_size (m := 1000000) (xs := l.filter neS) hs fun x hx' => hx x (List.mem_filter.1 hx').1
    have hj2 : (jb sep (l.filter neS)).size = (Lib.join ((l.filter neS).map (·.data.toList)) sep.data.toList).length := ba_size _
    have hl2 : (l.filter neS).length * 1000000 ≤ 10000 * 1000000 := Nat.mul_le_mul_right _ (Nat.le_trans (List.length_filter_le _ _) hl)
    refine (join_spec sep g hw (by omega) (by omega)).use ?_
    simp only [go_sem, Int.reduceEq, Int.reduceAdd, Int.reduceSub, Int.reduceMul, Nat.reduceLT, Int.reduceLT, Int.reduceLE, Int.reduceToNat, Nat.reduceAdd, Nat.reduceSub, Nat.reduceMul, Nat.reduceLeDiff, reduceCtorEq]
    refine hQ _ _ _ _ _ (by first | exact .inr rfl | exact .inl rfl) rfl g.fzH (.refl _ _ _) ?_
    rfl

def cutS (b : ByteArray) : ByteArray := b.extract 0 (min b.size 100)
theorem cutS_size (b : ByteArray) : (cutS b).size ≤ 100 := by unfold cutS; rw [ByteArray.size_extract]; omega
theorem cutS_at (b : ByteArray) : strA b none (some (.int .i64 (min (b.size : Int) 100))) = some (.str (cutS b)) := by
  have e : min (b.size : Int) 100 = ((min b.size 100 : Nat) : Int) := by omega
  have h1 : (0 : Int) ≤ ((min b.size 100 : Nat) : Int) ∧ ((min b.size 100 : Nat) : Int) ≤ (b.size : Int) := by omega
  rw [e]
  simp only [strA, bnd, if_pos h1, Int.toNat_natCast]
  rfl

theorem cat_str {x y : ByteArray} (h : x.size + y.size ≤ 1000000) : binA .add (.str x) (.str y) = some (.str (x ++ y)) := by
  have h' : Nat.ble (x.size + y.size) 9223372036854775807 = true := Nat.ble_eq_true_of_le (by omega)
  simp only [binA, if_pos h']

def someB (l : List ByteArray) : Bool := !l.isEmpty

set_option maxHeartbeats 2000000 in
theorem join_walk (b : ByteArray) (l : List ByteArray) (ex : Bool) (hl : l.length ≤ 9223372036854775807) : PureA Tryz.prog 3 [.str b, .ro (cat s1 l) l.length ex] emp (.bool true) := by
  (refine PureA.enter (ac := c3) (rs := r3) Tryz.func3 rfl (by decide) c3_ok r3_ok ?_; intro Q hQ; simp only [go_sem, Int.reduceEq, Int.reduceAdd, Int.reduceSub, Int.reduceMul, Nat.reduceLT, Int.reduceLT, Int.reduceLE, Int.reduceToNat, Nat.reduceAdd, Nat.reduceSub, Nat.reduceMul, Nat.reduceLeDiff, reduceCtorEq, c3, Tryz.ntmps3, lenA_str, if_min, cutS_at])
  obtain ⟨sep, hsep⟩ : ∃ sep, sep = cutS b := ⟨_, rfl⟩
  have hs := cutS_size b
  rw [← hsep] at hs ⊢
  obtain ⟨X, hX⟩ : ∃ X : Nat → List ByteArray, X = fun k => (l.take k).map cutS := ⟨_, rfl⟩
  have hXl : ∀ k, k ≤ l.length → (X k).length = k := fun k hk => by rw [hX]; simp; omega
  have hXm : ∀ k, ∀ x ∈ X k, x.size ≤ 100 := fun k x hx => by
    rw [hX] at hx
    obtain ⟨y, _, rfl⟩ := List.mem_map.1 hx
    exact cutS_size y
  have hXs : ∀ k (hk : k < l.length), X (k + 1) = X k ++ [cutS l[k]] := fun k hk => by
    rw [hX]; simp only; rw [List.take_succ_eq_append_getElem hk, List.map_append]; rfl
  have hX0 : X 0 = [] := by rw [hX]; rfl
  refine loop_st d3_0 (fun x : Nat × AV => 20 - x.1) (fun x s => (((s.set 5 x.2).set 6 (.str (jb sep ((X x.1).filter neS)))).set 7 (.bool (someB ((X x.1).filter neS)))).set 8 (.int .i64 x.1)) (fun x h' => x.1 ≤ 20 ∧ x.1 ≤ l.length ∧ Grow emp 1 x.2 (cat s1 (X x.1)) (X x.1).length h' ∧ Wr x.2) (0, .nils) ?_ ⟨Nat.zero_le _, Nat.zero_le _, by rw [hX0]; exact Grow.nil, Wr.nils⟩ ?_
  · simp only [hX0, List.filter_nil, jb_nil, someB, List.isEmpty_nil, Bool.not_true]
    (simp only [go_sem, Int.reduceEq, Int.reduceAdd, Int.reduceSub, Int.reduceMul, Nat.reduceLT, Int.reduceLT, Int.reduceLE, Int.reduceToNat, Nat.reduceAdd, Nat.reduceSub, Nat.reduceMul, Nat.reduceLeDiff, reduceCtorEq, d3_0] <;> rfl)
  rintro N ⟨k, v⟩ h1 ⟨hk20, hk, g, hw⟩ hN
  dsimp only at hk20 hk g hw hN
  simp only [go_sem, Int.reduceEq, Int.reduceAdd, Int.reduceSub, Int.reduceMul, Nat.reduceLT, Int.reduceLT, Int.reduceLE, Int.reduceToNat, Nat.reduceAdd, Nat.reduceSub, Nat.reduceMul, Nat.reduceLeDiff, reduceCtorEq, d3_0]
  have hadd := wadd1 (k := k) (by omega)
  have hlx := hXl k hk
  by_cases hlt : k < l.length ∧ (k : Int) < 20
  · obtain ⟨hlt, h20⟩ := hlt
    have hf : (X (k + 1)).filter neS = (X k).filter neS ++ (if neS (cutS l[k]) then [cutS l[k]] else []) := by
      rw [hXs k hlt, List.filter_append]; congr 1; simp only [List.filter_cons, List.filter_nil]
    have hsz := jb_size (m := 100) (sep := sep) (xs := (X k).filter neS) hs fun x hx => hXm k x (List.mem_filter.1 hx).1
    have hfl : ((X k).filter neS).length ≤ k := by have := List.length_filter_le neS (X k); omega
    have hfm : ((X k).filter neS).length * 100 ≤ 20 * 100 := Nat.mul_le_mul_right _ (by omega)
    have hcs := cutS_size l[k]
    have hsnoc : Grow emp 1 v (cat s1 (X k)) (X k).length h1 := g
    simp only [go_sem, Int.reduceEq, Int.reduceAdd, Int.reduceSub, Int.reduceMul, Nat.reduceLT, Int.reduceLT, Int.reduceLE, Int.reduceToNat, Nat.reduceAdd, Nat.reduceSub, Nat.reduceMul, Nat.reduceLeDiff, reduceCtorEq, hlt, h20, rdS hlt, lenA_str, if_min, cutS_at, co_str]
    refine E.Grow.add1W g rfl rfl (by omega) fun v' h' g' w' => ?_
    have g2 : Grow emp 1 v' (cat s1 (X (k + 1))) (X (k + 1)).length h' := by
      rw [hXs k hlt, cat_append, List.length_append]; exact g'
    simp only [go_sem, Int.reduceEq, Int.reduceAdd, Int.reduceSub, Int.reduceMul, Nat.reduceLT, Int.reduceLT, Int.reduceLE, Int.reduceToNat, Nat.reduceAdd, Nat.reduceSub, Nat.reduceMul, Nat.reduceLeDiff, reduceCtorEq, lenA_str]
    refine cond_split (fun hb => ?_) (fun hb => ?_)
    · simp only [decide_eq_true_eq] at hb
      have hn : neS (cutS l[k]) = false := decide_eq_false (by omega)
      rw [hn] at hf
      simp only [go_sem, Int.reduceEq, Int.reduceAdd, Int.reduceSub, Int.reduceMul, Nat.reduceLT, Int.reduceLT, Int.reduceLE, Int.reduceToNat, Nat.reduceAdd, Nat.reduceSub, Nat.reduceMul, Nat.reduceLeDiff, reduceCtorEq, hadd]
      refine hN (k + 1, v') _ _ (by dsimp only; omega) ?_ ⟨by dsimp only; omega, hlt, g2, w'⟩
      rw [hf]
      simp only [go_sem, Int.reduceEq, Int.reduceAdd, Int.reduceSub, Int.reduceMul, Nat.reduceLT, Int.reduceLT, Int.reduceLE, Int.reduceToNat, Nat.reduceAdd, Nat.reduceSub, Nat.reduceMul, Nat.reduceLeDiff, reduceCtorEq, d3_0, List.append_nil]
    · simp only [decide_eq_false_iff_not] at hb
      have hn : neS (cutS l[k]) = true := decide_eq_true (by omega)
      rw [hn] at hf
      cases he : (X k).filter neS with
      | nil =>
        rw [he] at hf
        simp only [go_sem, Int.reduceEq, Int.reduceAdd, Int.reduceSub, Int.reduceMul, Nat.reduceLT, Int.reduceLT, Int.reduceLE, Int.reduceToNat, Nat.reduceAdd, Nat.reduceSub, Nat.reduceMul, Nat.reduceLeDiff, reduceCtorEq, he, jb_nil, someB, List.isEmpty_nil, cat_str (x := ⟨#[]⟩) (y := cutS l[k]) (by show 0 + (cutS l[k]).size ≤ 1000000; omega), hadd]
        refine hN (k + 1, v') _ _ (by dsimp only; omega) ?_ ⟨by dsimp only; omega, hlt, g2, w'⟩
        have e0 : (⟨#[]⟩ : ByteArray) ++ cutS l[k] = cutS l[k] := by apply ba_ext; rw [ba_app]; rfl
        rw [hf]
        simp only [go_sem, Int.reduceEq, Int.reduceAdd, Int.reduceSub, Int.reduceMul, Nat.reduceLT, Int.reduceLT, Int.reduceLE, Int.reduceToNat, Nat.reduceAdd, Nat.reduceSub, Nat.reduceMul, Nat.reduceLeDiff, reduceCtorEq, d3_0, List.nil_append, jb_one, List.isEmpty_cons, e0, someB]
      | cons y ys =>
        rw [he] at hf hsz hfm
        have h5 := jb_snoc (sep := sep) (y := cutS l[k]) (xs := y :: ys) (by simp)
        simp only [go_sem, Int.reduceEq, Int.reduceAdd, Int.reduceSub, Int.reduceMul, Nat.reduceLT, Int.reduceLT, Int.reduceLE, Int.reduceToNat, Nat.reduceAdd, Nat.reduceSub, Nat.reduceMul, Nat.reduceLeDiff, reduceCtorEq, he, someB, List.isEmpty_cons, cat_str (x := jb sep (y :: ys)) (y := sep) (by omega), cat_str (x := jb sep (y :: ys) ++ sep) (y := cutS l[k]) (by rw [ByteArray.size_append]; omega), hadd]
        refine hN (k + 1, v') _ _ (by dsimp only; omega) ?_ ⟨by dsimp only; omega, hlt, g2, w'⟩
        rw [hf, if_pos rfl, h5]
        simp only [go_sem, Int.reduceEq, Int.reduceAdd, Int.reduceSub, Int.reduceMul, Nat.reduceLT, Int.reduceLT, Int.reduceLE, Int.reduceToNat, Nat.reduceAdd, Nat.reduceSub, Nat.reduceMul, Nat.reduceLeDiff, reduceCtorEq, d3_0, someB, List.cons_append, List.isEmpty_cons]
  · have h6 := hXm k
    have h7 : (X k).length ≤ 20 := by omega
    generalize X k = Y at *
    have fin : ∀ (K : AV → AHeap → Prop) (h2 : AHeap), Grow emp 1 v (cat s1 Y) Y.length h2 → K (.str (jb sep (Y.filter neS))) emp → callF Tryz.prog 6 [.str sep, v] h2 K := fun K h2 g2 hK =>
      (wjoin_spec sep Y false emp (by omega) (by omega) (fun x hx => by have := h6 x hx; omega)).useH g2.fzH (.cons (.refl _) (.cons g2.fz .nil)) hK
    clear hN
    rcases (show (k < l.length ∧ ¬ (k : Int) < 20) ∨ ¬ k < l.length by omega) with ⟨h1', h2'⟩ | h1' <;> (first | (simp only [go_sem, Int.reduceEq, Int.reduceAdd, Int.reduceSub, Int.reduceMul, Nat.reduceLT, Int.reduceLT, Int.reduceLE, Int.reduceToNat, Nat.reduceAdd, Nat.reduceSub, Nat.reduceMul, Nat.reduceLeDiff, reduceCtorEq, h1', h2']) | (simp only [go_sem, Int.reduceEq, Int.reduceAdd, Int.reduceSub, Int.reduceMul, Nat.reduceLT, Int.reduceLT, Int.reduceLE, Int.reduceToNat, Nat.reduceAdd, Nat.reduceSub, Nat.reduceMul, Nat.reduceLeDiff, reduceCtorEq, h1'])) <;>
    ( refine frz_id ?_
      simp only [go_sem, Int.reduceEq, Int.reduceAdd, Int.reduceSub, Int.reduceMul, Nat.reduceLT, Int.reduceLT, Int.reduceLE, Int.reduceToNat, Nat.reduceAdd, Nat.reduceSub, Nat.reduceMul, Nat.reduceLeDiff, reduceCtorEq]
      refine (known_spec _).use ?_
      simp only [go_sem, Int.reduceEq, Int.reduceAdd, Int.reduceSub, Int.reduceMul, Nat.reduceLT, Int.reduceLT, Int.reduceLE, Int.reduceToNat, Nat.reduceAdd, Nat.reduceSub, Nat.reduceMul, Nat.reduceLeDiff, reduceCtorEq]
      refine fin _ _ g ?_
      simp only [go_sem, Int.reduceEq, Int.reduceAdd, Int.reduceSub, Int.reduceMul, Nat.reduceLT, Int.reduceLT, Int.reduceLE, Int.reduceToNat, Nat.reduceAdd, Nat.reduceSub, Nat.reduceMul, Nat.reduceLeDiff, reduceCtorEq, binA_seq, beq_self_eq_true]
      (refine hQ _ _ _ _ _ (by first | exact .inr rfl | exact .inl rfl) rfl (by first | exact FzH.refl _ | exact FzH.sub (by (repeat' (first | exact Sub.refl _ | assumption | (refine Sub.upd ?_ (by first | assumption | (simp only [*]; done) | exact Sub.isNone (by assumption) (by assumption) | exact Sub.isNone (by assumption) (by simp only [*]))))))) (FzL.refl _ _ _) ?_; try (simp only [go_sem, Int.reduceEq, Int.reduceAdd, Int.reduceSub, Int.reduceMul, Nat.reduceLT, Int.reduceLT, Int.reduceLE, Int.reduceToNat, Nat.reduceAdd, Nat.reduceSub, Nat.reduceMul, Nat.reduceLeDiff, reduceCtorEq])) )

theorem sh_strs {n : Nat} {t : TypeId} {els : List (List AV)} (ht : Tryz.prog.underlying t = some .string) (h : ∀ el ∈ els, el.length = Tryz.prog.cellsOf t ∧ ShC Tryz.prog (n + 1) t el) : ∃ l : List ByteArray, els.flatten = cat s1 l ∧ els.length = l.length := by
  obtain ⟨l, e1, e2, _⟩ := sh_list (enc := s1) (R := fun _ => True) (els := els) fun el hel => by
    have := (h el hel).2
    simp only [ShC, ht] at this
    obtain ⟨i, rfl, _⟩ := this
    exact ⟨i, rfl, trivial⟩
  exact ⟨l, e1, e2⟩

theorem join_law (xs : List AV) (h : ArgsSh Tryz.prog 6 Tryz.f3.params.toList xs) : PureA Tryz.prog 3 xs emp (.bool true) := by
  rw [Tryz.params3] at h
  simp only [ArgsSh, ArgSh, Tryz.underlying9, Tryz.underlying22] at h
  obtain ⟨_, _, rfl, hb, _, _, rfl, hx, rfl⟩ := h
  rw [ShC] at hx hb
  simp only [Tryz.underlying22, Tryz.underlying9] at hx hb
  obtain ⟨els, e, hl, hels⟩ := hx
  obtain ⟨s, e3, _⟩ := hb
  cases e; cases e3
  obtain ⟨l, e1, e2⟩ := sh_strs Tryz.underlying9 hels
  rw [e1, e2]
  have hm := maxLen_le
  exact join_walk s l _ (by omega)

end Go.Proofs.YteijaibggalapaaGreatDoor
