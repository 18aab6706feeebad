/-
  addr.list and addr.Parse of any short text.
-/
import Derived.Test.YtdlghfekgecjjaaDoorAh
namespace Go.Proofs.YtdlghfekgecjjaaDoor
open Go E
set_option linter.unusedVariables false
set_option linter.unusedSimpArgs false
set_option maxRecDepth 100000

/-- A text's bytes. -/
def numsB (s : ByteArray) : List Int := s.data.toList.map fun c => (c.toNat : Int)
theorem str_nums (s : ByteArray) : strOfNums (numsB s) = s := by
  obtain ⟨⟨l⟩⟩ := s
  simp only [strOfNums, numsB, List.map_map]
  congr 2
  have : ((fun n : Int => UInt8.ofNat n.toNat) ∘ fun c : UInt8 => (c.toNat : Int)) = id := by
    funext c; simp
  rw [this, List.map_id]
theorem nums_byte (s : ByteArray) : ∀ x ∈ numsB s, 0 ≤ x ∧ x ≤ 255 := fun x hx => by
  obtain ⟨c, _, rfl⟩ := List.mem_map.1 hx
  have := c.toNat_lt
  show 0 ≤ (c.toNat : Int) ∧ (c.toNat : Int) ≤ 255
  omega
theorem nums_len (s : ByteArray) : (numsB s).length = s.size := by rw [numsB, List.length_map]; rfl

def colon : ByteArray := ByteArray.mk (Array.mk [58])
def lParts (s : ByteArray) : List ByteArray := Lib.splitB colon 0 (Lib.countB s colon) s
/-- Is a text a list of groups? -/
def lOk (s : ByteArray) : Bool := (s.toList == (ByteArray.mk (Array.mk [])).toList) || (lParts s).all fun p => gOkB (numsB p)

theorem lParts_le (s : ByteArray) : (lParts s).length ≤ s.size + 1 := by
  have h1 := Lib.countB_le colon (Nat.le_refl 1) s.size s (Nat.le_refl _)
  have h2 := Lib.splitB_all colon (Nat.le_refl 1) 0 _ s rfl
  unfold lParts
  omega

theorem gOkB_is {p : List Int} (h : gOkB p = true) : isPart p := by
  simp only [gOkB, Bool.and_eq_true, decide_eq_true_eq] at h
  exact ⟨h.1.1, h.1.2, h.2⟩

theorem nil_data {s : ByteArray} (h : (s.toList == (ByteArray.mk (Array.mk [])).toList) = true) : s = ByteArray.mk (Array.mk []) := by
  have := eq_of_beq h
  rw [Lib.toList_data, Lib.toList_data] at this
  exact ByteArray.ext (by simpa using congrArg List.toArray this)

theorem lOk_is {s : ByteArray} (hs : s.size ≤ 60) (h : lOk s = true) : ∃ L, LOk s L := by
  unfold lOk at h
  cases e : (s.toList == (ByteArray.mk (Array.mk [])).toList)
  · rw [e, Bool.false_or] at h
    have hl := lParts_le s
    refine ⟨(lParts s).map numsB, .inr ⟨?_, by omega, e, fun p hp => ?_, by rw [List.length_map]; omega⟩⟩
    · have : strOfNums ∘ numsB = id := by funext x; exact str_nums x
      rw [List.map_map, this, List.map_id]
      rfl
    · obtain ⟨q, hq, rfl⟩ := List.mem_map.1 hp
      exact gOkB_is (List.all_eq_true.1 h q hq)
  · exact ⟨[], .inl ⟨nil_data e, rfl⟩⟩

theorem list_bad (s : ByteArray) (hs : s.size ≤ 60) (hb : lOk s = false) (h : AHeap) : PureA Tryd.prog 30 [.str s] h (.tup [.nils, .bool false]) := by
  unfold lOk at hb
  rw [Bool.or_eq_false_iff] at hb
  obtain ⟨hne, hbad⟩ := hb
  have hl := lParts_le s
  have sp := split_spec s (ByteArray.mk (Array.mk [58])) (by omega) (Nat.le_refl 1)
  rw [show Lib.splitB (ByteArray.mk (Array.mk [58])) 0 (Lib.countB s (ByteArray.mk (Array.mk [58]))) s = lParts s from rfl] at sp
  generalize lParts s = parts at *
  (refine PureA.enter (ac := c30) (rs := r30) Tryd.func30 rfl (by decide) c30_ok r30_ok ?_; intro Q hQ; simp only [go_sem, Int.reduceEq, Int.reduceAdd, Int.reduceSub, Int.reduceMul, Nat.reduceLT, Int.reduceLT, Int.reduceLE, Int.reduceToNat, Nat.reduceAdd, Nat.reduceSub, Nat.reduceMul, Nat.reduceLeDiff, reduceCtorEq, c30, Tryd.ntmps30, hne])
  refine (sp _).use ?_
  simp only [go_sem, Int.reduceEq, Int.reduceAdd, Int.reduceSub, Int.reduceMul, Nat.reduceLT, Int.reduceLT, Int.reduceLE, Int.reduceToNat, Nat.reduceAdd, Nat.reduceSub, Nat.reduceMul, Nat.reduceLeDiff, reduceCtorEq]
  refine loop_st d30_0 (fun x : Nat × AV => parts.length - x.1) (fun x s => (s.set 4 x.2).set 14 (.int .i64 (x.1 : Int))) (fun x H => x.1 ≤ parts.length ∧ ((parts.take x.1).all fun p => gOkB (numsB p)) = true ∧ Grow h 1 x.2 (cat i1 ((parts.take x.1).map fun p => valL (numsB p))) x.1 H ∧ Wr x.2) (0, .nils) ?_ ⟨Nat.zero_le _, rfl, Grow.nil, Wr.nils⟩ ?_
  · (simp only [go_sem, Int.reduceEq, Int.reduceAdd, Int.reduceSub, Int.reduceMul, Nat.reduceLT, Int.reduceLT, Int.reduceLE, Int.reduceToNat, Nat.reduceAdd, Nat.reduceSub, Nat.reduceMul, Nat.reduceLeDiff, reduceCtorEq, d30_0] <;> rfl)
  rintro N ⟨k, v⟩ H ⟨hk, hall, g0, hw⟩ hN
  simp only at hk hall g0 hw
  simp only [go_sem, Int.reduceEq, Int.reduceAdd, Int.reduceSub, Int.reduceMul, Nat.reduceLT, Int.reduceLT, Int.reduceLE, Int.reduceToNat, Nat.reduceAdd, Nat.reduceSub, Nat.reduceMul, Nat.reduceLeDiff, reduceCtorEq, d30_0]
  have hadd := wadd1 (k := k) (by omega)
  by_cases hlt : k < parts.length
  · have rd := rd_first (h := H) (enc := s1) s1_len (by omega) hlt
    simp only [Nat.mul_one, s1] at rd
    have gs := group_spec (numsB parts[k]) (nums_byte _) H
    rw [str_nums] at gs
    simp only [go_sem, Int.reduceEq, Int.reduceAdd, Int.reduceSub, Int.reduceMul, Nat.reduceLT, Int.reduceLT, Int.reduceLE, Int.reduceToNat, Nat.reduceAdd, Nat.reduceSub, Nat.reduceMul, Nat.reduceLeDiff, reduceCtorEq, hlt, hadd, rd, List.getElem?_cons_zero]
    refine gs.use ?_
    unfold groupV
    cases eg : gOkB (numsB parts[k])
    · simp only [go_sem, Int.reduceEq, Int.reduceAdd, Int.reduceSub, Int.reduceMul, Nat.reduceLT, Int.reduceLT, Int.reduceLE, Int.reduceToNat, Nat.reduceAdd, Nat.reduceSub, Nat.reduceMul, Nat.reduceLeDiff, reduceCtorEq]
      refine hQ _ _ _ _ _ (by first | exact .inr rfl | exact .inl rfl) rfl g0.fzH (FzL.refl _ _ _) ?_
      simp only [go_sem, Int.reduceEq, Int.reduceAdd, Int.reduceSub, Int.reduceMul, Nat.reduceLT, Int.reduceLT, Int.reduceLE, Int.reduceToNat, Nat.reduceAdd, Nat.reduceSub, Nat.reduceMul, Nat.reduceLeDiff, reduceCtorEq]
    · simp only [go_sem, Int.reduceEq, Int.reduceAdd, Int.reduceSub, Int.reduceMul, Nat.reduceLT, Int.reduceLT, Int.reduceLE, Int.reduceToNat, Nat.reduceAdd, Nat.reduceSub, Nat.reduceMul, Nat.reduceLeDiff, reduceCtorEq]
      refine g0.add1W (x := i1 (valL (numsB parts[k]))) rfl rfl (by omega) fun v' H' g' hw' => ?_
      simp only [go_sem, Int.reduceEq, Int.reduceAdd, Int.reduceSub, Int.reduceMul, Nat.reduceLT, Int.reduceLT, Int.reduceLE, Int.reduceToNat, Nat.reduceAdd, Nat.reduceSub, Nat.reduceMul, Nat.reduceLeDiff, reduceCtorEq, hadd]
      refine hN (k + 1, v') _ _ (by simp only; omega) ?_ ⟨hlt, ?_, ?_, hw'⟩
      · simp only [go_sem, Int.reduceEq, Int.reduceAdd, Int.reduceSub, Int.reduceMul, Nat.reduceLT, Int.reduceLT, Int.reduceLE, Int.reduceToNat, Nat.reduceAdd, Nat.reduceSub, Nat.reduceMul, Nat.reduceLeDiff, reduceCtorEq, d30_0]
      · simp only
        rw [List.take_succ_eq_append_getElem hlt, List.all_append, hall]
        simp [eg]
      · simp only
        rw [List.take_succ_eq_append_getElem hlt, List.map_append, cat_append]
        exact g'
  · have hk' : k = parts.length := by omega
    subst hk'
    rw [List.take_length] at hall
    rw [hall] at hbad
    cases hbad

/-- A text of at most sixty bytes: how it is parted at its first '::'. -/
theorem cut_is (s : ByteArray) (hs : s.size ≤ 60) : ∃ (front back : ByteArray) (isb : Bool), Lib.cut s.data.toList (ByteArray.mk (Array.mk [58, 58])).data.toList = (front.data.toList, back.data.toList, isb) ∧ front.size ≤ 60 ∧ back.size ≤ 60 := by
  have hd : s.data.toList.length = s.size := rfl
  refine ⟨⟨(Lib.cut s.data.toList (ByteArray.mk (Array.mk [58, 58])).data.toList).1.toArray⟩, ⟨(Lib.cut s.data.toList (ByteArray.mk (Array.mk [58, 58])).data.toList).2.1.toArray⟩, (Lib.cut s.data.toList (ByteArray.mk (Array.mk [58, 58])).data.toList).2.2, rfl, ?_, ?_⟩
  · simp only [ByteArray.size, List.size_toArray]
    unfold Lib.cut
    split
    · simp only [List.length_take]; omega
    · simp only; omega
  · simp only [ByteArray.size, List.size_toArray]
    unfold Lib.cut
    split
    · simp only [List.length_drop]; omega
    · simp

def noA : AV := .tup [.agg (cat b1 zeroA), .int .i64 3]

set_option maxHeartbeats 4000000 in
/-- The front, or the back, is no list of groups. -/
theorem parse_bad1 (s front back : ByteArray) (isb : Bool) (hs : s.size ≤ 60)
    (hcut : Lib.cut s.data.toList (ByteArray.mk (Array.mk [58, 58])).data.toList = (front.data.toList, back.data.toList, isb)) (hf : front.size ≤ 60) (hb : back.size ≤ 60) (hbad : lOk front = false ∨ lOk back = false) (h : AHeap) :
    PureA Tryd.prog 10 [.str s] h noA := by
  have hc := cut_spec s (ByteArray.mk (Array.mk [58, 58])) (by omega)
  rw [hcut] at hc
  (refine PureA.enter (ac := c10) (rs := r10) Tryd.func10 rfl (by decide) c10_ok r10_ok ?_; intro Q hQ; simp only [go_sem, Int.reduceEq, Int.reduceAdd, Int.reduceSub, Int.reduceMul, Nat.reduceLT, Int.reduceLT, Int.reduceLE, Int.reduceToNat, Nat.reduceAdd, Nat.reduceSub, Nat.reduceMul, Nat.reduceLeDiff, reduceCtorEq, c10, Tryd.ntmps10])
  intro p hp
  refine (hc _).use ?_
  simp only [go_sem, Int.reduceEq, Int.reduceAdd, Int.reduceSub, Int.reduceMul, Nat.reduceLT, Int.reduceLT, Int.reduceLE, Int.reduceToNat, Nat.reduceAdd, Nat.reduceSub, Nat.reduceMul, Nat.reduceLeDiff, reduceCtorEq]
  cases ef : lOk front
  · refine (list_bad front hf ef _).use ?_
    simp only [go_sem, Int.reduceEq, Int.reduceAdd, Int.reduceSub, Int.reduceMul, Nat.reduceLT, Int.reduceLT, Int.reduceLE, Int.reduceToNat, Nat.reduceAdd, Nat.reduceSub, Nat.reduceMul, Nat.reduceLeDiff, reduceCtorEq]
    cases eb : lOk back
    · refine (list_bad back hb eb _).use ?_
      simp only [go_sem, Int.reduceEq, Int.reduceAdd, Int.reduceSub, Int.reduceMul, Nat.reduceLT, Int.reduceLT, Int.reduceLE, Int.reduceToNat, Nat.reduceAdd, Nat.reduceSub, Nat.reduceMul, Nat.reduceLeDiff, reduceCtorEq]
      refine hQ _ _ _ _ _ (by first | exact .inr rfl | exact .inl rfl) (by first | rfl | (simp only [go_sem, Int.reduceEq, Int.reduceAdd, Int.reduceSub, Int.reduceMul, Nat.reduceLT, Int.reduceLT, Int.reduceLE, Int.reduceToNat, Nat.reduceAdd, Nat.reduceSub, Nat.reduceMul, Nat.reduceLeDiff, reduceCtorEq, r10]; rfl) | simp only [go_sem, Int.reduceEq, Int.reduceAdd, Int.reduceSub, Int.reduceMul, Nat.reduceLT, Int.reduceLT, Int.reduceLE, Int.reduceToNat, Nat.reduceAdd, Nat.reduceSub, Nat.reduceMul, Nat.reduceLeDiff, reduceCtorEq, r10]) (FzH.sub (by (repeat' (first | exact Sub.refl _ | assumption | (refine Sub.upd ?_ (by first | assumption | (simp only [*]; done) | exact Sub.isNone (by assumption) (by assumption) | exact Sub.isNone (by assumption) (by simp only [*]))))))) (FzL.refl _ _ _) ?_
      rfl
    · obtain ⟨M, hM⟩ := lOk_is hb eb
      refine (list_still hM _).use ?_
      simp only [go_sem, Int.reduceEq, Int.reduceAdd, Int.reduceSub, Int.reduceMul, Nat.reduceLT, Int.reduceLT, Int.reduceLE, Int.reduceToNat, Nat.reduceAdd, Nat.reduceSub, Nat.reduceMul, Nat.reduceLeDiff, reduceCtorEq]
      refine hQ _ _ _ _ _ (by first | exact .inr rfl | exact .inl rfl) (by first | rfl | (simp only [go_sem, Int.reduceEq, Int.reduceAdd, Int.reduceSub, Int.reduceMul, Nat.reduceLT, Int.reduceLT, Int.reduceLE, Int.reduceToNat, Nat.reduceAdd, Nat.reduceSub, Nat.reduceMul, Nat.reduceLeDiff, reduceCtorEq, r10]; rfl) | simp only [go_sem, Int.reduceEq, Int.reduceAdd, Int.reduceSub, Int.reduceMul, Nat.reduceLT, Int.reduceLT, Int.reduceLE, Int.reduceToNat, Nat.reduceAdd, Nat.reduceSub, Nat.reduceMul, Nat.reduceLeDiff, reduceCtorEq, r10]) (FzH.sub (by (repeat' (first | exact Sub.refl _ | assumption | (refine Sub.upd ?_ (by first | assumption | (simp only [*]; done) | exact Sub.isNone (by assumption) (by assumption) | exact Sub.isNone (by assumption) (by simp only [*]))))))) (FzL.refl _ _ _) ?_
      rfl
  · have eb : lOk back = false := by rcases hbad with e | e <;> simp_all
    obtain ⟨L, hL⟩ := lOk_is hf ef
    refine (list_still hL _).use ?_
    simp only [go_sem, Int.reduceEq, Int.reduceAdd, Int.reduceSub, Int.reduceMul, Nat.reduceLT, Int.reduceLT, Int.reduceLE, Int.reduceToNat, Nat.reduceAdd, Nat.reduceSub, Nat.reduceMul, Nat.reduceLeDiff, reduceCtorEq]
    refine (list_bad back hb eb _).use ?_
    simp only [go_sem, Int.reduceEq, Int.reduceAdd, Int.reduceSub, Int.reduceMul, Nat.reduceLT, Int.reduceLT, Int.reduceLE, Int.reduceToNat, Nat.reduceAdd, Nat.reduceSub, Nat.reduceMul, Nat.reduceLeDiff, reduceCtorEq]
    refine hQ _ _ _ _ _ (by first | exact .inr rfl | exact .inl rfl) (by first | rfl | (simp only [go_sem, Int.reduceEq, Int.reduceAdd, Int.reduceSub, Int.reduceMul, Nat.reduceLT, Int.reduceLT, Int.reduceLE, Int.reduceToNat, Nat.reduceAdd, Nat.reduceSub, Nat.reduceMul, Nat.reduceLeDiff, reduceCtorEq, r10]; rfl) | simp only [go_sem, Int.reduceEq, Int.reduceAdd, Int.reduceSub, Int.reduceMul, Nat.reduceLT, Int.reduceLT, Int.reduceLE, Int.reduceToNat, Nat.reduceAdd, Nat.reduceSub, Nat.reduceMul, Nat.reduceLeDiff, reduceCtorEq, r10]) (FzH.sub (by (repeat' (first | exact Sub.refl _ | assumption | (refine Sub.upd ?_ (by first | assumption | (simp only [*]; done) | exact Sub.isNone (by assumption) (by assumption) | exact Sub.isNone (by assumption) (by simp only [*]))))))) (FzL.refl _ _ _) ?_
    rfl

set_option maxHeartbeats 4000000 in
/-- There are too many groups; or they are none; or the text is another. -/
theorem parse_bad2 (s front back : ByteArray) (isb : Bool) (L M : List (List Int)) (hs : s.size ≤ 60)
    (hcut : Lib.cut s.data.toList (ByteArray.mk (Array.mk [58, 58])).data.toList = (front.data.toList, back.data.toList, isb)) (h1 : LOk front L) (h2 : LOk back M) (hLM : L.length ≤ 100 ∧ M.length ≤ 100)
    (hbad : ¬ (L.length + M.length ≤ 8 ∧ ofOk (fullG isb (L.map valL) (M.map valL)) = true ∧ s = strOfNums (textL (ofG (fullG isb (L.map valL) (M.map valL)))))) (h : AHeap) :
    PureA Tryd.prog 10 [.str s] h noA := by
  have hc := cut_spec s (ByteArray.mk (Array.mk [58, 58])) (by omega)
  rw [hcut] at hc
  have l1 : (L.map valL).length = L.length := by simp
  have l2 : (M.map valL).length = M.length := by simp
  generalize hl : L.map valL = l at *
  generalize hm : M.map valL = m at *
  have wl1 : IntKind.i64.wrap ((l.length : Int) + (m.length : Int)) = ((l.length + m.length : Nat) : Int) := by rw [w64 (by omega) (by omega)]; omega
  (refine PureA.enter (ac := c10) (rs := r10) Tryd.func10 rfl (by decide) c10_ok r10_ok ?_; intro Q hQ; simp only [go_sem, Int.reduceEq, Int.reduceAdd, Int.reduceSub, Int.reduceMul, Nat.reduceLT, Int.reduceLT, Int.reduceLE, Int.reduceToNat, Nat.reduceAdd, Nat.reduceSub, Nat.reduceMul, Nat.reduceLeDiff, reduceCtorEq, c10, Tryd.ntmps10])
  intro p hp
  refine (hc _).use ?_
  simp only [go_sem, Int.reduceEq, Int.reduceAdd, Int.reduceSub, Int.reduceMul, Nat.reduceLT, Int.reduceLT, Int.reduceLE, Int.reduceToNat, Nat.reduceAdd, Nat.reduceSub, Nat.reduceMul, Nat.reduceLeDiff, reduceCtorEq]
  by_cases h8 : L.length + M.length ≤ 8
  · refine (list_any h1 _).use ?_
    rintro r H ⟨v, rfl, g, hw⟩
    rw [hl] at g
    simp only [go_sem, Int.reduceEq, Int.reduceAdd, Int.reduceSub, Int.reduceMul, Nat.reduceLT, Int.reduceLT, Int.reduceLE, Int.reduceToNat, Nat.reduceAdd, Nat.reduceSub, Nat.reduceMul, Nat.reduceLeDiff, reduceCtorEq]
    refine (list_still h2 _).use ?_
    rw [hm]
    have g8 : decide ((8 : Int) < ((l.length + m.length : Nat) : Int)) = false := decide_eq_false (by omega)
    simp only [go_sem, Int.reduceEq, Int.reduceAdd, Int.reduceSub, Int.reduceMul, Nat.reduceLT, Int.reduceLT, Int.reduceLE, Int.reduceToNat, Nat.reduceAdd, Nat.reduceSub, Nat.reduceMul, Nat.reduceLeDiff, reduceCtorEq, g.len, lenA_ro, wl1, g8]
    have hof := of_spec (fullG isb l m)
    have hfl : (fullG isb l m).length ≤ 16 := by
      unfold fullG
      split
      · simp only [List.length_append, List.length_replicate]; omega
      · simp only [List.length_append]; omega
    generalize hfull : fullG isb l m = full at *
    have wz1 : IntKind.i64.wrap (8 - (l.length : Int)) = ((8 - l.length : Nat) : Int) := by rw [w64 (by omega) (by omega)]; omega
    have wz2 : IntKind.i64.wrap (((8 - l.length : Nat) : Int) - (m.length : Int)) = ((8 - l.length - m.length : Nat) : Int) := by rw [w64 (by omega) (by omega)]; omega
    unfold ofV at hof
    cases eo : ofOk full
    · rw [eo] at hof
      have hAl : (cat b1 zeroA).length = 16 := rfl
      have hAs := cat_sca b1_sca zeroA
      have hAt : (cat b1 zeroA).take 16 = cat b1 zeroA := rfl
      cases isb
      · simp only [go_sem, Int.reduceEq, Int.reduceAdd, Int.reduceSub, Int.reduceMul, Nat.reduceLT, Int.reduceLT, Int.reduceLE, Int.reduceToNat, Nat.reduceAdd, Nat.reduceSub, Nat.reduceMul, Nat.reduceLeDiff, reduceCtorEq]
        refine g.nums (by omega) fun v2 H2 g2 => ?_
        rw [show l ++ m = full from by rw [← hfull]; rfl] at g2
        simp only [go_sem, Int.reduceEq, Int.reduceAdd, Int.reduceSub, Int.reduceMul, Nat.reduceLT, Int.reduceLT, Int.reduceLE, Int.reduceToNat, Nat.reduceAdd, Nat.reduceSub, Nat.reduceMul, Nat.reduceLeDiff, reduceCtorEq]
        refine (hof false _ (by omega)).useH g2.fzH (.cons g2.fz .nil) ?_
        simp only [go_sem, Int.reduceEq, Int.reduceAdd, Int.reduceSub, Int.reduceMul, Nat.reduceLT, Int.reduceLT, Int.reduceLE, Int.reduceToNat, Nat.reduceAdd, Nat.reduceSub, Nat.reduceMul, Nat.reduceLeDiff, reduceCtorEq]
        intro q hq
        obtain ⟨hpq, hq2⟩ := two_ne hq
        have hqp : q ≠ p := fun e => hpq e.symm
        simp only [go_sem, Int.reduceEq, Int.reduceAdd, Int.reduceSub, Int.reduceMul, Nat.reduceLT, Int.reduceLT, Int.reduceLE, Int.reduceToNat, Nat.reduceAdd, Nat.reduceSub, Nat.reduceMul, Nat.reduceLeDiff, reduceCtorEq, del_same, del_none hq, hAl, hAs, hAt, Nat.le_refl, if_true]
        refine hQ _ _ _ _ _ (by first | exact .inr rfl | exact .inl rfl) (by first | rfl | (simp only [go_sem, Int.reduceEq, Int.reduceAdd, Int.reduceSub, Int.reduceMul, Nat.reduceLT, Int.reduceLT, Int.reduceLE, Int.reduceToNat, Nat.reduceAdd, Nat.reduceSub, Nat.reduceMul, Nat.reduceLeDiff, reduceCtorEq, r10]; rfl) | simp only [go_sem, Int.reduceEq, Int.reduceAdd, Int.reduceSub, Int.reduceMul, Nat.reduceLT, Int.reduceLT, Int.reduceLE, Int.reduceToNat, Nat.reduceAdd, Nat.reduceSub, Nat.reduceMul, Nat.reduceLeDiff, reduceCtorEq, r10]) (FzH.sub (by (repeat' (first | exact Sub.refl _ | assumption | (refine Sub.upd ?_ (by first | assumption | (simp only [*]; done) | exact Sub.isNone (by assumption) (by assumption) | exact Sub.isNone (by assumption) (by simp only [*]))))))) (FzL.refl _ _ _) ?_
        rfl
      · simp only [go_sem, Int.reduceEq, Int.reduceAdd, Int.reduceSub, Int.reduceMul, Nat.reduceLT, Int.reduceLT, Int.reduceLE, Int.reduceToNat, Nat.reduceAdd, Nat.reduceSub, Nat.reduceMul, Nat.reduceLeDiff, reduceCtorEq, g.len, lenA_ro, wz1, wz2]
        refine g.zeros (k := 8 - l.length - m.length) hw (by omega) fun v' H' g' hw' => ?_
        simp only [go_sem, Int.reduceEq, Int.reduceAdd, Int.reduceSub, Int.reduceMul, Nat.reduceLT, Int.reduceLT, Int.reduceLE, Int.reduceToNat, Nat.reduceAdd, Nat.reduceSub, Nat.reduceMul, Nat.reduceLeDiff, reduceCtorEq]
        refine g'.nums (by simp only [List.length_append, List.length_replicate]; omega) fun v2 H2 g2 => ?_
        rw [show (l ++ List.replicate (8 - l.length - m.length) 0) ++ m = full from by rw [← hfull]; rfl] at g2
        simp only [go_sem, Int.reduceEq, Int.reduceAdd, Int.reduceSub, Int.reduceMul, Nat.reduceLT, Int.reduceLT, Int.reduceLE, Int.reduceToNat, Nat.reduceAdd, Nat.reduceSub, Nat.reduceMul, Nat.reduceLeDiff, reduceCtorEq]
        refine (hof false _ (by omega)).useH g2.fzH (.cons g2.fz .nil) ?_
        simp only [go_sem, Int.reduceEq, Int.reduceAdd, Int.reduceSub, Int.reduceMul, Nat.reduceLT, Int.reduceLT, Int.reduceLE, Int.reduceToNat, Nat.reduceAdd, Nat.reduceSub, Nat.reduceMul, Nat.reduceLeDiff, reduceCtorEq]
        intro q hq
        obtain ⟨hpq, hq2⟩ := two_ne hq
        have hqp : q ≠ p := fun e => hpq e.symm
        simp only [go_sem, Int.reduceEq, Int.reduceAdd, Int.reduceSub, Int.reduceMul, Nat.reduceLT, Int.reduceLT, Int.reduceLE, Int.reduceToNat, Nat.reduceAdd, Nat.reduceSub, Nat.reduceMul, Nat.reduceLeDiff, reduceCtorEq, del_same, del_none hq, hAl, hAs, hAt, Nat.le_refl, if_true]
        refine hQ _ _ _ _ _ (by first | exact .inr rfl | exact .inl rfl) (by first | rfl | (simp only [go_sem, Int.reduceEq, Int.reduceAdd, Int.reduceSub, Int.reduceMul, Nat.reduceLT, Int.reduceLT, Int.reduceLE, Int.reduceToNat, Nat.reduceAdd, Nat.reduceSub, Nat.reduceMul, Nat.reduceLeDiff, reduceCtorEq, r10]; rfl) | simp only [go_sem, Int.reduceEq, Int.reduceAdd, Int.reduceSub, Int.reduceMul, Nat.reduceLT, Int.reduceLT, Int.reduceLE, Int.reduceToNat, Nat.reduceAdd, Nat.reduceSub, Nat.reduceMul, Nat.reduceLeDiff, reduceCtorEq, r10]) (FzH.sub (by (repeat' (first | exact Sub.refl _ | assumption | (refine Sub.upd ?_ (by first | assumption | (simp only [*]; done) | exact Sub.isNone (by assumption) (by assumption) | exact Sub.isNone (by assumption) (by simp only [*]))))))) (FzL.refl _ _ _) ?_
        rfl
    · rw [eo] at hof
      have hne : s ≠ strOfNums (textL (ofG full)) := fun e => hbad ⟨h8, eo, e⟩
      have hA := ofG_is eo
      have hT := text_spec _ hA
      generalize hA2 : ofG full = A at *
      have hAl : (cat b1 A).length = 16 := by rw [cat_len b1_len, hA.1]
      have hAs := cat_sca b1_sca A
      have hAt : (cat b1 A).take 16 = cat b1 A := List.take_of_length_le (by omega)
      have hbq : ((strOfNums (textL A)).toList == s.toList) = false := by
        rw [Lib.toList_data, Lib.toList_data]
        apply Bool.eq_false_iff.2
        intro e
        apply hne
        have e2 := eq_of_beq e
        exact ByteArray.ext (by rw [← Array.toArray_toList (xs := s.data), ← Array.toArray_toList (xs := (strOfNums (textL A)).data), e2])
      cases isb
      · simp only [go_sem, Int.reduceEq, Int.reduceAdd, Int.reduceSub, Int.reduceMul, Nat.reduceLT, Int.reduceLT, Int.reduceLE, Int.reduceToNat, Nat.reduceAdd, Nat.reduceSub, Nat.reduceMul, Nat.reduceLeDiff, reduceCtorEq]
        refine g.nums (by omega) fun v2 H2 g2 => ?_
        rw [show l ++ m = full from by rw [← hfull]; rfl] at g2
        simp only [go_sem, Int.reduceEq, Int.reduceAdd, Int.reduceSub, Int.reduceMul, Nat.reduceLT, Int.reduceLT, Int.reduceLE, Int.reduceToNat, Nat.reduceAdd, Nat.reduceSub, Nat.reduceMul, Nat.reduceLeDiff, reduceCtorEq]
        refine (hof false _ (by omega)).useH g2.fzH (.cons g2.fz .nil) ?_
        simp only [go_sem, Int.reduceEq, Int.reduceAdd, Int.reduceSub, Int.reduceMul, Nat.reduceLT, Int.reduceLT, Int.reduceLE, Int.reduceToNat, Nat.reduceAdd, Nat.reduceSub, Nat.reduceMul, Nat.reduceLeDiff, reduceCtorEq]
        intro q hq
        obtain ⟨hpq, hq2⟩ := two_ne hq
        have hqp : q ≠ p := fun e => hpq e.symm
        simp only [go_sem, Int.reduceEq, Int.reduceAdd, Int.reduceSub, Int.reduceMul, Nat.reduceLT, Int.reduceLT, Int.reduceLE, Int.reduceToNat, Nat.reduceAdd, Nat.reduceSub, Nat.reduceMul, Nat.reduceLeDiff, reduceCtorEq, del_same, del_none hq, hAl, hAs, hAt, Nat.le_refl, if_true]
        refine (hT _).use ?_
        simp only [go_sem, Int.reduceEq, Int.reduceAdd, Int.reduceSub, Int.reduceMul, Nat.reduceLT, Int.reduceLT, Int.reduceLE, Int.reduceToNat, Nat.reduceAdd, Nat.reduceSub, Nat.reduceMul, Nat.reduceLeDiff, reduceCtorEq, hbq, Bool.not_false, hAl, hAs, hAt, Nat.le_refl, if_true]
        refine hQ _ _ _ _ _ (by first | exact .inr rfl | exact .inl rfl) (by first | rfl | (simp only [go_sem, Int.reduceEq, Int.reduceAdd, Int.reduceSub, Int.reduceMul, Nat.reduceLT, Int.reduceLT, Int.reduceLE, Int.reduceToNat, Nat.reduceAdd, Nat.reduceSub, Nat.reduceMul, Nat.reduceLeDiff, reduceCtorEq, r10]; rfl) | simp only [go_sem, Int.reduceEq, Int.reduceAdd, Int.reduceSub, Int.reduceMul, Nat.reduceLT, Int.reduceLT, Int.reduceLE, Int.reduceToNat, Nat.reduceAdd, Nat.reduceSub, Nat.reduceMul, Nat.reduceLeDiff, reduceCtorEq, r10]) (FzH.sub (by (repeat' (first | exact Sub.refl _ | assumption | (refine Sub.upd ?_ (by first | assumption | (simp only [*]; done) | exact Sub.isNone (by assumption) (by assumption) | exact Sub.isNone (by assumption) (by simp only [*]))))))) (FzL.refl _ _ _) ?_
        rfl
      · simp only [go_sem, Int.reduceEq, Int.reduceAdd, Int.reduceSub, Int.reduceMul, Nat.reduceLT, Int.reduceLT, Int.reduceLE, Int.reduceToNat, Nat.reduceAdd, Nat.reduceSub, Nat.reduceMul, Nat.reduceLeDiff, reduceCtorEq, g.len, lenA_ro, wz1, wz2]
        refine g.zeros (k := 8 - l.length - m.length) hw (by omega) fun v' H' g' hw' => ?_
        simp only [go_sem, Int.reduceEq, Int.reduceAdd, Int.reduceSub, Int.reduceMul, Nat.reduceLT, Int.reduceLT, Int.reduceLE, Int.reduceToNat, Nat.reduceAdd, Nat.reduceSub, Nat.reduceMul, Nat.reduceLeDiff, reduceCtorEq]
        refine g'.nums (by simp only [List.length_append, List.length_replicate]; omega) fun v2 H2 g2 => ?_
        rw [show (l ++ List.replicate (8 - l.length - m.length) 0) ++ m = full from by rw [← hfull]; rfl] at g2
        simp only [go_sem, Int.reduceEq, Int.reduceAdd, Int.reduceSub, Int.reduceMul, Nat.reduceLT, Int.reduceLT, Int.reduceLE, Int.reduceToNat, Nat.reduceAdd, Nat.reduceSub, Nat.reduceMul, Nat.reduceLeDiff, reduceCtorEq]
        refine (hof false _ (by omega)).useH g2.fzH (.cons g2.fz .nil) ?_
        simp only [go_sem, Int.reduceEq, Int.reduceAdd, Int.reduceSub, Int.reduceMul, Nat.reduceLT, Int.reduceLT, Int.reduceLE, Int.reduceToNat, Nat.reduceAdd, Nat.reduceSub, Nat.reduceMul, Nat.reduceLeDiff, reduceCtorEq]
        intro q hq
        obtain ⟨hpq, hq2⟩ := two_ne hq
        have hqp : q ≠ p := fun e => hpq e.symm
        simp only [go_sem, Int.reduceEq, Int.reduceAdd, Int.reduceSub, Int.reduceMul, Nat.reduceLT, Int.reduceLT, Int.reduceLE, Int.reduceToNat, Nat.reduceAdd, Nat.reduceSub, Nat.reduceMul, Nat.reduceLeDiff, reduceCtorEq, del_same, del_none hq, hAl, hAs, hAt, Nat.le_refl, if_true]
        refine (hT _).use ?_
        simp only [go_sem, Int.reduceEq, Int.reduceAdd, Int.reduceSub, Int.reduceMul, Nat.reduceLT, Int.reduceLT, Int.reduceLE, Int.reduceToNat, Nat.reduceAdd, Nat.reduceSub, Nat.reduceMul, Nat.reduceLeDiff, reduceCtorEq, hbq, Bool.not_false, hAl, hAs, hAt, Nat.le_refl, if_true]
        refine hQ _ _ _ _ _ (by first | exact .inr rfl | exact .inl rfl) (by first | rfl | (simp only [go_sem, Int.reduceEq, Int.reduceAdd, Int.reduceSub, Int.reduceMul, Nat.reduceLT, Int.reduceLT, Int.reduceLE, Int.reduceToNat, Nat.reduceAdd, Nat.reduceSub, Nat.reduceMul, Nat.reduceLeDiff, reduceCtorEq, r10]; rfl) | simp only [go_sem, Int.reduceEq, Int.reduceAdd, Int.reduceSub, Int.reduceMul, Nat.reduceLT, Int.reduceLT, Int.reduceLE, Int.reduceToNat, Nat.reduceAdd, Nat.reduceSub, Nat.reduceMul, Nat.reduceLeDiff, reduceCtorEq, r10]) (FzH.sub (by (repeat' (first | exact Sub.refl _ | assumption | (refine Sub.upd ?_ (by first | assumption | (simp only [*]; done) | exact Sub.isNone (by assumption) (by assumption) | exact Sub.isNone (by assumption) (by simp only [*]))))))) (FzL.refl _ _ _) ?_
        rfl
  · have g8 : decide ((8 : Int) < ((l.length + m.length : Nat) : Int)) = true := decide_eq_true (by omega)
    refine (list_still h1 _).use ?_
    rw [hl]
    simp only [go_sem, Int.reduceEq, Int.reduceAdd, Int.reduceSub, Int.reduceMul, Nat.reduceLT, Int.reduceLT, Int.reduceLE, Int.reduceToNat, Nat.reduceAdd, Nat.reduceSub, Nat.reduceMul, Nat.reduceLeDiff, reduceCtorEq]
    refine (list_still h2 _).use ?_
    rw [hm]
    simp only [go_sem, Int.reduceEq, Int.reduceAdd, Int.reduceSub, Int.reduceMul, Nat.reduceLT, Int.reduceLT, Int.reduceLE, Int.reduceToNat, Nat.reduceAdd, Nat.reduceSub, Nat.reduceMul, Nat.reduceLeDiff, reduceCtorEq, lenA_ro, wl1, g8]
    refine hQ _ _ _ _ _ (by first | exact .inr rfl | exact .inl rfl) (by first | rfl | (simp only [go_sem, Int.reduceEq, Int.reduceAdd, Int.reduceSub, Int.reduceMul, Nat.reduceLT, Int.reduceLT, Int.reduceLE, Int.reduceToNat, Nat.reduceAdd, Nat.reduceSub, Nat.reduceMul, Nat.reduceLeDiff, reduceCtorEq, r10]; rfl) | simp only [go_sem, Int.reduceEq, Int.reduceAdd, Int.reduceSub, Int.reduceMul, Nat.reduceLT, Int.reduceLT, Int.reduceLE, Int.reduceToNat, Nat.reduceAdd, Nat.reduceSub, Nat.reduceMul, Nat.reduceLeDiff, reduceCtorEq, r10]) (FzH.sub (by (repeat' (first | exact Sub.refl _ | assumption | (refine Sub.upd ?_ (by first | assumption | (simp only [*]; done) | exact Sub.isNone (by assumption) (by assumption) | exact Sub.isNone (by assumption) (by simp only [*]))))))) (FzL.refl _ _ _) ?_
    rfl

/-- addr.Parse of any short text. -/
theorem parse_gen (s : ByteArray) (hs : s.size ≤ 60) : ∃ r, (∀ h, PureA Tryd.prog 10 [.str s] h r) ∧ ((∃ A, isA A ∧ r = .tup [.agg (cat b1 A), .int .i64 0] ∧ s = strOfNums (textL A)) ∨ r = noA) := by
  obtain ⟨front, back, isb, hcut, hf, hb⟩ := cut_is s hs
  cases ef : lOk front
  · exact ⟨_, parse_bad1 s front back isb hs hcut hf hb (.inl ef), .inr rfl⟩
  cases eb : lOk back
  · exact ⟨_, parse_bad1 s front back isb hs hcut hf hb (.inr eb), .inr rfl⟩
  obtain ⟨L, hL⟩ := lOk_is hf ef
  obtain ⟨M, hM⟩ := lOk_is hb eb
  have hll : ∀ {s : ByteArray} {L : List (List Int)}, LOk s L → L.length ≤ 100 := fun h => by
    rcases h with ⟨_, rfl⟩ | ⟨_, _, _, _, h⟩
    · simp
    · exact h
  by_cases hg : L.length + M.length ≤ 8 ∧ ofOk (fullG isb (L.map valL) (M.map valL)) = true ∧ s = strOfNums (textL (ofG (fullG isb (L.map valL) (M.map valL))))
  · exact ⟨_, parse_ok s front back isb L M (by omega) hcut hL hM hg.1 hg.2.1 hg.2.2, .inl ⟨_, ofG_is hg.2.1, rfl, hg.2.2⟩⟩
  · exact ⟨_, parse_bad2 s front back isb L M hs hcut hL hM ⟨hll hL, hll hM⟩ hg, .inr rfl⟩

end Go.Proofs.YtdlghfekgecjjaaDoor
