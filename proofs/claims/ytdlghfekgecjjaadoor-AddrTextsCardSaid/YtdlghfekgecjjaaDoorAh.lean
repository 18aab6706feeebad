/-
  addr.list, addr.Parse of a text that is one, addr.Node, addr.All.
-/
import Derived.Test.YtdlghfekgecjjaaDoorAg
namespace Go.Proofs.YtdlghfekgecjjaaDoor
open Go E
set_option linter.unusedVariables false
set_option linter.unusedSimpArgs false
set_option maxRecDepth 100000

theorem upd_twice (h : AHeap) (x : Nat) (o p : AObj) : upd (upd h x o) x p = upd h x p := by
  funext y; unfold upd; split <;> rfl
theorem del_of_upd {h : AHeap} {x : Nat} (hx : h x = none) (o : AObj) : del (upd h x o) x = h := del_new hx o

theorem zrep0 (k : Nat) : zrep [.int .i64 0] k = cat i1 (List.replicate k 0) := by
  have e : cat i1 (List.replicate k (0 : Int)) = List.replicate k (.int .i64 0) := by
    induction k with
    | zero => rfl
    | succ k ih => rw [List.replicate_succ, List.replicate_succ, ← ih]; rfl
  rw [e]
  apply List.ext_getElem
  · simp [zrep]
  · intro i h1 h2
    simp [zrep, Nat.mod_one]

/-- Zeros that are appended to numbers of one's own. -/
theorem E.Grow.zeros {h0 H : AHeap} {v : AV} {l : List Int} {k : Nat} {K : AV → AHeap → Prop} (g : Grow h0 1 v (cat i1 l) l.length H) (w : Wr v) (hb : l.length + k ≤ 1000)
    (hK : ∀ v' H', Grow h0 1 v' (cat i1 (l ++ List.replicate k 0)) (l ++ List.replicate k (0 : Int)).length H' → Wr v' → K v' H') : appendNA H 1 8 [.int .i64 0] v (.int .i64 (k : Int)) K := by
  have hL : (l ++ List.replicate k (0 : Int)).length = l.length + k := by simp
  have hl1 := cat_len i1_len l
  have hsz : (cat i1 (l ++ List.replicate k (0 : Int))).length = (l ++ List.replicate k (0 : Int)).length * 1 := cat_len i1_len _
  have hsc := cat_sca i1_sca (l ++ List.replicate k (0 : Int))
  have hzl : (cat i1 (List.replicate k (0 : Int))).length = k := by rw [cat_len i1_len]; simp
  simp only [appendNA, Int.toNat_natCast, zrep0]
  refine ⟨cat i1 l, g.acells, by omega, by rw [g.slen]; omega, ?_⟩
  rcases g.how with ⟨rfl, e, rfl⟩ | ⟨rfl, _⟩ | ⟨id, cap, junk, tot, rfl, hc, hT, hid, rfl⟩
  · obtain rfl := List.length_eq_zero_iff.1 e
    refine ⟨fun h0k => hK _ _ ⟨hsz, hsc, .inl ⟨rfl, by simp [h0k], rfl⟩⟩ Wr.nils, fun hk id cap hid hcap => hK _ _ ⟨hsz, hsc, .inr (.inr ⟨id, cap, [], _, by simp, by simpa using hcap, Nat.le_refl _, hid, by simp⟩)⟩ Wr.sl⟩
  · exact absurd rfl (w _ _ _)
  · refine ⟨cat i1 l ++ junk, tot, by simp [upd], by omega, fun hfit => ⟨cat_sca i1_sca _, ?_⟩, fun hno => .inr fun id2 cap2 hid2 hcap2 => ?_⟩
    · rw [upd_twice]
      refine hK _ _ ⟨hsz, hsc, .inr (.inr ⟨id, cap, junk.drop k, tot, by rw [hL], by omega, hT, hid, ?_⟩)⟩ Wr.sl
      congr 2
      unfold splice
      rw [Nat.zero_add, Nat.mul_one, hzl]
      have t1 : (cat i1 l ++ junk).take l.length = cat i1 l := by rw [List.take_append_of_le_length (by omega), List.take_of_length_le (by omega)]
      have t2 : (cat i1 l ++ junk).drop (l.length + k) = junk.drop k := by rw [List.drop_append, List.drop_of_length_le (by omega), List.nil_append]; congr 1; omega
      rw [t1, t2, cat_append]
    · rw [del_of_upd hid] at hid2 ⊢
      refine hK _ _ ⟨hsz, hsc, .inr (.inr ⟨id2, cap2, [], _, by rw [hL], by omega, Nat.le_refl _, hid2, ?_⟩)⟩ Wr.sl
      rw [List.append_nil, cat_append]

/-- Numbers that are appended. -/
theorem E.Grow.nums {h0 H : AHeap} {v : AV} {l m : List Int} {ex : Bool} {K : AV → AHeap → Prop} (g : Grow h0 1 v (cat i1 l) l.length H) (hb : l.length + m.length ≤ 1000)
    (hK : ∀ v' H', Grow h0 1 v' (cat i1 (l ++ m)) (l ++ m).length H' → K v' H') : appendA H 1 8 v (.ro (cat i1 m) m.length ex) K := by
  have hl := cat_len i1_len m
  refine g.append (m := m.length) (ys := cat i1 m) ?_ rfl hl (cat_sca i1_sca m) (by omega) fun v' H' g' => hK v' H' ?_
  · simp only [E.acells]; rw [if_pos hl]
  · rw [cat_append, List.length_append]; exact g'

/-- The parts of a text: groups' digits. -/
def isPart (p : List Int) : Prop := 1 ≤ p.length ∧ p.length ≤ 4 ∧ p.all isHex = true

theorem list_own (s : ByteArray) (parts : List (List Int)) (hs : Lib.splitB (ByteArray.mk (Array.mk [58])) 0 (Lib.countB s (ByteArray.mk (Array.mk [58]))) s = parts.map strOfNums) (hsz : s.size < 1000)
    (hne : (s.toList == (ByteArray.mk (Array.mk [])).toList) = false) (hp : ∀ p ∈ parts, isPart p) (hn : parts.length ≤ 100) (h : AHeap) :
    CallsA Tryd.prog 30 [.str s] h fun r h' => ∃ v, r = .tup [v, .bool true] ∧ Grow h 1 v (cat i1 (parts.map valL)) (parts.map valL).length h' ∧ Wr v := by
  have sp := split_spec s (ByteArray.mk (Array.mk [58])) (by omega) (Nat.le_refl 1)
  rw [hs, List.length_map] at sp
  (refine CallsA.enterR (ac := c30) (rs := r30) Tryd.func30 rfl (by decide) c30_ok r30_ok ?_; intro Q hQ; simp only [go_sem, Int.reduceEq, Int.reduceAdd, Int.reduceSub, Int.reduceMul, Nat.reduceLT, Int.reduceLT, Int.reduceLE, Int.reduceToNat, Nat.reduceAdd, Nat.reduceSub, Nat.reduceMul, Nat.reduceLeDiff, reduceCtorEq, c30, Tryd.ntmps30, hne])
  refine (sp _).use ?_
  simp only [go_sem, Int.reduceEq, Int.reduceAdd, Int.reduceSub, Int.reduceMul, Nat.reduceLT, Int.reduceLT, Int.reduceLE, Int.reduceToNat, Nat.reduceAdd, Nat.reduceSub, Nat.reduceMul, Nat.reduceLeDiff, reduceCtorEq]
  refine loop_st d30_0 (fun x : Nat × AV => parts.length - x.1) (fun x s => (s.set 4 x.2).set 14 (.int .i64 (x.1 : Int))) (fun x H => x.1 ≤ parts.length ∧ Grow h 1 x.2 (cat i1 ((parts.take x.1).map valL)) x.1 H ∧ Wr x.2) (0, .nils) ?_ ⟨Nat.zero_le _, Grow.nil, Wr.nils⟩ ?_
  · (simp only [go_sem, Int.reduceEq, Int.reduceAdd, Int.reduceSub, Int.reduceMul, Nat.reduceLT, Int.reduceLT, Int.reduceLE, Int.reduceToNat, Nat.reduceAdd, Nat.reduceSub, Nat.reduceMul, Nat.reduceLeDiff, reduceCtorEq, d30_0] <;> rfl)
  rintro N ⟨k, v⟩ H ⟨hk, g0, hw⟩ hN
  simp only at hk g0 hw
  simp only [go_sem, Int.reduceEq, Int.reduceAdd, Int.reduceSub, Int.reduceMul, Nat.reduceLT, Int.reduceLT, Int.reduceLE, Int.reduceToNat, Nat.reduceAdd, Nat.reduceSub, Nat.reduceMul, Nat.reduceLeDiff, reduceCtorEq, d30_0]
  have hadd := wadd1 (k := k) (by omega)
  by_cases hlt : k < parts.length
  · obtain ⟨p1, p2, p3⟩ := hp _ (List.getElem_mem hlt)
    have hlt' : k < (parts.map strOfNums).length := by simpa using hlt
    have rd := rd_first (h := H) (enc := s1) s1_len (by omega) hlt'
    simp only [Nat.mul_one, List.getElem_map, s1] at rd
    simp only [go_sem, Int.reduceEq, Int.reduceAdd, Int.reduceSub, Int.reduceMul, Nat.reduceLT, Int.reduceLT, Int.reduceLE, Int.reduceToNat, Nat.reduceAdd, Nat.reduceSub, Nat.reduceMul, Nat.reduceLeDiff, reduceCtorEq, hlt, hadd, rd, List.getElem?_cons_zero]
    refine (group_ok parts[k] p1 p2 p3 _).use ?_
    simp only [go_sem, Int.reduceEq, Int.reduceAdd, Int.reduceSub, Int.reduceMul, Nat.reduceLT, Int.reduceLT, Int.reduceLE, Int.reduceToNat, Nat.reduceAdd, Nat.reduceSub, Nat.reduceMul, Nat.reduceLeDiff, reduceCtorEq]
    refine g0.add1W (x := i1 (valL parts[k])) rfl rfl (by omega) fun v' H' g' hw' => ?_
    simp only [go_sem, Int.reduceEq, Int.reduceAdd, Int.reduceSub, Int.reduceMul, Nat.reduceLT, Int.reduceLT, Int.reduceLE, Int.reduceToNat, Nat.reduceAdd, Nat.reduceSub, Nat.reduceMul, Nat.reduceLeDiff, reduceCtorEq, hadd]
    refine hN (k + 1, v') _ _ (by simp only; omega) ?_ ⟨hlt, ?_, hw'⟩
    · simp only [go_sem, Int.reduceEq, Int.reduceAdd, Int.reduceSub, Int.reduceMul, Nat.reduceLT, Int.reduceLT, Int.reduceLE, Int.reduceToNat, Nat.reduceAdd, Nat.reduceSub, Nat.reduceMul, Nat.reduceLeDiff, reduceCtorEq, d30_0]
    · rw [List.take_succ_eq_append_getElem hlt, List.map_append, cat_append]
      exact g'
  · have hk' : k = parts.length := by omega
    subst hk'
    rw [List.take_length] at g0
    (simp only [go_sem, Int.reduceEq, Int.reduceAdd, Int.reduceSub, Int.reduceMul, Nat.reduceLT, Int.reduceLT, Int.reduceLE, Int.reduceToNat, Nat.reduceAdd, Nat.reduceSub, Nat.reduceMul, Nat.reduceLeDiff, reduceCtorEq, hlt]; refine frz_id ?_; simp only [go_sem, Int.reduceEq, Int.reduceAdd, Int.reduceSub, Int.reduceMul, Nat.reduceLT, Int.reduceLT, Int.reduceLE, Int.reduceToNat, Nat.reduceAdd, Nat.reduceSub, Nat.reduceMul, Nat.reduceLeDiff, reduceCtorEq])
    refine hQ _ _ _ _ _ _ (by first | exact .inr rfl | exact .inl rfl) rfl (FzH.refl _) (FzL.refl _ _ _) ⟨v, ?_, by rw [List.length_map]; exact g0, hw⟩
    simp only [go_sem, Int.reduceEq, Int.reduceAdd, Int.reduceSub, Int.reduceMul, Nat.reduceLT, Int.reduceLT, Int.reduceLE, Int.reduceToNat, Nat.reduceAdd, Nat.reduceSub, Nat.reduceMul, Nat.reduceLeDiff, reduceCtorEq]

/-- A text that is a list of groups. -/
def LOk (s : ByteArray) (parts : List (List Int)) : Prop :=
  (s = ByteArray.mk (Array.mk []) ∧ parts = []) ∨ (Lib.splitB (ByteArray.mk (Array.mk [58])) 0 (Lib.countB s (ByteArray.mk (Array.mk [58]))) s = parts.map strOfNums ∧ s.size < 1000 ∧
    (s.toList == (ByteArray.mk (Array.mk [])).toList) = false ∧ (∀ p ∈ parts, isPart p) ∧ parts.length ≤ 100)

theorem list_any {s : ByteArray} {parts : List (List Int)} (hs : LOk s parts) (h : AHeap) :
    CallsA Tryd.prog 30 [.str s] h fun r h' => ∃ v, r = .tup [v, .bool true] ∧ Grow h 1 v (cat i1 (parts.map valL)) (parts.map valL).length h' ∧ Wr v := by
  rcases hs with ⟨rfl, rfl⟩ | ⟨h1, h2, h3, h4, h5⟩
  · (refine CallsA.enterR (ac := c30) (rs := r30) Tryd.func30 rfl (by decide) c30_ok r30_ok ?_; intro Q hQ; simp only [go_sem, Int.reduceEq, Int.reduceAdd, Int.reduceSub, Int.reduceMul, Nat.reduceLT, Int.reduceLT, Int.reduceLE, Int.reduceToNat, Nat.reduceAdd, Nat.reduceSub, Nat.reduceMul, Nat.reduceLeDiff, reduceCtorEq, c30, Tryd.ntmps30, beq_self_eq_true])
    refine hQ _ _ _ _ _ _ (by first | exact .inr rfl | exact .inl rfl) rfl (FzH.refl _) (FzL.refl _ _ _) ⟨.nils, ?_, Grow.nil, Wr.nils⟩
    simp only [go_sem, Int.reduceEq, Int.reduceAdd, Int.reduceSub, Int.reduceMul, Nat.reduceLT, Int.reduceLT, Int.reduceLE, Int.reduceToNat, Nat.reduceAdd, Nat.reduceSub, Nat.reduceMul, Nat.reduceLeDiff, reduceCtorEq]
  · exact list_own s parts h1 h2 h3 h4 h5 h
theorem list_still {s : ByteArray} {parts : List (List Int)} (hs : LOk s parts) (h : AHeap) :
    PureA Tryd.prog 30 [.str s] h (.tup [.ro (cat i1 (parts.map valL)) (parts.map valL).length false, .bool true]) :=
  Grow.pure2 ((list_any hs h).mono fun r h' ⟨v, e, g, _⟩ => ⟨v, e, g⟩)

theorem ofG_is {g : List Int} (h : ofOk g = true) : isA (ofG g) := by
  simp only [ofOk, Bool.and_eq_true, beq_iff_eq] at h
  obtain ⟨x0, x1, x2, x3, x4, x5, x6, x7, rfl⟩ := len8 h.1
  refine ⟨rfl, fun x hx => ?_⟩
  obtain ⟨n, hn, hx⟩ := List.mem_flatMap.1 hx
  have := of_decide_eq_true (List.all_eq_true.1 h.2 n hn)
  simp only [List.mem_cons, List.mem_nil_iff, or_false] at hx
  omega

/-- All the groups of a text. -/
def fullG (isb : Bool) (L M : List Int) : List Int := if isb then L ++ List.replicate (8 - L.length - M.length) 0 ++ M else L ++ M

set_option maxHeartbeats 4000000 in
theorem parse_ok (s front back : ByteArray) (isb : Bool) (L M : List (List Int)) (hsz : s.size < 1000)
    (hcut : Lib.cut s.data.toList (ByteArray.mk (Array.mk [58, 58])).data.toList = (front.data.toList, back.data.toList, isb)) (h1 : LOk front L) (h2 : LOk back M) (h8 : L.length + M.length ≤ 8)
    (hok : ofOk (fullG isb (L.map valL) (M.map valL)) = true) (htx : s = strOfNums (textL (ofG (fullG isb (L.map valL) (M.map valL))))) (h : AHeap) :
    PureA Tryd.prog 10 [.str s] h (.tup [.agg (cat b1 (ofG (fullG isb (L.map valL) (M.map valL)))), .int .i64 0]) := by
  have hc := cut_spec s (ByteArray.mk (Array.mk [58, 58])) (by omega)
  rw [hcut] at hc
  have hA := ofG_is hok
  have hT := text_spec _ hA
  rw [← htx] at hT
  have l1 : (L.map valL).length = L.length := by simp
  have l2 : (M.map valL).length = M.length := by simp
  generalize hl : L.map valL = l at *
  generalize hm : M.map valL = m at *
  have hof := of_spec (fullG isb l m)
  have hfl : (fullG isb l m).length ≤ 16 := by
    unfold fullG
    split
    · simp only [List.length_append, List.length_replicate]; omega
    · simp only [List.length_append]; omega
  unfold ofV at hof
  rw [if_pos hok] at hof
  generalize hfull : fullG isb l m = full at *
  generalize hA2 : ofG full = A at *
  have hAl : (cat b1 A).length = 16 := by rw [cat_len b1_len, hA.1]
  have hAs := cat_sca b1_sca A
  have hAt : (cat b1 A).take 16 = cat b1 A := List.take_of_length_le (by omega)
  have g8 : decide ((8 : Int) < ((l.length + m.length : Nat) : Int)) = false := decide_eq_false (by omega)
  have wl1 : IntKind.i64.wrap ((l.length : Int) + (m.length : Int)) = ((l.length + m.length : Nat) : Int) := by rw [w64 (by omega) (by omega)]; omega
  (refine PureA.enter (ac := c10) (rs := r10) Tryd.func10 rfl (by decide) c10_ok r10_ok ?_; intro Q hQ; simp only [go_sem, Int.reduceEq, Int.reduceAdd, Int.reduceSub, Int.reduceMul, Nat.reduceLT, Int.reduceLT, Int.reduceLE, Int.reduceToNat, Nat.reduceAdd, Nat.reduceSub, Nat.reduceMul, Nat.reduceLeDiff, reduceCtorEq, c10, Tryd.ntmps10])
  intro p hp
  refine (hc _).use ?_
  simp only [go_sem, Int.reduceEq, Int.reduceAdd, Int.reduceSub, Int.reduceMul, Nat.reduceLT, Int.reduceLT, Int.reduceLE, Int.reduceToNat, Nat.reduceAdd, Nat.reduceSub, Nat.reduceMul, Nat.reduceLeDiff, reduceCtorEq]
  refine (list_any h1 _).use ?_
  rintro r H ⟨v, rfl, g, hw⟩
  rw [hl] at g
  simp only [go_sem, Int.reduceEq, Int.reduceAdd, Int.reduceSub, Int.reduceMul, Nat.reduceLT, Int.reduceLT, Int.reduceLE, Int.reduceToNat, Nat.reduceAdd, Nat.reduceSub, Nat.reduceMul, Nat.reduceLeDiff, reduceCtorEq]
  refine (list_still h2 _).use ?_
  rw [hm]
  simp only [go_sem, Int.reduceEq, Int.reduceAdd, Int.reduceSub, Int.reduceMul, Nat.reduceLT, Int.reduceLT, Int.reduceLE, Int.reduceToNat, Nat.reduceAdd, Nat.reduceSub, Nat.reduceMul, Nat.reduceLeDiff, reduceCtorEq, g.len, lenA_ro, wl1, g8]
  have wz1 : IntKind.i64.wrap (8 - (l.length : Int)) = ((8 - l.length : Nat) : Int) := by rw [w64 (by omega) (by omega)]; omega
  have wz2 : IntKind.i64.wrap (((8 - l.length : Nat) : Int) - (m.length : Int)) = ((8 - l.length - m.length : Nat) : Int) := by rw [w64 (by omega) (by omega)]; omega
  cases isb
  · simp only [go_sem, Int.reduceEq, Int.reduceAdd, Int.reduceSub, Int.reduceMul, Nat.reduceLT, Int.reduceLT, Int.reduceLE, Int.reduceToNat, Nat.reduceAdd, Nat.reduceSub, Nat.reduceMul, Nat.reduceLeDiff, reduceCtorEq]
    refine g.nums (by omega) fun v2 H2 g2 => ?_
    rw [show l ++ m = full from by rw [← hfull]; rfl] at g2
    simp only [go_sem, Int.reduceEq, Int.reduceAdd, Int.reduceSub, Int.reduceMul, Nat.reduceLT, Int.reduceLT, Int.reduceLE, Int.reduceToNat, Nat.reduceAdd, Nat.reduceSub, Nat.reduceMul, Nat.reduceLeDiff, reduceCtorEq]
    refine (hof false _ (by omega)).useH g2.fzH (.cons g2.fz .nil) ?_
    simp only [go_sem, Int.reduceEq, Int.reduceAdd, Int.reduceSub, Int.reduceMul, Nat.reduceLT, Int.reduceLT, Int.reduceLE, Int.reduceToNat, Nat.reduceAdd, Nat.reduceSub, Nat.reduceMul, Nat.reduceLeDiff, reduceCtorEq]
    intro q hq
    obtain ⟨hpq, hq2⟩ := two_ne hq
    have hqp : q ≠ p := fun e => hpq e.symm
    simp only [go_sem, Int.reduceEq, Int.reduceAdd, Int.reduceSub, Int.reduceMul, Nat.reduceLT, Int.reduceLT, Int.reduceLE, Int.reduceToNat, Nat.reduceAdd, Nat.reduceSub, Nat.reduceMul, Nat.reduceLeDiff, reduceCtorEq, del_same, del_none hq, hAl, hAs, hAt, Nat.le_refl, if_true]
    refine (hT _).use ?_
    simp only [go_sem, Int.reduceEq, Int.reduceAdd, Int.reduceSub, Int.reduceMul, Nat.reduceLT, Int.reduceLT, Int.reduceLE, Int.reduceToNat, Nat.reduceAdd, Nat.reduceSub, Nat.reduceMul, Nat.reduceLeDiff, reduceCtorEq, beq_self_eq_true, Bool.not_true, hAl, hAs, hAt, Nat.le_refl, if_true]
    refine hQ _ _ _ _ _ (by first | exact .inr rfl | exact .inl rfl) (by first | rfl | (simp only [go_sem, Int.reduceEq, Int.reduceAdd, Int.reduceSub, Int.reduceMul, Nat.reduceLT, Int.reduceLT, Int.reduceLE, Int.reduceToNat, Nat.reduceAdd, Nat.reduceSub, Nat.reduceMul, Nat.reduceLeDiff, reduceCtorEq, r10, hAl, hAt, Nat.le_refl, if_true]; rfl) | simp only [go_sem, Int.reduceEq, Int.reduceAdd, Int.reduceSub, Int.reduceMul, Nat.reduceLT, Int.reduceLT, Int.reduceLE, Int.reduceToNat, Nat.reduceAdd, Nat.reduceSub, Nat.reduceMul, Nat.reduceLeDiff, reduceCtorEq, r10, hAl, hAt, Nat.le_refl, if_true]) (FzH.sub (by (repeat' (first | exact Sub.refl _ | assumption | (refine Sub.upd ?_ (by first | assumption | (simp only [*]; done) | exact Sub.isNone (by assumption) (by assumption) | exact Sub.isNone (by assumption) (by simp only [*]))))))) (FzL.refl _ _ _) ?_
    simp only [go_sem, Int.reduceEq, Int.reduceAdd, Int.reduceSub, Int.reduceMul, Nat.reduceLT, Int.reduceLT, Int.reduceLE, Int.reduceToNat, Nat.reduceAdd, Nat.reduceSub, Nat.reduceMul, Nat.reduceLeDiff, reduceCtorEq]
  · simp only [go_sem, Int.reduceEq, Int.reduceAdd, Int.reduceSub, Int.reduceMul, Nat.reduceLT, Int.reduceLT, Int.reduceLE, Int.reduceToNat, Nat.reduceAdd, Nat.reduceSub, Nat.reduceMul, Nat.reduceLeDiff, reduceCtorEq, g.len, lenA_ro, wz1, wz2]
    refine g.zeros (k := 8 - l.length - m.length) hw (by omega) fun v' H' g' hw' => ?_
    simp only [go_sem, Int.reduceEq, Int.reduceAdd, Int.reduceSub, Int.reduceMul, Nat.reduceLT, Int.reduceLT, Int.reduceLE, Int.reduceToNat, Nat.reduceAdd, Nat.reduceSub, Nat.reduceMul, Nat.reduceLeDiff, reduceCtorEq]
    refine g'.nums (by simp only [List.length_append, List.length_replicate]; omega) fun v2 H2 g2 => ?_
    rw [show (l ++ List.replicate (8 - l.length - m.length) 0) ++ m = full from by rw [← hfull]; rfl] at g2
    simp only [go_sem, Int.reduceEq, Int.reduceAdd, Int.reduceSub, Int.reduceMul, Nat.reduceLT, Int.reduceLT, Int.reduceLE, Int.reduceToNat, Nat.reduceAdd, Nat.reduceSub, Nat.reduceMul, Nat.reduceLeDiff, reduceCtorEq]
    refine (hof false _ (by omega)).useH g2.fzH (.cons g2.fz .nil) ?_
    simp only [go_sem, Int.reduceEq, Int.reduceAdd, Int.reduceSub, Int.reduceMul, Nat.reduceLT, Int.reduceLT, Int.reduceLE, Int.reduceToNat, Nat.reduceAdd, Nat.reduceSub, Nat.reduceMul, Nat.reduceLeDiff, reduceCtorEq]
    intro q hq
    obtain ⟨hpq, hq2⟩ := two_ne hq
    have hqp : q ≠ p := fun e => hpq e.symm
    simp only [go_sem, Int.reduceEq, Int.reduceAdd, Int.reduceSub, Int.reduceMul, Nat.reduceLT, Int.reduceLT, Int.reduceLE, Int.reduceToNat, Nat.reduceAdd, Nat.reduceSub, Nat.reduceMul, Nat.reduceLeDiff, reduceCtorEq, del_same, del_none hq, hAl, hAs, hAt, Nat.le_refl, if_true]
    refine (hT _).use ?_
    simp only [go_sem, Int.reduceEq, Int.reduceAdd, Int.reduceSub, Int.reduceMul, Nat.reduceLT, Int.reduceLT, Int.reduceLE, Int.reduceToNat, Nat.reduceAdd, Nat.reduceSub, Nat.reduceMul, Nat.reduceLeDiff, reduceCtorEq, beq_self_eq_true, Bool.not_true, hAl, hAs, hAt, Nat.le_refl, if_true]
    refine hQ _ _ _ _ _ (by first | exact .inr rfl | exact .inl rfl) (by first | rfl | (simp only [go_sem, Int.reduceEq, Int.reduceAdd, Int.reduceSub, Int.reduceMul, Nat.reduceLT, Int.reduceLT, Int.reduceLE, Int.reduceToNat, Nat.reduceAdd, Nat.reduceSub, Nat.reduceMul, Nat.reduceLeDiff, reduceCtorEq, r10, hAl, hAt, Nat.le_refl, if_true]; rfl) | simp only [go_sem, Int.reduceEq, Int.reduceAdd, Int.reduceSub, Int.reduceMul, Nat.reduceLT, Int.reduceLT, Int.reduceLE, Int.reduceToNat, Nat.reduceAdd, Nat.reduceSub, Nat.reduceMul, Nat.reduceLeDiff, reduceCtorEq, r10, hAl, hAt, Nat.le_refl, if_true]) (FzH.sub (by (repeat' (first | exact Sub.refl _ | assumption | (refine Sub.upd ?_ (by first | assumption | (simp only [*]; done) | exact Sub.isNone (by assumption) (by assumption) | exact Sub.isNone (by assumption) (by simp only [*]))))))) (FzL.refl _ _ _) ?_
    simp only [go_sem, Int.reduceEq, Int.reduceAdd, Int.reduceSub, Int.reduceMul, Nat.reduceLT, Int.reduceLT, Int.reduceLE, Int.reduceToNat, Nat.reduceAdd, Nat.reduceSub, Nat.reduceMul, Nat.reduceLeDiff, reduceCtorEq]

end Go.Proofs.YtdlghfekgecjjaaDoor
