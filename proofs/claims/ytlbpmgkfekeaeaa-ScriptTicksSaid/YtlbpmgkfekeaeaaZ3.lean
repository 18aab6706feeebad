/-
  Package pack: contracts.
-/
import Derived.Test.YtlbpmgkfekeaeaaC3
import Derived.Test.YtlbpmgkfekeaeaaZ1
namespace Go.Proofs.Ytlbpmgkfekeaeaa
open Go E
set_option linter.unusedVariables false
set_option linter.unusedSimpArgs false
set_option maxRecDepth 100000

def spanN (n : Int) : Int := if n = 1 then 256 else if n = 2 then 65536 else if n = 4 then 4294967296 else 0

theorem span_spec (n : Int) (h : AHeap) : PureA Try.prog 98 [.int .i64 n] h (.int .i64 (spanN n)) := by
  by_cases g1 : n = 1
  · subst g1
    (refine PureA.enter (ac := c98) (rs := r98) Try.func98 rfl (by decide) c98_ok r98_ok ?_; intro Q hQ; simp only [go_sem, Nat.reduceAdd, Nat.reduceSub, Nat.reduceMul, Nat.reduceLeDiff, decide_true, decide_false, Bool.not_true, Bool.not_false, Bool.false_eq_true, if_true, if_false, true_and, and_true, and_self, reduceCtorEq, Bool.and_true, Bool.true_and, Bool.and_self, upd_upd, c98, Try.ntmps98, show IntKind.i64.wrap (8 * 1) = 8 from rfl, show binA .shl (.int .i64 1) (.int .i64 8) = some (.int .i64 256) from rfl])
    refine hQ _ _ _ _ (.inr rfl) rfl ?_ (by (repeat' (first | exact Sub.refl _ | assumption | (refine Sub.upd ?_ (by first | assumption | (simp only [*]; done) | exact Sub.isNone (by assumption) (by assumption) | exact Sub.isNone (by assumption) (by simp only [*]))))))
    rfl
  by_cases g2 : n = 2
  · subst g2
    (refine PureA.enter (ac := c98) (rs := r98) Try.func98 rfl (by decide) c98_ok r98_ok ?_; intro Q hQ; simp only [go_sem, Nat.reduceAdd, Nat.reduceSub, Nat.reduceMul, Nat.reduceLeDiff, decide_true, decide_false, Bool.not_true, Bool.not_false, Bool.false_eq_true, if_true, if_false, true_and, and_true, and_self, reduceCtorEq, Bool.and_true, Bool.true_and, Bool.and_self, upd_upd, c98, Try.ntmps98, show decide ((2 : Int) = 1) = false from rfl, show IntKind.i64.wrap (8 * 2) = 16 from rfl, show binA .shl (.int .i64 1) (.int .i64 16) = some (.int .i64 65536) from rfl])
    refine hQ _ _ _ _ (.inr rfl) rfl ?_ (by (repeat' (first | exact Sub.refl _ | assumption | (refine Sub.upd ?_ (by first | assumption | (simp only [*]; done) | exact Sub.isNone (by assumption) (by assumption) | exact Sub.isNone (by assumption) (by simp only [*]))))))
    rfl
  by_cases g4 : n = 4
  · subst g4
    (refine PureA.enter (ac := c98) (rs := r98) Try.func98 rfl (by decide) c98_ok r98_ok ?_; intro Q hQ; simp only [go_sem, Nat.reduceAdd, Nat.reduceSub, Nat.reduceMul, Nat.reduceLeDiff, decide_true, decide_false, Bool.not_true, Bool.not_false, Bool.false_eq_true, if_true, if_false, true_and, and_true, and_self, reduceCtorEq, Bool.and_true, Bool.true_and, Bool.and_self, upd_upd, c98, Try.ntmps98, show decide ((4 : Int) = 1) = false from rfl, show decide ((4 : Int) = 2) = false from rfl, show IntKind.i64.wrap (8 * 4) = 32 from rfl, show binA .shl (.int .i64 1) (.int .i64 32) = some (.int .i64 4294967296) from rfl])
    refine hQ _ _ _ _ (.inr rfl) rfl ?_ (by (repeat' (first | exact Sub.refl _ | assumption | (refine Sub.upd ?_ (by first | assumption | (simp only [*]; done) | exact Sub.isNone (by assumption) (by assumption) | exact Sub.isNone (by assumption) (by simp only [*]))))))
    rfl
  · (refine PureA.enter (ac := c98) (rs := r98) Try.func98 rfl (by decide) c98_ok r98_ok ?_; intro Q hQ; simp only [go_sem, Nat.reduceAdd, Nat.reduceSub, Nat.reduceMul, Nat.reduceLeDiff, decide_true, decide_false, Bool.not_true, Bool.not_false, Bool.false_eq_true, if_true, if_false, true_and, and_true, and_self, reduceCtorEq, Bool.and_true, Bool.true_and, Bool.and_self, upd_upd, c98, Try.ntmps98, g1, g2, g4])
    refine hQ _ _ _ _ (.inr rfl) rfl ?_ (by (repeat' (first | exact Sub.refl _ | assumption | (refine Sub.upd ?_ (by first | assumption | (simp only [*]; done) | exact Sub.isNone (by assumption) (by assumption) | exact Sub.isNone (by assumption) (by simp only [*]))))))
    simp only [go_sem, Nat.reduceAdd, Nat.reduceSub, Nat.reduceMul, Nat.reduceLeDiff, decide_true, decide_false, Bool.not_true, Bool.not_false, Bool.false_eq_true, if_true, if_false, true_and, and_true, and_self, reduceCtorEq, Bool.and_true, Bool.true_and, Bool.and_self, upd_upd, spanN, g1, g2, g4]

def fitsN (size : Int) (ns : List Int) : Bool := (ns.all fun n => decide (0 ≤ n ∧ n < spanN size)) && decide (0 < spanN size)

theorem takeI_all {p : Int → Bool} {l : List Int} {k : Nat} (hk : k < l.length) (h : (l.take k).all p = true) : (l.take (k + 1)).all p = p l[k] := by
  rw [List.take_succ_eq_append_getElem hk, List.all_append, h]; simp

theorem all_bad {p : Int → Bool} {l : List Int} {k : Nat} (hk : k < l.length) (h : p l[k] = false) : l.all p = false := by
  rw [List.all_eq_false]; exact ⟨l[k], List.getElem_mem _, by simp [h]⟩

theorem pfits_spec (size : Int) (v : AV) (ns : List Int) (h : AHeap) (hv : Sl h 1 v (ns.map i1)) (hn : ns.length ≤ 1000000) : PureA Try.prog 73 [.int .i64 size, v] h (.bool (fitsN size ns)) := by
  (refine PureA.enter (ac := c73) (rs := r73) Try.func73 rfl (by decide) c73_ok r73_ok ?_; intro Q hQ; simp only [go_sem, Nat.reduceAdd, Nat.reduceSub, Nat.reduceMul, Nat.reduceLeDiff, decide_true, decide_false, Bool.not_true, Bool.not_false, Bool.false_eq_true, if_true, if_false, true_and, and_true, and_self, reduceCtorEq, Bool.and_true, Bool.true_and, Bool.and_self, upd_upd, c73, Try.ntmps73])
  refine (span_spec _ _).use ?_
  simp only [go_sem, Nat.reduceAdd, Nat.reduceSub, Nat.reduceMul, Nat.reduceLeDiff, decide_true, decide_false, Bool.not_true, Bool.not_false, Bool.false_eq_true, if_true, if_false, true_and, and_true, and_self, reduceCtorEq, Bool.and_true, Bool.true_and, Bool.and_self, upd_upd, hv.lenI]
  refine loop_range d73_0 ns.length (fun k s => s.set 12 (.int .i64 k)) (fun k h' => (ns.take k).all (fun n => decide (0 ≤ n ∧ n < spanN size)) = true ∧ h' = h) ?_ ⟨rfl, rfl⟩ ?_
  · simp only [go_sem, Nat.reduceAdd, Nat.reduceSub, Nat.reduceMul, Nat.reduceLeDiff, decide_true, decide_false, Bool.not_true, Bool.not_false, Bool.false_eq_true, if_true, if_false, true_and, and_true, and_self, reduceCtorEq, Bool.and_true, Bool.true_and, Bool.and_self, upd_upd, d73_0]; rfl
  rintro N k h' hk ⟨hall, rfl⟩ hN
  simp only [go_sem, Nat.reduceAdd, Nat.reduceSub, Nat.reduceMul, Nat.reduceLeDiff, decide_true, decide_false, Bool.not_true, Bool.not_false, Bool.false_eq_true, if_true, if_false, true_and, and_true, and_self, reduceCtorEq, Bool.and_true, Bool.true_and, Bool.and_self, upd_upd, d73_0]
  by_cases hlt : k < ns.length
  · have h1 : (k : Int) < (ns.length : Int) := by omega
    have h2 : (0 : Int) ≤ k := by omega
    have hadd : IntKind.i64.wrap ((k : Int) + 1) = ((k + 1 : Nat) : Int) := by rw [w64 (by omega)]; rfl
    have hl := hv.loadI hlt
    have ht := takeI_all (p := fun n => decide (0 ≤ n ∧ n < spanN size)) hlt hall
    have hbad := all_bad (p := fun n => decide (0 ≤ n ∧ n < spanN size)) hlt
    clear hall
    simp only [go_sem, Nat.reduceAdd, Nat.reduceSub, Nat.reduceMul, Nat.reduceLeDiff, decide_true, decide_false, Bool.not_true, Bool.not_false, Bool.false_eq_true, if_true, if_false, true_and, and_true, and_self, reduceCtorEq, Bool.and_true, Bool.true_and, Bool.and_self, upd_upd, upd_ne, ne_eq, not_false_eq_true, *, hv.idx, Int.toNat_natCast, List.length_map]
    by_cases g1 : ns[k] < 0
    · simp only [go_sem, Nat.reduceAdd, Nat.reduceSub, Nat.reduceMul, Nat.reduceLeDiff, decide_true, decide_false, Bool.not_true, Bool.not_false, Bool.false_eq_true, if_true, if_false, true_and, and_true, and_self, reduceCtorEq, Bool.and_true, Bool.true_and, Bool.and_self, upd_upd, upd_ne, ne_eq, not_false_eq_true, *]
      refine hQ _ _ _ _ (.inr rfl) rfl ?_ (by (repeat' (first | exact Sub.refl _ | assumption | (refine Sub.upd ?_ (by first | assumption | (simp only [*]; done) | exact Sub.isNone (by assumption) (by assumption) | exact Sub.isNone (by assumption) (by simp only [*]))))))
      simp only [go_sem, Nat.reduceAdd, Nat.reduceSub, Nat.reduceMul, Nat.reduceLeDiff, decide_true, decide_false, Bool.not_true, Bool.not_false, Bool.false_eq_true, if_true, if_false, true_and, and_true, and_self, reduceCtorEq, Bool.and_true, Bool.true_and, Bool.and_self, upd_upd, fitsN, hbad (decide_eq_false (by omega))]
    by_cases g2 : spanN size ≤ ns[k]
    · simp only [go_sem, Nat.reduceAdd, Nat.reduceSub, Nat.reduceMul, Nat.reduceLeDiff, decide_true, decide_false, Bool.not_true, Bool.not_false, Bool.false_eq_true, if_true, if_false, true_and, and_true, and_self, reduceCtorEq, Bool.and_true, Bool.true_and, Bool.and_self, upd_upd, upd_ne, ne_eq, not_false_eq_true, *]
      refine hQ _ _ _ _ (.inr rfl) rfl ?_ (by (repeat' (first | exact Sub.refl _ | assumption | (refine Sub.upd ?_ (by first | assumption | (simp only [*]; done) | exact Sub.isNone (by assumption) (by assumption) | exact Sub.isNone (by assumption) (by simp only [*]))))))
      simp only [go_sem, Nat.reduceAdd, Nat.reduceSub, Nat.reduceMul, Nat.reduceLeDiff, decide_true, decide_false, Bool.not_true, Bool.not_false, Bool.false_eq_true, if_true, if_false, true_and, and_true, and_self, reduceCtorEq, Bool.and_true, Bool.true_and, Bool.and_self, upd_upd, fitsN, hbad (decide_eq_false (by omega))]
    · simp only [go_sem, Nat.reduceAdd, Nat.reduceSub, Nat.reduceMul, Nat.reduceLeDiff, decide_true, decide_false, Bool.not_true, Bool.not_false, Bool.false_eq_true, if_true, if_false, true_and, and_true, and_self, reduceCtorEq, Bool.and_true, Bool.true_and, Bool.and_self, upd_upd, upd_ne, ne_eq, not_false_eq_true, *]
      refine hN _ _ hlt ?_ ⟨by rw [ht]; exact decide_eq_true (by omega), rfl⟩
      simp only [go_sem, Nat.reduceAdd, Nat.reduceSub, Nat.reduceMul, Nat.reduceLeDiff, decide_true, decide_false, Bool.not_true, Bool.not_false, Bool.false_eq_true, if_true, if_false, true_and, and_true, and_self, reduceCtorEq, Bool.and_true, Bool.true_and, Bool.and_self, upd_upd, d73_0]
  · have h1 : ¬ (k : Int) < (ns.length : Int) := by omega
    simp only [go_sem, Nat.reduceAdd, Nat.reduceSub, Nat.reduceMul, Nat.reduceLeDiff, decide_true, decide_false, Bool.not_true, Bool.not_false, Bool.false_eq_true, if_true, if_false, true_and, and_true, and_self, reduceCtorEq, Bool.and_true, Bool.true_and, Bool.and_self, upd_upd, upd_ne, ne_eq, not_false_eq_true, *]
    refine hQ _ _ _ _ (.inr rfl) rfl ?_ (by (repeat' (first | exact Sub.refl _ | assumption | (refine Sub.upd ?_ (by first | assumption | (simp only [*]; done) | exact Sub.isNone (by assumption) (by assumption) | exact Sub.isNone (by assumption) (by simp only [*]))))))
    rw [List.take_of_length_le (by omega)] at hall
    simp only [go_sem, Nat.reduceAdd, Nat.reduceSub, Nat.reduceMul, Nat.reduceLeDiff, decide_true, decide_false, Bool.not_true, Bool.not_false, Bool.false_eq_true, if_true, if_false, true_and, and_true, and_self, reduceCtorEq, Bool.and_true, Bool.true_and, Bool.and_self, upd_upd, fitsN, hall]

/-- bytes.Clone. -/
theorem bclone_spec (v : AV) (bs : List Int) (h : AHeap) (hv : Sl h 1 v (bs.map b1)) (hn : bs.length ≤ 1000000) : CallsA Try.prog 76 [v] h fun r h' => Own h h' 1 r (bs.map b1) := by
  (refine CallsA.enterR (ac := c76) (rs := r76) Try.func76 rfl (by decide) c76_ok r76_ok ?_; intro Q hQ; simp only [go_sem, Nat.reduceAdd, Nat.reduceSub, Nat.reduceMul, Nat.reduceLeDiff, decide_true, decide_false, Bool.not_true, Bool.not_false, Bool.false_eq_true, if_true, if_false, true_and, and_true, and_self, reduceCtorEq, Bool.and_true, Bool.true_and, Bool.and_self, upd_upd, c76, Try.ntmps76])
  have ne : v ≠ .nils → nilA .s v .nils = some false := fun hne => by
    rcases hv.how with ⟨rfl, _⟩ | ⟨id, off, cap, rfl, _⟩ | ⟨ex, rfl⟩
    · exact absurd rfl hne
    · rfl
    · rfl
  by_cases hz : v = .nils
  · subst hz
    have hb : bs = [] := by
      rcases hv.how with ⟨_, hl⟩ | ⟨id, off, cap, hl, _⟩ | ⟨ex, hl⟩
      · simpa using hl
      · cases hl
      · cases hl
    subst hb
    simp only [go_sem, Nat.reduceAdd, Nat.reduceSub, Nat.reduceMul, Nat.reduceLeDiff, decide_true, decide_false, Bool.not_true, Bool.not_false, Bool.false_eq_true, if_true, if_false, true_and, and_true, and_self, reduceCtorEq, Bool.and_true, Bool.true_and, Bool.and_self, upd_upd]
    exact hQ _ _ _ _ _ (.inr rfl) rfl (Sub.refl _) (Own.nil (Sub.refl _))
  · have hne := ne hz
    simp only [go_sem, Nat.reduceAdd, Nat.reduceSub, Nat.reduceMul, Nat.reduceLeDiff, decide_true, decide_false, Bool.not_true, Bool.not_false, Bool.false_eq_true, if_true, if_false, true_and, and_true, and_self, reduceCtorEq, Bool.and_true, Bool.true_and, Bool.and_self, upd_upd, hne]
    intro id hid
    have s1 : Sub h (upd h id (.cells [] 0)) := Sub.fresh (Sub.refl _) hid
    refine Own.append (Own.empty (h0 := h) s1 upd_same hid) (hv.sub s1) (scB bs) (by simp; omega) fun v' h' ow keep => ?_
    simp only [go_sem, Nat.reduceAdd, Nat.reduceSub, Nat.reduceMul, Nat.reduceLeDiff, decide_true, decide_false, Bool.not_true, Bool.not_false, Bool.false_eq_true, if_true, if_false, true_and, and_true, and_self, reduceCtorEq, Bool.and_true, Bool.true_and, Bool.and_self, upd_upd]
    exact hQ _ _ _ _ _ (.inr rfl) rfl (Sub.refl _) (by rw [tupA_one]; simpa using ow)

theorem w8 (n : Int) : IntKind.u8.wrap n = n % 256 := by simp [IntKind.wrap, IntKind.signed, IntKind.bits]
theorem shr24 (n : Int) : binA .shr (.int .i64 n) (.int .u64 24) = some (.int .i64 (n / 16777216)) := by
  simp [binA, IntKind.bits, Int.fdiv_eq_ediv_of_nonneg]
theorem shr16 (n : Int) : binA .shr (.int .i64 n) (.int .u64 16) = some (.int .i64 (n / 65536)) := by
  simp [binA, IntKind.bits, Int.fdiv_eq_ediv_of_nonneg]
theorem shr8 (n : Int) : binA .shr (.int .i64 n) (.int .u64 8) = some (.int .i64 (n / 256)) := by
  simp [binA, IntKind.bits, Int.fdiv_eq_ediv_of_nonneg]

def digs (size n : Int) : List Int := if size = 4 then [n / 16777216 % 256, n / 65536 % 256, n / 256 % 256, n % 256] else if size = 2 then [n / 256 % 256, n % 256] else [n % 256]

theorem digs_len {size : Int} (hs : size = 1 ∨ size = 2 ∨ size = 4) (n : Int) : ((digs size n).length : Int) = size := by
  rcases hs with rfl | rfl | rfl <;> rfl

theorem flat_digs_len {size : Int} (hs : size = 1 ∨ size = 2 ∨ size = 4) (ns : List Int) : ((ns.flatMap (digs size)).length : Int) = size * ns.length := by
  induction ns with
  | nil => simp
  | cons n ns ih => rw [List.flatMap_cons, List.length_append, Int.natCast_add, ih, digs_len hs, List.length_cons, Int.natCast_add, Int.mul_add]; omega

/-- What is asked of a slice of one's own that grows by bytes. -/
theorem app_step {h0 h : AHeap} {v : AV} {bs cs : List Int} {id : Nat} {K : AV → AHeap → Prop} (ow : Own h0 h 1 v (bs.map b1)) (hid : h id = none) (hn : bs.length + cs.length ≤ 10000)
    (k : ∀ v' h', Own h0 h' 1 v' ((bs ++ cs).map b1) → K v' h') : appendA (upd h id (.cells (cs.map (.int .u8)) cs.length)) 1 1 v (.sl id 0 cs.length cs.length) K := by
  refine (ow.more (Sub.fresh (Sub.refl _) hid)).append (Sl.litB upd_same (Nat.le_refl _)) (scB cs) (by simp; omega) fun v' h' ow' _ => k v' h' ?_
  rw [List.map_append]; exact ow'

set_option maxHeartbeats 1000000 in
theorem pput_spec (size : Int) (hs : size = 1 ∨ size = 2 ∨ size = 4) (v vl : AV) (bs ns : List Int) (h : AHeap) (hv : Sl h 1 v (bs.map b1)) (hl : Sl h 1 vl (ns.map i1)) (hf : fitsN size ns = true) (hn : ns.length ≤ 1280) (hb : (bs.length : Int) + size * ns.length ≤ 1280) :
    CallsA Try.prog 111 [v, .int .i64 size, vl] h fun r h' => ∃ v', r = .tup [v', .int .i64 0] ∧ Own h h' 1 v' ((bs ++ ns.flatMap (digs size)).map b1) := by
  (refine CallsA.enterR (ac := c111) (rs := r111) Try.func111 rfl (by decide) c111_ok r111_ok ?_; intro Q hQ; simp only [go_sem, Nat.reduceAdd, Nat.reduceSub, Nat.reduceMul, Nat.reduceLeDiff, decide_true, decide_false, Bool.not_true, Bool.not_false, Bool.false_eq_true, if_true, if_false, true_and, and_true, and_self, reduceCtorEq, Bool.and_true, Bool.true_and, Bool.and_self, upd_upd, c111, Try.ntmps111])
  refine (pfits_spec size vl ns h hl (by omega)).use ?_
  simp only [go_sem, Nat.reduceAdd, Nat.reduceSub, Nat.reduceMul, Nat.reduceLeDiff, decide_true, decide_false, Bool.not_true, Bool.not_false, Bool.false_eq_true, if_true, if_false, true_and, and_true, and_self, reduceCtorEq, Bool.and_true, Bool.true_and, Bool.and_self, upd_upd, hf]
  have hsz : 1 ≤ size ∧ size ≤ 4 := by omega
  have hmul : (0 : Int) ≤ size * ns.length := Int.mul_nonneg (by omega) (by omega)
  refine (bclone_spec v bs h hv (by omega)).mono ?_
  rintro v0 h0 ow
  simp only [go_sem, Nat.reduceAdd, Nat.reduceSub, Nat.reduceMul, Nat.reduceLeDiff, decide_true, decide_false, Bool.not_true, Bool.not_false, Bool.false_eq_true, if_true, if_false, true_and, and_true, and_self, reduceCtorEq, Bool.and_true, Bool.true_and, Bool.and_self, upd_upd, (hl.sub ow.sub).lenI]
  refine loop_st d111_0 (fun x : Nat × AV => ns.length - x.1) (fun x s => (s.set 8 x.2).set 19 (.int .i64 x.1)) (fun x h' => x.1 ≤ ns.length ∧ Own h h' 1 x.2 ((bs ++ (ns.take x.1).flatMap (digs size)).map b1)) (0, v0) ?_ ⟨by simp, by simpa using ow⟩ ?_
  · simp only [go_sem, Nat.reduceAdd, Nat.reduceSub, Nat.reduceMul, Nat.reduceLeDiff, decide_true, decide_false, Bool.not_true, Bool.not_false, Bool.false_eq_true, if_true, if_false, true_and, and_true, and_self, reduceCtorEq, Bool.and_true, Bool.true_and, Bool.and_self, upd_upd, d111_0]; rfl
  rintro N ⟨k, v1⟩ h1 ⟨hk, ow1⟩ hN
  dsimp only at hk ow1 hN
  simp only [go_sem, Nat.reduceAdd, Nat.reduceSub, Nat.reduceMul, Nat.reduceLeDiff, decide_true, decide_false, Bool.not_true, Bool.not_false, Bool.false_eq_true, if_true, if_false, true_and, and_true, and_self, reduceCtorEq, Bool.and_true, Bool.true_and, Bool.and_self, upd_upd, d111_0]
  have hl1 := hl.sub ow1.sub
  have hlen1 : ((bs ++ (ns.take k).flatMap (digs size)).length : Int) = bs.length + size * k := by
    rw [List.length_append, Int.natCast_add, flat_digs_len hs, List.length_take, Nat.min_eq_left hk]
  by_cases hlt : k < ns.length
  · have h1' : (k : Int) < (ns.length : Int) := by omega
    have h2 : (0 : Int) ≤ k := by omega
    have hadd : IntKind.i64.wrap ((k : Int) + 1) = ((k + 1 : Nat) : Int) := by rw [w64 (by omega)]; rfl
    have hld := hl1.loadI hlt
    have hle : size * ((k : Int) + 1) ≤ size * ns.length := Int.mul_le_mul_of_nonneg_left (by omega) (by omega)
    rw [Int.mul_add] at hle
    have hsn : ((ns.take (k + 1)).flatMap (digs size)) = (ns.take k).flatMap (digs size) ++ digs size ns[k] := by
      rw [List.take_succ_eq_append_getElem hlt, List.flatMap_append]; simp
    have fin : ∀ v' h', Own h h' 1 v' (((bs ++ (ns.take k).flatMap (digs size)) ++ digs size ns[k]).map b1) → lenA false v' = some (.int .i64 (bs.length + size * k + size)) := by
      intro v' h' ow'
      rw [ow'.sl.lenB, List.length_append, Int.natCast_add, hlen1, digs_len hs]
    have hgt : ¬ (1280 < (bs.length : Int) + size * k + size) := by omega
    rw [List.append_assoc, ← hsn] at fin
    have dx : ∀ (L : List Int) v' h', L = bs ++ (ns.take k).flatMap (digs size) ++ digs size ns[k] → Own h h' 1 v' (L.map b1) → Own h h' 1 v' ((bs ++ (ns.take (k + 1)).flatMap (digs size)).map b1) := by
      rintro L v' h' rfl ow'; rwa [hsn, ← List.append_assoc]
    rcases hs with rfl | rfl | rfl
    · simp only [go_sem, Nat.reduceAdd, Nat.reduceSub, Nat.reduceMul, Nat.reduceLeDiff, decide_true, decide_false, Bool.not_true, Bool.not_false, Bool.false_eq_true, if_true, if_false, true_and, and_true, and_self, reduceCtorEq, Bool.and_true, Bool.true_and, Bool.and_self, upd_upd, h1', h2, hl1.idx, hld, Int.toNat_natCast, List.length_map, show decide ((1 : Int) = 4) = false from rfl, show decide ((1 : Int) = 2) = false from rfl, w8]
      intro id hid
      refine app_step (cs := [ns[k] % 256]) ow1 hid (by simp at hlen1 ⊢; omega) ?_
      intro v' h' ow'
      replace ow' := dx _ _ _ (by simp [digs]) ow'
      simp only [go_sem, Nat.reduceAdd, Nat.reduceSub, Nat.reduceMul, Nat.reduceLeDiff, decide_true, decide_false, Bool.not_true, Bool.not_false, Bool.false_eq_true, if_true, if_false, true_and, and_true, and_self, reduceCtorEq, Bool.and_true, Bool.true_and, Bool.and_self, upd_upd, fin _ _ ow', hgt, hadd]
      refine hN (k + 1, v') _ _ (by simp; omega) ?_ ⟨by simp; omega, ow'⟩
      simp only [go_sem, Nat.reduceAdd, Nat.reduceSub, Nat.reduceMul, Nat.reduceLeDiff, decide_true, decide_false, Bool.not_true, Bool.not_false, Bool.false_eq_true, if_true, if_false, true_and, and_true, and_self, reduceCtorEq, Bool.and_true, Bool.true_and, Bool.and_self, upd_upd, d111_0]
    · simp only [go_sem, Nat.reduceAdd, Nat.reduceSub, Nat.reduceMul, Nat.reduceLeDiff, decide_true, decide_false, Bool.not_true, Bool.not_false, Bool.false_eq_true, if_true, if_false, true_and, and_true, and_self, reduceCtorEq, Bool.and_true, Bool.true_and, Bool.and_self, upd_upd, h1', h2, hl1.idx, hld, Int.toNat_natCast, List.length_map, show decide ((2 : Int) = 4) = false from rfl, w8, shr8]
      intro id hid
      refine app_step (cs := [ns[k] / 256 % 256]) ow1 hid (by simp at hlen1 ⊢; omega) ?_
      intro v2 h2' ow2
      simp only [go_sem, Nat.reduceAdd, Nat.reduceSub, Nat.reduceMul, Nat.reduceLeDiff, decide_true, decide_false, Bool.not_true, Bool.not_false, Bool.false_eq_true, if_true, if_false, true_and, and_true, and_self, reduceCtorEq, Bool.and_true, Bool.true_and, Bool.and_self, upd_upd, w8]
      intro id2 hid2
      refine app_step (cs := [ns[k] % 256]) ow2 hid2 (by simp at hlen1 ⊢; omega) ?_
      intro v' h' ow'
      replace ow' := dx _ _ _ (by simp [digs]) ow'
      simp only [go_sem, Nat.reduceAdd, Nat.reduceSub, Nat.reduceMul, Nat.reduceLeDiff, decide_true, decide_false, Bool.not_true, Bool.not_false, Bool.false_eq_true, if_true, if_false, true_and, and_true, and_self, reduceCtorEq, Bool.and_true, Bool.true_and, Bool.and_self, upd_upd, fin _ _ ow', hgt, hadd]
      refine hN (k + 1, v') _ _ (by simp; omega) ?_ ⟨by simp; omega, ow'⟩
      simp only [go_sem, Nat.reduceAdd, Nat.reduceSub, Nat.reduceMul, Nat.reduceLeDiff, decide_true, decide_false, Bool.not_true, Bool.not_false, Bool.false_eq_true, if_true, if_false, true_and, and_true, and_self, reduceCtorEq, Bool.and_true, Bool.true_and, Bool.and_self, upd_upd, d111_0]
    · simp only [go_sem, Nat.reduceAdd, Nat.reduceSub, Nat.reduceMul, Nat.reduceLeDiff, decide_true, decide_false, Bool.not_true, Bool.not_false, Bool.false_eq_true, if_true, if_false, true_and, and_true, and_self, reduceCtorEq, Bool.and_true, Bool.true_and, Bool.and_self, upd_upd, h1', h2, hl1.idx, hld, Int.toNat_natCast, List.length_map, w8, shr24, shr16]
      intro id hid
      refine app_step (cs := [ns[k] / 16777216 % 256, ns[k] / 65536 % 256]) ow1 hid (by simp at hlen1 ⊢; omega) ?_
      intro v2 h2' ow2
      simp only [go_sem, Nat.reduceAdd, Nat.reduceSub, Nat.reduceMul, Nat.reduceLeDiff, decide_true, decide_false, Bool.not_true, Bool.not_false, Bool.false_eq_true, if_true, if_false, true_and, and_true, and_self, reduceCtorEq, Bool.and_true, Bool.true_and, Bool.and_self, upd_upd, w8, shr8]
      intro id2 hid2
      refine app_step (cs := [ns[k] / 256 % 256]) ow2 hid2 (by simp at hlen1 ⊢; omega) ?_
      intro v3 h3' ow3
      simp only [go_sem, Nat.reduceAdd, Nat.reduceSub, Nat.reduceMul, Nat.reduceLeDiff, decide_true, decide_false, Bool.not_true, Bool.not_false, Bool.false_eq_true, if_true, if_false, true_and, and_true, and_self, reduceCtorEq, Bool.and_true, Bool.true_and, Bool.and_self, upd_upd, w8]
      intro id3 hid3
      refine app_step (cs := [ns[k] % 256]) ow3 hid3 (by simp at hlen1 ⊢; omega) ?_
      intro v' h' ow'
      replace ow' := dx _ _ _ (by simp [digs]) ow'
      simp only [go_sem, Nat.reduceAdd, Nat.reduceSub, Nat.reduceMul, Nat.reduceLeDiff, decide_true, decide_false, Bool.not_true, Bool.not_false, Bool.false_eq_true, if_true, if_false, true_and, and_true, and_self, reduceCtorEq, Bool.and_true, Bool.true_and, Bool.and_self, upd_upd, fin _ _ ow', hgt, hadd]
      refine hN (k + 1, v') _ _ (by simp; omega) ?_ ⟨by simp; omega, ow'⟩
      simp only [go_sem, Nat.reduceAdd, Nat.reduceSub, Nat.reduceMul, Nat.reduceLeDiff, decide_true, decide_false, Bool.not_true, Bool.not_false, Bool.false_eq_true, if_true, if_false, true_and, and_true, and_self, reduceCtorEq, Bool.and_true, Bool.true_and, Bool.and_self, upd_upd, d111_0]
  · have h1' : ¬ (k : Int) < (ns.length : Int) := by omega
    have hk2 : k = ns.length := by omega
    have hlv := ow1.sl.lenB
    rw [hlen1] at hlv
    have hgt : ¬ (1280 < (bs.length : Int) + size * k) := by rw [hk2]; omega
    simp only [go_sem, Nat.reduceAdd, Nat.reduceSub, Nat.reduceMul, Nat.reduceLeDiff, decide_true, decide_false, Bool.not_true, Bool.not_false, Bool.false_eq_true, if_true, if_false, true_and, and_true, and_self, reduceCtorEq, Bool.and_true, Bool.true_and, Bool.and_self, upd_upd, h1', hlv, hgt]
    refine hQ _ _ _ _ _ (.inr rfl) rfl (Sub.refl _) ⟨v1, rfl, ?_⟩
    simpa [hk2] using ow1

end Go.Proofs.Ytlbpmgkfekeaeaa
