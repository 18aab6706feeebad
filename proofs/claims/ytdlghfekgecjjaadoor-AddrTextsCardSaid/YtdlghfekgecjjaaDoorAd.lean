/-
  addr.Groups, addr.Of, addr.joined.
-/
import Derived.Test.YtdlghfekgecjjaaDoorAc
namespace Go.Proofs.YtdlghfekgecjjaaDoor
open Go E
set_option linter.unusedVariables false
set_option linter.unusedSimpArgs false
set_option maxRecDepth 100000

/-- An address's bytes. -/
def isA (a : List Int) : Prop := a.length = 16 ∧ ∀ x ∈ a, 0 ≤ x ∧ x ≤ 255
instance (a : List Int) : Decidable (isA a) := inferInstanceAs (Decidable (_ ∧ _))

theorem len16 {a : List Int} (h : a.length = 16) : ∃ a0 a1 a2 a3 a4 a5 a6 a7 a8 a9 b0 b1 b2 b3 b4 b5, a = [a0, a1, a2, a3, a4, a5, a6, a7, a8, a9, b0, b1, b2, b3, b4, b5] := by
  match a, h with
  | [a0, a1, a2, a3, a4, a5, a6, a7, a8, a9, b0, b1, b2, b3, b4, b5], _ => exact ⟨_, _, _, _, _, _, _, _, _, _, _, _, _, _, _, _, rfl⟩
theorem len8 {a : List Int} (h : a.length = 8) : ∃ a0 a1 a2 a3 a4 a5 a6 a7, a = [a0, a1, a2, a3, a4, a5, a6, a7] := by
  match a, h with
  | [a0, a1, a2, a3, a4, a5, a6, a7], _ => exact ⟨_, _, _, _, _, _, _, _, rfl⟩

theorem catb16 {x0 x1 x2 x3 x4 x5 x6 x7 x8 x9 x10 x11 x12 x13 x14 x15 : Int} : cat b1 [x0, x1, x2, x3, x4, x5, x6, x7, x8, x9, x10, x11, x12, x13, x14, x15] = [.int .u8 x0, .int .u8 x1, .int .u8 x2, .int .u8 x3, .int .u8 x4, .int .u8 x5, .int .u8 x6, .int .u8 x7, .int .u8 x8, .int .u8 x9, .int .u8 x10, .int .u8 x11, .int .u8 x12, .int .u8 x13, .int .u8 x14, .int .u8 x15] := rfl
theorem cati8 {x0 x1 x2 x3 x4 x5 x6 x7 : Int} : cat i1 [x0, x1, x2, x3, x4, x5, x6, x7] = [.int .i64 x0, .int .i64 x1, .int .i64 x2, .int .i64 x3, .int .i64 x4, .int .i64 x5, .int .i64 x6, .int .i64 x7] := rfl

def grps (a : List Int) : List Int := (List.range 8).map fun i => a.getD (2 * i) 0 * 256 + a.getD (2 * i + 1) 0

theorem shl8 {a : Int} (h0 : 0 ≤ a) (h1 : a ≤ 255) : binA .shl (.int .i64 a) (.int .u64 8) = some (.int .i64 (a * 256)) := by
  have e : IntKind.i64.wrap (a * 2 ^ (min (8 : Int).toNat 64)) = a * 256 := by
    have : (2 : Int) ^ (min (8 : Int).toNat 64) = 256 := rfl
    rw [this]; exact w64 (by omega) (by omega)
  show (if (8 : Int) < 0 then none else some (AV.int .i64 (IntKind.i64.wrap (a * 2 ^ (min (8 : Int).toNat 64))))) = _
  rw [e]; rfl

theorem shr8i {n : Int} : binA .shr (.int .i64 n) (.int .u64 8) = some (.int .i64 (n / 256)) := by
  simp [binA, IntKind.bits, Int.fdiv_eq_ediv_of_nonneg]

theorem or8 {a b : Int} (h0 : 0 ≤ a) (h1 : a ≤ 255) (k0 : 0 ≤ b) (k1 : b ≤ 255) : binA .or (.int .i64 (a * 256)) (.int .i64 b) = some (.int .i64 (a * 256 + b)) := by
  obtain ⟨m, rfl⟩ := Int.eq_ofNat_of_zero_le h0
  obtain ⟨n, rfl⟩ := Int.eq_ofNat_of_zero_le k0
  have e : (BitVec.ofInt 64 ((m : Int) * 256) ||| BitVec.ofInt 64 (n : Int)).toNat = m * 256 + n := by
    rw [BitVec.toNat_or, BitVec.toNat_ofInt, BitVec.toNat_ofInt]
    have e1 : (((m : Int) * 256) % (2 ^ 64 : Nat)).toNat = m <<< 8 := by rw [Nat.shiftLeft_eq]; omega
    have e2 : ((n : Int) % (2 ^ 64 : Nat)).toNat = n := by omega
    rw [e1, e2, ← Nat.shiftLeft_add_eq_or_of_lt (by omega : n < 2 ^ 8), Nat.shiftLeft_eq]
  show some (AV.int .i64 (IntKind.i64.wrap ((BitVec.ofInt 64 ((m : Int) * 256) ||| BitVec.ofInt 64 (n : Int)).toNat : Int))) = _
  rw [e, w64 (by omega) (by omega)]
  congr 2

theorem E.Sub.del0 {h h1 : AHeap} {p : Nat} (hp : h p = none) (s : E.Sub h h1) : E.Sub h (del h1 p) := fun x o e => by
  have : x ≠ p := by rintro rfl; rw [hp] at e; cases e
  unfold del; rw [if_neg this]; exact s x o e
theorem two_ne {h : AHeap} {p q : Nat} {o : AObj} (hq : upd h p o q = none) : p ≠ q ∧ h q = none := by
  have : p ≠ q := by rintro rfl; simp [upd] at hq
  exact ⟨this, by simpa [upd, Ne.symm this] using hq⟩

theorem wl {n : Int} (h : (decide (-9223372036854775808 ≤ n) && decide (n ≤ 9223372036854775807)) = true) : IntKind.i64.wrap n = n := by
  simp only [Bool.and_eq_true, decide_eq_true_eq] at h
  exact w64 h.1 h.2

set_option maxHeartbeats 4000000 in
theorem groups_spec (a : List Int) (ha : isA a) (h : AHeap) : PureA Tryd.prog 8 [.agg (cat b1 a)] h (.agg (cat i1 (grps a))) := by
  obtain ⟨x0, x1, x2, x3, x4, x5, x6, x7, x8, x9, x10, x11, x12, x13, x14, x15, rfl⟩ := len16 ha.1
  have hb := ha.2
  simp only [List.mem_cons, List.mem_nil_iff, or_false, forall_eq_or_imp, forall_eq] at hb
  obtain ⟨k0, k1, k2, k3, k4, k5, k6, k7, k8, k9, k10, k11, k12, k13, k14, k15⟩ := hb
  have cw : ∀ {x : Int}, 0 ≤ x ∧ x ≤ 255 → IntKind.i64.wrap x = x := fun hx => w64 (by omega) (by omega)
  have s0 := shl8 k0.1 k0.2
  have o0 := or8 k0.1 k0.2 k1.1 k1.2
  have s1 := shl8 k2.1 k2.2
  have o1 := or8 k2.1 k2.2 k3.1 k3.2
  have s2 := shl8 k4.1 k4.2
  have o2 := or8 k4.1 k4.2 k5.1 k5.2
  have s3 := shl8 k6.1 k6.2
  have o3 := or8 k6.1 k6.2 k7.1 k7.2
  have s4 := shl8 k8.1 k8.2
  have o4 := or8 k8.1 k8.2 k9.1 k9.2
  have s5 := shl8 k10.1 k10.2
  have o5 := or8 k10.1 k10.2 k11.1 k11.2
  have s6 := shl8 k12.1 k12.2
  have o6 := or8 k12.1 k12.2 k13.1 k13.2
  have s7 := shl8 k14.1 k14.2
  have o7 := or8 k14.1 k14.2 k15.1 k15.2
  (refine PureA.enter (ac := c8) (rs := r8) Tryd.func8 rfl (by decide) c8_ok r8_ok ?_; intro Q hQ; simp only [go_sem, Int.reduceEq, Int.reduceAdd, Int.reduceSub, Int.reduceMul, Nat.reduceLT, Int.reduceLT, Int.reduceLE, Int.reduceToNat, Nat.reduceAdd, Nat.reduceSub, Nat.reduceMul, Nat.reduceLeDiff, reduceCtorEq, c8, Tryd.ntmps8, catb16])
  intro p hp q hq
  obtain ⟨hpq, hq2⟩ := two_ne hq
  refine loop_n 9 ?_
  simp only [go_sem, Int.reduceEq, Int.reduceAdd, Int.reduceSub, Int.reduceMul, Nat.reduceLT, Int.reduceLT, Int.reduceLE, Int.reduceToNat, Nat.reduceAdd, Nat.reduceSub, Nat.reduceMul, Nat.reduceLeDiff, reduceCtorEq, loopN_succ, wl, decide_true, Bool.and_self, catb16, cw k0, cw k1, cw k2, cw k3, cw k4, cw k5, cw k6, cw k7, cw k8, cw k9, cw k10, cw k11, cw k12, cw k13, cw k14, cw k15, s0, o0, s1, o1, s2, o2, s3, o3, s4, o4, s5, o5, s6, o6, s7, o7]
  refine frz_id ?_
  simp only [go_sem, Int.reduceEq, Int.reduceAdd, Int.reduceSub, Int.reduceMul, Nat.reduceLT, Int.reduceLT, Int.reduceLE, Int.reduceToNat, Nat.reduceAdd, Nat.reduceSub, Nat.reduceMul, Nat.reduceLeDiff, reduceCtorEq, upd_ne hpq]
  refine hQ _ _ _ _ _ (by first | exact .inr rfl | exact .inl rfl) rfl (FzH.sub (Sub.del0 hp (by (repeat' (first | exact Sub.refl _ | assumption | (refine Sub.upd ?_ (by first | assumption | (simp only [*]; done) | exact Sub.isNone (by assumption) (by assumption) | exact Sub.isNone (by assumption) (by simp only [*])))))))) (FzL.refl _ _ _) ?_
  simp only [go_sem, Int.reduceEq, Int.reduceAdd, Int.reduceSub, Int.reduceMul, Nat.reduceLT, Int.reduceLT, Int.reduceLE, Int.reduceToNat, Nat.reduceAdd, Nat.reduceSub, Nat.reduceMul, Nat.reduceLeDiff, reduceCtorEq]
  rfl

theorem grps_len (a : List Int) : (grps a).length = 8 := by simp [grps]
theorem grps_bound {a : List Int} (ha : isA a) : ∀ x ∈ grps a, 0 ≤ x ∧ x ≤ 65535 := by
  obtain ⟨x0, x1, x2, x3, x4, x5, x6, x7, x8, x9, x10, x11, x12, x13, x14, x15, rfl⟩ := len16 ha.1
  have hb := ha.2
  simp only [List.mem_cons, List.mem_nil_iff, or_false, forall_eq_or_imp, forall_eq] at hb
  intro x hx
  have hx : x ∈ [x0 * 256 + x1, x2 * 256 + x3, x4 * 256 + x5, x6 * 256 + x7, x8 * 256 + x9, x10 * 256 + x11, x12 * 256 + x13, x14 * 256 + x15] := hx
  simp only [List.mem_cons, List.mem_nil_iff, or_false] at hx
  omega

/-- The address of groups. -/
def ofG (g : List Int) : List Int := g.flatMap fun n => [n / 256, n % 256]
def inG (g : List Int) : Bool := g.all fun n => decide (0 ≤ n ∧ n ≤ 65535)
def ofOk (g : List Int) : Bool := g.length == 8 && inG g
def zeroA : List Int := List.replicate 16 0

theorem of_len (g : List Int) (ex : Bool) (h : AHeap) (h8 : g.length ≠ 8) (hl : g.length ≤ 1000000) : PureA Tryd.prog 9 [.ro (cat i1 g) g.length ex] h (.tup [.agg (cat b1 zeroA), .int .i64 1]) := by
  have e : decide ((g.length : Int) = 8) = false := decide_eq_false (by omega)
  (refine PureA.enter (ac := c9) (rs := r9) Tryd.func9 rfl (by decide) c9_ok r9_ok ?_; intro Q hQ; simp only [go_sem, Int.reduceEq, Int.reduceAdd, Int.reduceSub, Int.reduceMul, Nat.reduceLT, Int.reduceLT, Int.reduceLE, Int.reduceToNat, Nat.reduceAdd, Nat.reduceSub, Nat.reduceMul, Nat.reduceLeDiff, reduceCtorEq, c9, Tryd.ntmps9, e, Bool.not_false])
  intro p hp q hq
  obtain ⟨hpq, hq2⟩ := two_ne hq
  simp only [go_sem, Int.reduceEq, Int.reduceAdd, Int.reduceSub, Int.reduceMul, Nat.reduceLT, Int.reduceLT, Int.reduceLE, Int.reduceToNat, Nat.reduceAdd, Nat.reduceSub, Nat.reduceMul, Nat.reduceLeDiff, reduceCtorEq, upd_ne hpq]
  refine hQ _ _ _ _ _ (by first | exact .inr rfl | exact .inl rfl) (by first | rfl | (simp only [go_sem, Int.reduceEq, Int.reduceAdd, Int.reduceSub, Int.reduceMul, Nat.reduceLT, Int.reduceLT, Int.reduceLE, Int.reduceToNat, Nat.reduceAdd, Nat.reduceSub, Nat.reduceMul, Nat.reduceLeDiff, reduceCtorEq, r9, upd_ne hpq]; rfl) | simp only [go_sem, Int.reduceEq, Int.reduceAdd, Int.reduceSub, Int.reduceMul, Nat.reduceLT, Int.reduceLT, Int.reduceLE, Int.reduceToNat, Nat.reduceAdd, Nat.reduceSub, Nat.reduceMul, Nat.reduceLeDiff, reduceCtorEq, r9, upd_ne hpq]) (FzH.sub (by (repeat' (first | exact Sub.refl _ | assumption | (refine Sub.upd ?_ (by first | assumption | (simp only [*]; done) | exact Sub.isNone (by assumption) (by assumption) | exact Sub.isNone (by assumption) (by simp only [*]))))))) (FzL.refl _ _ _) ?_
  simp only [go_sem, Int.reduceEq, Int.reduceAdd, Int.reduceSub, Int.reduceMul, Nat.reduceLT, Int.reduceLT, Int.reduceLE, Int.reduceToNat, Nat.reduceAdd, Nat.reduceSub, Nat.reduceMul, Nat.reduceLeDiff, reduceCtorEq]
  rfl

set_option maxHeartbeats 4000000 in
theorem of_ok (g : List Int) (ex : Bool) (h : AHeap) (h8 : g.length = 8) (hg : inG g = true) : PureA Tryd.prog 9 [.ro (cat i1 g) g.length ex] h (.tup [.agg (cat b1 (ofG g)), .int .i64 0]) := by
  obtain ⟨x0, x1, x2, x3, x4, x5, x6, x7, rfl⟩ := len8 h8
  have hb : ∀ x ∈ [x0, x1, x2, x3, x4, x5, x6, x7], 0 ≤ x ∧ x ≤ 65535 := fun x hx => of_decide_eq_true (List.all_eq_true.1 hg x hx)
  simp only [List.mem_cons, List.mem_nil_iff, or_false, forall_eq_or_imp, forall_eq] at hb
  obtain ⟨k0, k1, k2, k3, k4, k5, k6, k7⟩ := hb
  have f1 : ∀ {x : Int}, 0 ≤ x ∧ x ≤ 65535 → decide (x < 0) = false := fun hx => decide_eq_false (by omega)
  have f2 : ∀ {x : Int}, 0 ≤ x ∧ x ≤ 65535 → decide (65535 < x) = false := fun hx => decide_eq_false (by omega)
  have f3 : ∀ {x : Int}, 0 ≤ x ∧ x ≤ 65535 → IntKind.u8.wrap (x / 256) = x / 256 := fun hx => by rw [w8]; omega
  (refine PureA.enter (ac := c9) (rs := r9) Tryd.func9 rfl (by decide) c9_ok r9_ok ?_; intro Q hQ; simp only [go_sem, Int.reduceEq, Int.reduceAdd, Int.reduceSub, Int.reduceMul, Nat.reduceLT, Int.reduceLT, Int.reduceLE, Int.reduceToNat, Nat.reduceAdd, Nat.reduceSub, Nat.reduceMul, Nat.reduceLeDiff, reduceCtorEq, c9, Tryd.ntmps9, cati8, List.length_cons, List.length_nil, show ((8 : Nat) : Int) = 8 from rfl])
  intro p hp q hq
  obtain ⟨hpq, hq2⟩ := two_ne hq
  refine loop_n 9 ?_
  simp only [go_sem, Int.reduceEq, Int.reduceAdd, Int.reduceSub, Int.reduceMul, Nat.reduceLT, Int.reduceLT, Int.reduceLE, Int.reduceToNat, Nat.reduceAdd, Nat.reduceSub, Nat.reduceMul, Nat.reduceLeDiff, reduceCtorEq, loopN_succ, wl, w8, shr8i, decide_true, Bool.and_self, List.length_cons, List.length_nil, Nat.reduceAdd, Int.toNat_natCast, Int.natCast_one, f1 k0, f2 k0, f3 k0, f1 k1, f2 k1, f3 k1, f1 k2, f2 k2, f3 k2, f1 k3, f2 k3, f3 k3, f1 k4, f2 k4, f3 k4, f1 k5, f2 k5, f3 k5, f1 k6, f2 k6, f3 k6, f1 k7, f2 k7, f3 k7]
  refine frz_id ?_
  simp only [go_sem, Int.reduceEq, Int.reduceAdd, Int.reduceSub, Int.reduceMul, Nat.reduceLT, Int.reduceLT, Int.reduceLE, Int.reduceToNat, Nat.reduceAdd, Nat.reduceSub, Nat.reduceMul, Nat.reduceLeDiff, reduceCtorEq, upd_ne hpq]
  refine hQ _ _ _ _ _ (by first | exact .inr rfl | exact .inl rfl) (by first | rfl | (simp only [go_sem, Int.reduceEq, Int.reduceAdd, Int.reduceSub, Int.reduceMul, Nat.reduceLT, Int.reduceLT, Int.reduceLE, Int.reduceToNat, Nat.reduceAdd, Nat.reduceSub, Nat.reduceMul, Nat.reduceLeDiff, reduceCtorEq, r9, upd_ne hpq]; rfl) | simp only [go_sem, Int.reduceEq, Int.reduceAdd, Int.reduceSub, Int.reduceMul, Nat.reduceLT, Int.reduceLT, Int.reduceLE, Int.reduceToNat, Nat.reduceAdd, Nat.reduceSub, Nat.reduceMul, Nat.reduceLeDiff, reduceCtorEq, r9, upd_ne hpq]) (FzH.sub (by (repeat' (first | exact Sub.refl _ | assumption | (refine Sub.upd ?_ (by first | assumption | (simp only [*]; done) | exact Sub.isNone (by assumption) (by assumption) | exact Sub.isNone (by assumption) (by simp only [*]))))))) (FzL.refl _ _ _) ?_
  simp only [go_sem, Int.reduceEq, Int.reduceAdd, Int.reduceSub, Int.reduceMul, Nat.reduceLT, Int.reduceLT, Int.reduceLE, Int.reduceToNat, Nat.reduceAdd, Nat.reduceSub, Nat.reduceMul, Nat.reduceLeDiff, reduceCtorEq]
  rfl

theorem of_bad0n {x0 x1 x2 x3 x4 x5 x6 x7 : Int} (ex : Bool) (h : AHeap)  (bad : x0 < 0) : PureA Tryd.prog 9 [.ro (cat i1 [x0, x1, x2, x3, x4, x5, x6, x7]) 8 ex] h (.tup [.agg (cat b1 zeroA), .int .i64 1]) := by
  have g1 : decide (x0 < 0) = true := decide_eq_true bad
  (refine PureA.enter (ac := c9) (rs := r9) Tryd.func9 rfl (by decide) c9_ok r9_ok ?_; intro Q hQ; simp only [go_sem, Int.reduceEq, Int.reduceAdd, Int.reduceSub, Int.reduceMul, Nat.reduceLT, Int.reduceLT, Int.reduceLE, Int.reduceToNat, Nat.reduceAdd, Nat.reduceSub, Nat.reduceMul, Nat.reduceLeDiff, reduceCtorEq, c9, Tryd.ntmps9, cati8, show ((8 : Nat) : Int) = 8 from rfl])
  intro p hp q hq
  obtain ⟨hpq, hq2⟩ := two_ne hq
  refine loop_n 9 ?_
  simp only [go_sem, Int.reduceEq, Int.reduceAdd, Int.reduceSub, Int.reduceMul, Nat.reduceLT, Int.reduceLT, Int.reduceLE, Int.reduceToNat, Nat.reduceAdd, Nat.reduceSub, Nat.reduceMul, Nat.reduceLeDiff, reduceCtorEq, loopN_succ, wl, w8, shr8i, decide_true, Bool.and_self, List.length_cons, List.length_nil, Nat.reduceAdd, Int.toNat_natCast, Int.natCast_one, upd_ne hpq, g1]
  refine hQ _ _ _ _ _ (by first | exact .inr rfl | exact .inl rfl) (by first | rfl | (simp only [go_sem, Int.reduceEq, Int.reduceAdd, Int.reduceSub, Int.reduceMul, Nat.reduceLT, Int.reduceLT, Int.reduceLE, Int.reduceToNat, Nat.reduceAdd, Nat.reduceSub, Nat.reduceMul, Nat.reduceLeDiff, reduceCtorEq, r9, upd_ne hpq]; rfl) | simp only [go_sem, Int.reduceEq, Int.reduceAdd, Int.reduceSub, Int.reduceMul, Nat.reduceLT, Int.reduceLT, Int.reduceLE, Int.reduceToNat, Nat.reduceAdd, Nat.reduceSub, Nat.reduceMul, Nat.reduceLeDiff, reduceCtorEq, r9, upd_ne hpq]) (FzH.sub (by (repeat' (first | exact Sub.refl _ | assumption | (refine Sub.upd ?_ (by first | assumption | (simp only [*]; done) | exact Sub.isNone (by assumption) (by assumption) | exact Sub.isNone (by assumption) (by simp only [*]))))))) (FzL.refl _ _ _) ?_
  simp only [go_sem, Int.reduceEq, Int.reduceAdd, Int.reduceSub, Int.reduceMul, Nat.reduceLT, Int.reduceLT, Int.reduceLE, Int.reduceToNat, Nat.reduceAdd, Nat.reduceSub, Nat.reduceMul, Nat.reduceLeDiff, reduceCtorEq]
  rfl
theorem of_bad0p {x0 x1 x2 x3 x4 x5 x6 x7 : Int} (ex : Bool) (h : AHeap)  (bad : 65535 < x0) : PureA Tryd.prog 9 [.ro (cat i1 [x0, x1, x2, x3, x4, x5, x6, x7]) 8 ex] h (.tup [.agg (cat b1 zeroA), .int .i64 1]) := by
  have g1 : decide (x0 < 0) = false := decide_eq_false (by omega)
  have g2 : decide (65535 < x0) = true := decide_eq_true bad
  (refine PureA.enter (ac := c9) (rs := r9) Tryd.func9 rfl (by decide) c9_ok r9_ok ?_; intro Q hQ; simp only [go_sem, Int.reduceEq, Int.reduceAdd, Int.reduceSub, Int.reduceMul, Nat.reduceLT, Int.reduceLT, Int.reduceLE, Int.reduceToNat, Nat.reduceAdd, Nat.reduceSub, Nat.reduceMul, Nat.reduceLeDiff, reduceCtorEq, c9, Tryd.ntmps9, cati8, show ((8 : Nat) : Int) = 8 from rfl])
  intro p hp q hq
  obtain ⟨hpq, hq2⟩ := two_ne hq
  refine loop_n 9 ?_
  simp only [go_sem, Int.reduceEq, Int.reduceAdd, Int.reduceSub, Int.reduceMul, Nat.reduceLT, Int.reduceLT, Int.reduceLE, Int.reduceToNat, Nat.reduceAdd, Nat.reduceSub, Nat.reduceMul, Nat.reduceLeDiff, reduceCtorEq, loopN_succ, wl, w8, shr8i, decide_true, Bool.and_self, List.length_cons, List.length_nil, Nat.reduceAdd, Int.toNat_natCast, Int.natCast_one, upd_ne hpq, g1, g2]
  refine hQ _ _ _ _ _ (by first | exact .inr rfl | exact .inl rfl) (by first | rfl | (simp only [go_sem, Int.reduceEq, Int.reduceAdd, Int.reduceSub, Int.reduceMul, Nat.reduceLT, Int.reduceLT, Int.reduceLE, Int.reduceToNat, Nat.reduceAdd, Nat.reduceSub, Nat.reduceMul, Nat.reduceLeDiff, reduceCtorEq, r9, upd_ne hpq]; rfl) | simp only [go_sem, Int.reduceEq, Int.reduceAdd, Int.reduceSub, Int.reduceMul, Nat.reduceLT, Int.reduceLT, Int.reduceLE, Int.reduceToNat, Nat.reduceAdd, Nat.reduceSub, Nat.reduceMul, Nat.reduceLeDiff, reduceCtorEq, r9, upd_ne hpq]) (FzH.sub (by (repeat' (first | exact Sub.refl _ | assumption | (refine Sub.upd ?_ (by first | assumption | (simp only [*]; done) | exact Sub.isNone (by assumption) (by assumption) | exact Sub.isNone (by assumption) (by simp only [*]))))))) (FzL.refl _ _ _) ?_
  simp only [go_sem, Int.reduceEq, Int.reduceAdd, Int.reduceSub, Int.reduceMul, Nat.reduceLT, Int.reduceLT, Int.reduceLE, Int.reduceToNat, Nat.reduceAdd, Nat.reduceSub, Nat.reduceMul, Nat.reduceLeDiff, reduceCtorEq]
  rfl
theorem of_bad1n {x0 x1 x2 x3 x4 x5 x6 x7 : Int} (ex : Bool) (h : AHeap) (k0 : 0 ≤ x0 ∧ x0 ≤ 65535) (bad : x1 < 0) : PureA Tryd.prog 9 [.ro (cat i1 [x0, x1, x2, x3, x4, x5, x6, x7]) 8 ex] h (.tup [.agg (cat b1 zeroA), .int .i64 1]) := by
  have f1 : ∀ {x : Int}, 0 ≤ x ∧ x ≤ 65535 → decide (x < 0) = false := fun hx => decide_eq_false (by omega)
  have f2 : ∀ {x : Int}, 0 ≤ x ∧ x ≤ 65535 → decide (65535 < x) = false := fun hx => decide_eq_false (by omega)
  have f3 : ∀ {x : Int}, 0 ≤ x ∧ x ≤ 65535 → IntKind.u8.wrap (x / 256) = x / 256 := fun hx => by rw [w8]; omega
  have g1 : decide (x1 < 0) = true := decide_eq_true bad
  (refine PureA.enter (ac := c9) (rs := r9) Tryd.func9 rfl (by decide) c9_ok r9_ok ?_; intro Q hQ; simp only [go_sem, Int.reduceEq, Int.reduceAdd, Int.reduceSub, Int.reduceMul, Nat.reduceLT, Int.reduceLT, Int.reduceLE, Int.reduceToNat, Nat.reduceAdd, Nat.reduceSub, Nat.reduceMul, Nat.reduceLeDiff, reduceCtorEq, c9, Tryd.ntmps9, cati8, show ((8 : Nat) : Int) = 8 from rfl])
  intro p hp q hq
  obtain ⟨hpq, hq2⟩ := two_ne hq
  refine loop_n 9 ?_
  simp only [go_sem, Int.reduceEq, Int.reduceAdd, Int.reduceSub, Int.reduceMul, Nat.reduceLT, Int.reduceLT, Int.reduceLE, Int.reduceToNat, Nat.reduceAdd, Nat.reduceSub, Nat.reduceMul, Nat.reduceLeDiff, reduceCtorEq, loopN_succ, wl, w8, shr8i, decide_true, Bool.and_self, List.length_cons, List.length_nil, Nat.reduceAdd, Int.toNat_natCast, Int.natCast_one, upd_ne hpq, g1, f1 k0, f2 k0, f3 k0]
  refine hQ _ _ _ _ _ (by first | exact .inr rfl | exact .inl rfl) (by first | rfl | (simp only [go_sem, Int.reduceEq, Int.reduceAdd, Int.reduceSub, Int.reduceMul, Nat.reduceLT, Int.reduceLT, Int.reduceLE, Int.reduceToNat, Nat.reduceAdd, Nat.reduceSub, Nat.reduceMul, Nat.reduceLeDiff, reduceCtorEq, r9, upd_ne hpq]; rfl) | simp only [go_sem, Int.reduceEq, Int.reduceAdd, Int.reduceSub, Int.reduceMul, Nat.reduceLT, Int.reduceLT, Int.reduceLE, Int.reduceToNat, Nat.reduceAdd, Nat.reduceSub, Nat.reduceMul, Nat.reduceLeDiff, reduceCtorEq, r9, upd_ne hpq]) (FzH.sub (by (repeat' (first | exact Sub.refl _ | assumption | (refine Sub.upd ?_ (by first | assumption | (simp only [*]; done) | exact Sub.isNone (by assumption) (by assumption) | exact Sub.isNone (by assumption) (by simp only [*]))))))) (FzL.refl _ _ _) ?_
  simp only [go_sem, Int.reduceEq, Int.reduceAdd, Int.reduceSub, Int.reduceMul, Nat.reduceLT, Int.reduceLT, Int.reduceLE, Int.reduceToNat, Nat.reduceAdd, Nat.reduceSub, Nat.reduceMul, Nat.reduceLeDiff, reduceCtorEq]
  rfl
theorem of_bad1p {x0 x1 x2 x3 x4 x5 x6 x7 : Int} (ex : Bool) (h : AHeap) (k0 : 0 ≤ x0 ∧ x0 ≤ 65535) (bad : 65535 < x1) : PureA Tryd.prog 9 [.ro (cat i1 [x0, x1, x2, x3, x4, x5, x6, x7]) 8 ex] h (.tup [.agg (cat b1 zeroA), .int .i64 1]) := by
  have f1 : ∀ {x : Int}, 0 ≤ x ∧ x ≤ 65535 → decide (x < 0) = false := fun hx => decide_eq_false (by omega)
  have f2 : ∀ {x : Int}, 0 ≤ x ∧ x ≤ 65535 → decide (65535 < x) = false := fun hx => decide_eq_false (by omega)
  have f3 : ∀ {x : Int}, 0 ≤ x ∧ x ≤ 65535 → IntKind.u8.wrap (x / 256) = x / 256 := fun hx => by rw [w8]; omega
  have g1 : decide (x1 < 0) = false := decide_eq_false (by omega)
  have g2 : decide (65535 < x1) = true := decide_eq_true bad
  (refine PureA.enter (ac := c9) (rs := r9) Tryd.func9 rfl (by decide) c9_ok r9_ok ?_; intro Q hQ; simp only [go_sem, Int.reduceEq, Int.reduceAdd, Int.reduceSub, Int.reduceMul, Nat.reduceLT, Int.reduceLT, Int.reduceLE, Int.reduceToNat, Nat.reduceAdd, Nat.reduceSub, Nat.reduceMul, Nat.reduceLeDiff, reduceCtorEq, c9, Tryd.ntmps9, cati8, show ((8 : Nat) : Int) = 8 from rfl])
  intro p hp q hq
  obtain ⟨hpq, hq2⟩ := two_ne hq
  refine loop_n 9 ?_
  simp only [go_sem, Int.reduceEq, Int.reduceAdd, Int.reduceSub, Int.reduceMul, Nat.reduceLT, Int.reduceLT, Int.reduceLE, Int.reduceToNat, Nat.reduceAdd, Nat.reduceSub, Nat.reduceMul, Nat.reduceLeDiff, reduceCtorEq, loopN_succ, wl, w8, shr8i, decide_true, Bool.and_self, List.length_cons, List.length_nil, Nat.reduceAdd, Int.toNat_natCast, Int.natCast_one, upd_ne hpq, g1, g2, f1 k0, f2 k0, f3 k0]
  refine hQ _ _ _ _ _ (by first | exact .inr rfl | exact .inl rfl) (by first | rfl | (simp only [go_sem, Int.reduceEq, Int.reduceAdd, Int.reduceSub, Int.reduceMul, Nat.reduceLT, Int.reduceLT, Int.reduceLE, Int.reduceToNat, Nat.reduceAdd, Nat.reduceSub, Nat.reduceMul, Nat.reduceLeDiff, reduceCtorEq, r9, upd_ne hpq]; rfl) | simp only [go_sem, Int.reduceEq, Int.reduceAdd, Int.reduceSub, Int.reduceMul, Nat.reduceLT, Int.reduceLT, Int.reduceLE, Int.reduceToNat, Nat.reduceAdd, Nat.reduceSub, Nat.reduceMul, Nat.reduceLeDiff, reduceCtorEq, r9, upd_ne hpq]) (FzH.sub (by (repeat' (first | exact Sub.refl _ | assumption | (refine Sub.upd ?_ (by first | assumption | (simp only [*]; done) | exact Sub.isNone (by assumption) (by assumption) | exact Sub.isNone (by assumption) (by simp only [*]))))))) (FzL.refl _ _ _) ?_
  simp only [go_sem, Int.reduceEq, Int.reduceAdd, Int.reduceSub, Int.reduceMul, Nat.reduceLT, Int.reduceLT, Int.reduceLE, Int.reduceToNat, Nat.reduceAdd, Nat.reduceSub, Nat.reduceMul, Nat.reduceLeDiff, reduceCtorEq]
  rfl
theorem of_bad2n {x0 x1 x2 x3 x4 x5 x6 x7 : Int} (ex : Bool) (h : AHeap) (k0 : 0 ≤ x0 ∧ x0 ≤ 65535) (k1 : 0 ≤ x1 ∧ x1 ≤ 65535) (bad : x2 < 0) : PureA Tryd.prog 9 [.ro (cat i1 [x0, x1, x2, x3, x4, x5, x6, x7]) 8 ex] h (.tup [.agg (cat b1 zeroA), .int .i64 1]) := by
  have f1 : ∀ {x : Int}, 0 ≤ x ∧ x ≤ 65535 → decide (x < 0) = false := fun hx => decide_eq_false (by omega)
  have f2 : ∀ {x : Int}, 0 ≤ x ∧ x ≤ 65535 → decide (65535 < x) = false := fun hx => decide_eq_false (by omega)
  have f3 : ∀ {x : Int}, 0 ≤ x ∧ x ≤ 65535 → IntKind.u8.wrap (x / 256) = x / 256 := fun hx => by rw [w8]; omega
  have g1 : decide (x2 < 0) = true := decide_eq_true bad
  (refine PureA.enter (ac := c9) (rs := r9) Tryd.func9 rfl (by decide) c9_ok r9_ok ?_; intro Q hQ; simp only [go_sem, Int.reduceEq, Int.reduceAdd, Int.reduceSub, Int.reduceMul, Nat.reduceLT, Int.reduceLT, Int.reduceLE, Int.reduceToNat, Nat.reduceAdd, Nat.reduceSub, Nat.reduceMul, Nat.reduceLeDiff, reduceCtorEq, c9, Tryd.ntmps9, cati8, show ((8 : Nat) : Int) = 8 from rfl])
  intro p hp q hq
  obtain ⟨hpq, hq2⟩ := two_ne hq
  refine loop_n 9 ?_
  simp only [go_sem, Int.reduceEq, Int.reduceAdd, Int.reduceSub, Int.reduceMul, Nat.reduceLT, Int.reduceLT, Int.reduceLE, Int.reduceToNat, Nat.reduceAdd, Nat.reduceSub, Nat.reduceMul, Nat.reduceLeDiff, reduceCtorEq, loopN_succ, wl, w8, shr8i, decide_true, Bool.and_self, List.length_cons, List.length_nil, Nat.reduceAdd, Int.toNat_natCast, Int.natCast_one, upd_ne hpq, g1, f1 k0, f2 k0, f3 k0, f1 k1, f2 k1, f3 k1]
  refine hQ _ _ _ _ _ (by first | exact .inr rfl | exact .inl rfl) (by first | rfl | (simp only [go_sem, Int.reduceEq, Int.reduceAdd, Int.reduceSub, Int.reduceMul, Nat.reduceLT, Int.reduceLT, Int.reduceLE, Int.reduceToNat, Nat.reduceAdd, Nat.reduceSub, Nat.reduceMul, Nat.reduceLeDiff, reduceCtorEq, r9, upd_ne hpq]; rfl) | simp only [go_sem, Int.reduceEq, Int.reduceAdd, Int.reduceSub, Int.reduceMul, Nat.reduceLT, Int.reduceLT, Int.reduceLE, Int.reduceToNat, Nat.reduceAdd, Nat.reduceSub, Nat.reduceMul, Nat.reduceLeDiff, reduceCtorEq, r9, upd_ne hpq]) (FzH.sub (by (repeat' (first | exact Sub.refl _ | assumption | (refine Sub.upd ?_ (by first | assumption | (simp only [*]; done) | exact Sub.isNone (by assumption) (by assumption) | exact Sub.isNone (by assumption) (by simp only [*]))))))) (FzL.refl _ _ _) ?_
  simp only [go_sem, Int.reduceEq, Int.reduceAdd, Int.reduceSub, Int.reduceMul, Nat.reduceLT, Int.reduceLT, Int.reduceLE, Int.reduceToNat, Nat.reduceAdd, Nat.reduceSub, Nat.reduceMul, Nat.reduceLeDiff, reduceCtorEq]
  rfl
theorem of_bad2p {x0 x1 x2 x3 x4 x5 x6 x7 : Int} (ex : Bool) (h : AHeap) (k0 : 0 ≤ x0 ∧ x0 ≤ 65535) (k1 : 0 ≤ x1 ∧ x1 ≤ 65535) (bad : 65535 < x2) : PureA Tryd.prog 9 [.ro (cat i1 [x0, x1, x2, x3, x4, x5, x6, x7]) 8 ex] h (.tup [.agg (cat b1 zeroA), .int .i64 1]) := by
  have f1 : ∀ {x : Int}, 0 ≤ x ∧ x ≤ 65535 → decide (x < 0) = false := fun hx => decide_eq_false (by omega)
  have f2 : ∀ {x : Int}, 0 ≤ x ∧ x ≤ 65535 → decide (65535 < x) = false := fun hx => decide_eq_false (by omega)
  have f3 : ∀ {x : Int}, 0 ≤ x ∧ x ≤ 65535 → IntKind.u8.wrap (x / 256) = x / 256 := fun hx => by rw [w8]; omega
  have g1 : decide (x2 < 0) = false := decide_eq_false (by omega)
  have g2 : decide (65535 < x2) = true := decide_eq_true bad
  (refine PureA.enter (ac := c9) (rs := r9) Tryd.func9 rfl (by decide) c9_ok r9_ok ?_; intro Q hQ; simp only [go_sem, Int.reduceEq, Int.reduceAdd, Int.reduceSub, Int.reduceMul, Nat.reduceLT, Int.reduceLT, Int.reduceLE, Int.reduceToNat, Nat.reduceAdd, Nat.reduceSub, Nat.reduceMul, Nat.reduceLeDiff, reduceCtorEq, c9, Tryd.ntmps9, cati8, show ((8 : Nat) : Int) = 8 from rfl])
  intro p hp q hq
  obtain ⟨hpq, hq2⟩ := two_ne hq
  refine loop_n 9 ?_
  simp only [go_sem, Int.reduceEq, Int.reduceAdd, Int.reduceSub, Int.reduceMul, Nat.reduceLT, Int.reduceLT, Int.reduceLE, Int.reduceToNat, Nat.reduceAdd, Nat.reduceSub, Nat.reduceMul, Nat.reduceLeDiff, reduceCtorEq, loopN_succ, wl, w8, shr8i, decide_true, Bool.and_self, List.length_cons, List.length_nil, Nat.reduceAdd, Int.toNat_natCast, Int.natCast_one, upd_ne hpq, g1, g2, f1 k0, f2 k0, f3 k0, f1 k1, f2 k1, f3 k1]
  refine hQ _ _ _ _ _ (by first | exact .inr rfl | exact .inl rfl) (by first | rfl | (simp only [go_sem, Int.reduceEq, Int.reduceAdd, Int.reduceSub, Int.reduceMul, Nat.reduceLT, Int.reduceLT, Int.reduceLE, Int.reduceToNat, Nat.reduceAdd, Nat.reduceSub, Nat.reduceMul, Nat.reduceLeDiff, reduceCtorEq, r9, upd_ne hpq]; rfl) | simp only [go_sem, Int.reduceEq, Int.reduceAdd, Int.reduceSub, Int.reduceMul, Nat.reduceLT, Int.reduceLT, Int.reduceLE, Int.reduceToNat, Nat.reduceAdd, Nat.reduceSub, Nat.reduceMul, Nat.reduceLeDiff, reduceCtorEq, r9, upd_ne hpq]) (FzH.sub (by (repeat' (first | exact Sub.refl _ | assumption | (refine Sub.upd ?_ (by first | assumption | (simp only [*]; done) | exact Sub.isNone (by assumption) (by assumption) | exact Sub.isNone (by assumption) (by simp only [*]))))))) (FzL.refl _ _ _) ?_
  simp only [go_sem, Int.reduceEq, Int.reduceAdd, Int.reduceSub, Int.reduceMul, Nat.reduceLT, Int.reduceLT, Int.reduceLE, Int.reduceToNat, Nat.reduceAdd, Nat.reduceSub, Nat.reduceMul, Nat.reduceLeDiff, reduceCtorEq]
  rfl
theorem of_bad3n {x0 x1 x2 x3 x4 x5 x6 x7 : Int} (ex : Bool) (h : AHeap) (k0 : 0 ≤ x0 ∧ x0 ≤ 65535) (k1 : 0 ≤ x1 ∧ x1 ≤ 65535) (k2 : 0 ≤ x2 ∧ x2 ≤ 65535) (bad : x3 < 0) : PureA Tryd.prog 9 [.ro (cat i1 [x0, x1, x2, x3, x4, x5, x6, x7]) 8 ex] h (.tup [.agg (cat b1 zeroA), .int .i64 1]) := by
  have f1 : ∀ {x : Int}, 0 ≤ x ∧ x ≤ 65535 → decide (x < 0) = false := fun hx => decide_eq_false (by omega)
  have f2 : ∀ {x : Int}, 0 ≤ x ∧ x ≤ 65535 → decide (65535 < x) = false := fun hx => decide_eq_false (by omega)
  have f3 : ∀ {x : Int}, 0 ≤ x ∧ x ≤ 65535 → IntKind.u8.wrap (x / 256) = x / 256 := fun hx => by rw [w8]; omega
  have g1 : decide (x3 < 0) = true := decide_eq_true bad
  (refine PureA.enter (ac := c9) (rs := r9) Tryd.func9 rfl (by decide) c9_ok r9_ok ?_; intro Q hQ; simp only [go_sem, Int.reduceEq, Int.reduceAdd, Int.reduceSub, Int.reduceMul, Nat.reduceLT, Int.reduceLT, Int.reduceLE, Int.reduceToNat, Nat.reduceAdd, Nat.reduceSub, Nat.reduceMul, Nat.reduceLeDiff, reduceCtorEq, c9, Tryd.ntmps9, cati8, show ((8 : Nat) : Int) = 8 from rfl])
  intro p hp q hq
  obtain ⟨hpq, hq2⟩ := two_ne hq
  refine loop_n 9 ?_
  simp only [go_sem, Int.reduceEq, Int.reduceAdd, Int.reduceSub, Int.reduceMul, Nat.reduceLT, Int.reduceLT, Int.reduceLE, Int.reduceToNat, Nat.reduceAdd, Nat.reduceSub, Nat.reduceMul, Nat.reduceLeDiff, reduceCtorEq, loopN_succ, wl, w8, shr8i, decide_true, Bool.and_self, List.length_cons, List.length_nil, Nat.reduceAdd, Int.toNat_natCast, Int.natCast_one, upd_ne hpq, g1, f1 k0, f2 k0, f3 k0, f1 k1, f2 k1, f3 k1, f1 k2, f2 k2, f3 k2]
  refine hQ _ _ _ _ _ (by first | exact .inr rfl | exact .inl rfl) (by first | rfl | (simp only [go_sem, Int.reduceEq, Int.reduceAdd, Int.reduceSub, Int.reduceMul, Nat.reduceLT, Int.reduceLT, Int.reduceLE, Int.reduceToNat, Nat.reduceAdd, Nat.reduceSub, Nat.reduceMul, Nat.reduceLeDiff, reduceCtorEq, r9, upd_ne hpq]; rfl) | simp only [go_sem, Int.reduceEq, Int.reduceAdd, Int.reduceSub, Int.reduceMul, Nat.reduceLT, Int.reduceLT, Int.reduceLE, Int.reduceToNat, Nat.reduceAdd, Nat.reduceSub, Nat.reduceMul, Nat.reduceLeDiff, reduceCtorEq, r9, upd_ne hpq]) (FzH.sub (by (repeat' (first | exact Sub.refl _ | assumption | (refine Sub.upd ?_ (by first | assumption | (simp only [*]; done) | exact Sub.isNone (by assumption) (by assumption) | exact Sub.isNone (by assumption) (by simp only [*]))))))) (FzL.refl _ _ _) ?_
  simp only [go_sem, Int.reduceEq, Int.reduceAdd, Int.reduceSub, Int.reduceMul, Nat.reduceLT, Int.reduceLT, Int.reduceLE, Int.reduceToNat, Nat.reduceAdd, Nat.reduceSub, Nat.reduceMul, Nat.reduceLeDiff, reduceCtorEq]
  rfl
theorem of_bad3p {x0 x1 x2 x3 x4 x5 x6 x7 : Int} (ex : Bool) (h : AHeap) (k0 : 0 ≤ x0 ∧ x0 ≤ 65535) (k1 : 0 ≤ x1 ∧ x1 ≤ 65535) (k2 : 0 ≤ x2 ∧ x2 ≤ 65535) (bad : 65535 < x3) : PureA Tryd.prog 9 [.ro (cat i1 [x0, x1, x2, x3, x4, x5, x6, x7]) 8 ex] h (.tup [.agg (cat b1 zeroA), .int .i64 1]) := by
  have f1 : ∀ {x : Int}, 0 ≤ x ∧ x ≤ 65535 → decide (x < 0) = false := fun hx => decide_eq_false (by omega)
  have f2 : ∀ {x : Int}, 0 ≤ x ∧ x ≤ 65535 → decide (65535 < x) = false := fun hx => decide_eq_false (by omega)
  have f3 : ∀ {x : Int}, 0 ≤ x ∧ x ≤ 65535 → IntKind.u8.wrap (x / 256) = x / 256 := fun hx => by rw [w8]; omega
  have g1 : decide (x3 < 0) = false := decide_eq_false (by omega)
  have g2 : decide (65535 < x3) = true := decide_eq_true bad
  (refine PureA.enter (ac := c9) (rs := r9) Tryd.func9 rfl (by decide) c9_ok r9_ok ?_; intro Q hQ; simp only [go_sem, Int.reduceEq, Int.reduceAdd, Int.reduceSub, Int.reduceMul, Nat.reduceLT, Int.reduceLT, Int.reduceLE, Int.reduceToNat, Nat.reduceAdd, Nat.reduceSub, Nat.reduceMul, Nat.reduceLeDiff, reduceCtorEq, c9, Tryd.ntmps9, cati8, show ((8 : Nat) : Int) = 8 from rfl])
  intro p hp q hq
  obtain ⟨hpq, hq2⟩ := two_ne hq
  refine loop_n 9 ?_
  simp only [go_sem, Int.reduceEq, Int.reduceAdd, Int.reduceSub, Int.reduceMul, Nat.reduceLT, Int.reduceLT, Int.reduceLE, Int.reduceToNat, Nat.reduceAdd, Nat.reduceSub, Nat.reduceMul, Nat.reduceLeDiff, reduceCtorEq, loopN_succ, wl, w8, shr8i, decide_true, Bool.and_self, List.length_cons, List.length_nil, Nat.reduceAdd, Int.toNat_natCast, Int.natCast_one, upd_ne hpq, g1, g2, f1 k0, f2 k0, f3 k0, f1 k1, f2 k1, f3 k1, f1 k2, f2 k2, f3 k2]
  refine hQ _ _ _ _ _ (by first | exact .inr rfl | exact .inl rfl) (by first | rfl | (simp only [go_sem, Int.reduceEq, Int.reduceAdd, Int.reduceSub, Int.reduceMul, Nat.reduceLT, Int.reduceLT, Int.reduceLE, Int.reduceToNat, Nat.reduceAdd, Nat.reduceSub, Nat.reduceMul, Nat.reduceLeDiff, reduceCtorEq, r9, upd_ne hpq]; rfl) | simp only [go_sem, Int.reduceEq, Int.reduceAdd, Int.reduceSub, Int.reduceMul, Nat.reduceLT, Int.reduceLT, Int.reduceLE, Int.reduceToNat, Nat.reduceAdd, Nat.reduceSub, Nat.reduceMul, Nat.reduceLeDiff, reduceCtorEq, r9, upd_ne hpq]) (FzH.sub (by (repeat' (first | exact Sub.refl _ | assumption | (refine Sub.upd ?_ (by first | assumption | (simp only [*]; done) | exact Sub.isNone (by assumption) (by assumption) | exact Sub.isNone (by assumption) (by simp only [*]))))))) (FzL.refl _ _ _) ?_
  simp only [go_sem, Int.reduceEq, Int.reduceAdd, Int.reduceSub, Int.reduceMul, Nat.reduceLT, Int.reduceLT, Int.reduceLE, Int.reduceToNat, Nat.reduceAdd, Nat.reduceSub, Nat.reduceMul, Nat.reduceLeDiff, reduceCtorEq]
  rfl
theorem of_bad4n {x0 x1 x2 x3 x4 x5 x6 x7 : Int} (ex : Bool) (h : AHeap) (k0 : 0 ≤ x0 ∧ x0 ≤ 65535) (k1 : 0 ≤ x1 ∧ x1 ≤ 65535) (k2 : 0 ≤ x2 ∧ x2 ≤ 65535) (k3 : 0 ≤ x3 ∧ x3 ≤ 65535) (bad : x4 < 0) : PureA Tryd.prog 9 [.ro (cat i1 [x0, x1, x2, x3, x4, x5, x6, x7]) 8 ex] h (.tup [.agg (cat b1 zeroA), .int .i64 1]) := by
  have f1 : ∀ {x : Int}, 0 ≤ x ∧ x ≤ 65535 → decide (x < 0) = false := fun hx => decide_eq_false (by omega)
  have f2 : ∀ {x : Int}, 0 ≤ x ∧ x ≤ 65535 → decide (65535 < x) = false := fun hx => decide_eq_false (by omega)
  have f3 : ∀ {x : Int}, 0 ≤ x ∧ x ≤ 65535 → IntKind.u8.wrap (x / 256) = x / 256 := fun hx => by rw [w8]; omega
  have g1 : decide (x4 < 0) = true := decide_eq_true bad
  (refine PureA.enter (ac := c9) (rs := r9) Tryd.func9 rfl (by decide) c9_ok r9_ok ?_; intro Q hQ; simp only [go_sem, Int.reduceEq, Int.reduceAdd, Int.reduceSub, Int.reduceMul, Nat.reduceLT, Int.reduceLT, Int.reduceLE, Int.reduceToNat, Nat.reduceAdd, Nat.reduceSub, Nat.reduceMul, Nat.reduceLeDiff, reduceCtorEq, c9, Tryd.ntmps9, cati8, show ((8 : Nat) : Int) = 8 from rfl])
  intro p hp q hq
  obtain ⟨hpq, hq2⟩ := two_ne hq
  refine loop_n 9 ?_
  simp only [go_sem, Int.reduceEq, Int.reduceAdd, Int.reduceSub, Int.reduceMul, Nat.reduceLT, Int.reduceLT, Int.reduceLE, Int.reduceToNat, Nat.reduceAdd, Nat.reduceSub, Nat.reduceMul, Nat.reduceLeDiff, reduceCtorEq, loopN_succ, wl, w8, shr8i, decide_true, Bool.and_self, List.length_cons, List.length_nil, Nat.reduceAdd, Int.toNat_natCast, Int.natCast_one, upd_ne hpq, g1, f1 k0, f2 k0, f3 k0, f1 k1, f2 k1, f3 k1, f1 k2, f2 k2, f3 k2, f1 k3, f2 k3, f3 k3]
  refine hQ _ _ _ _ _ (by first | exact .inr rfl | exact .inl rfl) (by first | rfl | (simp only [go_sem, Int.reduceEq, Int.reduceAdd, Int.reduceSub, Int.reduceMul, Nat.reduceLT, Int.reduceLT, Int.reduceLE, Int.reduceToNat, Nat.reduceAdd, Nat.reduceSub, Nat.reduceMul, Nat.reduceLeDiff, reduceCtorEq, r9, upd_ne hpq]; rfl) | simp only [go_sem, Int.reduceEq, Int.reduceAdd, Int.reduceSub, Int.reduceMul, Nat.reduceLT, Int.reduceLT, Int.reduceLE, Int.reduceToNat, Nat.reduceAdd, Nat.reduceSub, Nat.reduceMul, Nat.reduceLeDiff, reduceCtorEq, r9, upd_ne hpq]) (FzH.sub (by (repeat' (first | exact Sub.refl _ | assumption | (refine Sub.upd ?_ (by first | assumption | (simp only [*]; done) | exact Sub.isNone (by assumption) (by assumption) | exact Sub.isNone (by assumption) (by simp only [*]))))))) (FzL.refl _ _ _) ?_
  simp only [go_sem, Int.reduceEq, Int.reduceAdd, Int.reduceSub, Int.reduceMul, Nat.reduceLT, Int.reduceLT, Int.reduceLE, Int.reduceToNat, Nat.reduceAdd, Nat.reduceSub, Nat.reduceMul, Nat.reduceLeDiff, reduceCtorEq]
  rfl
theorem of_bad4p {x0 x1 x2 x3 x4 x5 x6 x7 : Int} (ex : Bool) (h : AHeap) (k0 : 0 ≤ x0 ∧ x0 ≤ 65535) (k1 : 0 ≤ x1 ∧ x1 ≤ 65535) (k2 : 0 ≤ x2 ∧ x2 ≤ 65535) (k3 : 0 ≤ x3 ∧ x3 ≤ 65535) (bad : 65535 < x4) : PureA Tryd.prog 9 [.ro (cat i1 [x0, x1, x2, x3, x4, x5, x6, x7]) 8 ex] h (.tup [.agg (cat b1 zeroA), .int .i64 1]) := by
  have f1 : ∀ {x : Int}, 0 ≤ x ∧ x ≤ 65535 → decide (x < 0) = false := fun hx => decide_eq_false (by omega)
  have f2 : ∀ {x : Int}, 0 ≤ x ∧ x ≤ 65535 → decide (65535 < x) = false := fun hx => decide_eq_false (by omega)
  have f3 : ∀ {x : Int}, 0 ≤ x ∧ x ≤ 65535 → IntKind.u8.wrap (x / 256) = x / 256 := fun hx => by rw [w8]; omega
  have g1 : decide (x4 < 0) = false := decide_eq_false (by omega)
  have g2 : decide (65535 < x4) = true := decide_eq_true bad
  (refine PureA.enter (ac := c9) (rs := r9) Tryd.func9 rfl (by decide) c9_ok r9_ok ?_; intro Q hQ; simp only [go_sem, Int.reduceEq, Int.reduceAdd, Int.reduceSub, Int.reduceMul, Nat.reduceLT, Int.reduceLT, Int.reduceLE, Int.reduceToNat, Nat.reduceAdd, Nat.reduceSub, Nat.reduceMul, Nat.reduceLeDiff, reduceCtorEq, c9, Tryd.ntmps9, cati8, show ((8 : Nat) : Int) = 8 from rfl])
  intro p hp q hq
  obtain ⟨hpq, hq2⟩ := two_ne hq
  refine loop_n 9 ?_
  simp only [go_sem, Int.reduceEq, Int.reduceAdd, Int.reduceSub, Int.reduceMul, Nat.reduceLT, Int.reduceLT, Int.reduceLE, Int.reduceToNat, Nat.reduceAdd, Nat.reduceSub, Nat.reduceMul, Nat.reduceLeDiff, reduceCtorEq, loopN_succ, wl, w8, shr8i, decide_true, Bool.and_self, List.length_cons, List.length_nil, Nat.reduceAdd, Int.toNat_natCast, Int.natCast_one, upd_ne hpq, g1, g2, f1 k0, f2 k0, f3 k0, f1 k1, f2 k1, f3 k1, f1 k2, f2 k2, f3 k2, f1 k3, f2 k3, f3 k3]
  refine hQ _ _ _ _ _ (by first | exact .inr rfl | exact .inl rfl) (by first | rfl | (simp only [go_sem, Int.reduceEq, Int.reduceAdd, Int.reduceSub, Int.reduceMul, Nat.reduceLT, Int.reduceLT, Int.reduceLE, Int.reduceToNat, Nat.reduceAdd, Nat.reduceSub, Nat.reduceMul, Nat.reduceLeDiff, reduceCtorEq, r9, upd_ne hpq]; rfl) | simp only [go_sem, Int.reduceEq, Int.reduceAdd, Int.reduceSub, Int.reduceMul, Nat.reduceLT, Int.reduceLT, Int.reduceLE, Int.reduceToNat, Nat.reduceAdd, Nat.reduceSub, Nat.reduceMul, Nat.reduceLeDiff, reduceCtorEq, r9, upd_ne hpq]) (FzH.sub (by (repeat' (first | exact Sub.refl _ | assumption | (refine Sub.upd ?_ (by first | assumption | (simp only [*]; done) | exact Sub.isNone (by assumption) (by assumption) | exact Sub.isNone (by assumption) (by simp only [*]))))))) (FzL.refl _ _ _) ?_
  simp only [go_sem, Int.reduceEq, Int.reduceAdd, Int.reduceSub, Int.reduceMul, Nat.reduceLT, Int.reduceLT, Int.reduceLE, Int.reduceToNat, Nat.reduceAdd, Nat.reduceSub, Nat.reduceMul, Nat.reduceLeDiff, reduceCtorEq]
  rfl
theorem of_bad5n {x0 x1 x2 x3 x4 x5 x6 x7 : Int} (ex : Bool) (h : AHeap) (k0 : 0 ≤ x0 ∧ x0 ≤ 65535) (k1 : 0 ≤ x1 ∧ x1 ≤ 65535) (k2 : 0 ≤ x2 ∧ x2 ≤ 65535) (k3 : 0 ≤ x3 ∧ x3 ≤ 65535) (k4 : 0 ≤ x4 ∧ x4 ≤ 65535) (bad : x5 < 0) : PureA Tryd.prog 9 [.ro (cat i1 [x0, x1, x2, x3, x4, x5, x6, x7]) 8 ex] h (.tup [.agg (cat b1 zeroA), .int .i64 1]) := by
  have f1 : ∀ {x : Int}, 0 ≤ x ∧ x ≤ 65535 → decide (x < 0) = false := fun hx => decide_eq_false (by omega)
  have f2 : ∀ {x : Int}, 0 ≤ x ∧ x ≤ 65535 → decide (65535 < x) = false := fun hx => decide_eq_false (by omega)
  have f3 : ∀ {x : Int}, 0 ≤ x ∧ x ≤ 65535 → IntKind.u8.wrap (x / 256) = x / 256 := fun hx => by rw [w8]; omega
  have g1 : decide (x5 < 0) = true := decide_eq_true bad
  (refine PureA.enter (ac := c9) (rs := r9) Tryd.func9 rfl (by decide) c9_ok r9_ok ?_; intro Q hQ; simp only [go_sem, Int.reduceEq, Int.reduceAdd, Int.reduceSub, Int.reduceMul, Nat.reduceLT, Int.reduceLT, Int.reduceLE, Int.reduceToNat, Nat.reduceAdd, Nat.reduceSub, Nat.reduceMul, Nat.reduceLeDiff, reduceCtorEq, c9, Tryd.ntmps9, cati8, show ((8 : Nat) : Int) = 8 from rfl])
  intro p hp q hq
  obtain ⟨hpq, hq2⟩ := two_ne hq
  refine loop_n 9 ?_
  simp only [go_sem, Int.reduceEq, Int.reduceAdd, Int.reduceSub, Int.reduceMul, Nat.reduceLT, Int.reduceLT, Int.reduceLE, Int.reduceToNat, Nat.reduceAdd, Nat.reduceSub, Nat.reduceMul, Nat.reduceLeDiff, reduceCtorEq, loopN_succ, wl, w8, shr8i, decide_true, Bool.and_self, List.length_cons, List.length_nil, Nat.reduceAdd, Int.toNat_natCast, Int.natCast_one, upd_ne hpq, g1, f1 k0, f2 k0, f3 k0, f1 k1, f2 k1, f3 k1, f1 k2, f2 k2, f3 k2, f1 k3, f2 k3, f3 k3, f1 k4, f2 k4, f3 k4]
  refine hQ _ _ _ _ _ (by first | exact .inr rfl | exact .inl rfl) (by first | rfl | (simp only [go_sem, Int.reduceEq, Int.reduceAdd, Int.reduceSub, Int.reduceMul, Nat.reduceLT, Int.reduceLT, Int.reduceLE, Int.reduceToNat, Nat.reduceAdd, Nat.reduceSub, Nat.reduceMul, Nat.reduceLeDiff, reduceCtorEq, r9, upd_ne hpq]; rfl) | simp only [go_sem, Int.reduceEq, Int.reduceAdd, Int.reduceSub, Int.reduceMul, Nat.reduceLT, Int.reduceLT, Int.reduceLE, Int.reduceToNat, Nat.reduceAdd, Nat.reduceSub, Nat.reduceMul, Nat.reduceLeDiff, reduceCtorEq, r9, upd_ne hpq]) (FzH.sub (by (repeat' (first | exact Sub.refl _ | assumption | (refine Sub.upd ?_ (by first | assumption | (simp only [*]; done) | exact Sub.isNone (by assumption) (by assumption) | exact Sub.isNone (by assumption) (by simp only [*]))))))) (FzL.refl _ _ _) ?_
  simp only [go_sem, Int.reduceEq, Int.reduceAdd, Int.reduceSub, Int.reduceMul, Nat.reduceLT, Int.reduceLT, Int.reduceLE, Int.reduceToNat, Nat.reduceAdd, Nat.reduceSub, Nat.reduceMul, Nat.reduceLeDiff, reduceCtorEq]
  rfl
theorem of_bad5p {x0 x1 x2 x3 x4 x5 x6 x7 : Int} (ex : Bool) (h : AHeap) (k0 : 0 ≤ x0 ∧ x0 ≤ 65535) (k1 : 0 ≤ x1 ∧ x1 ≤ 65535) (k2 : 0 ≤ x2 ∧ x2 ≤ 65535) (k3 : 0 ≤ x3 ∧ x3 ≤ 65535) (k4 : 0 ≤ x4 ∧ x4 ≤ 65535) (bad : 65535 < x5) : PureA Tryd.prog 9 [.ro (cat i1 [x0, x1, x2, x3, x4, x5, x6, x7]) 8 ex] h (.tup [.agg (cat b1 zeroA), .int .i64 1]) := by
  have f1 : ∀ {x : Int}, 0 ≤ x ∧ x ≤ 65535 → decide (x < 0) = false := fun hx => decide_eq_false (by omega)
  have f2 : ∀ {x : Int}, 0 ≤ x ∧ x ≤ 65535 → decide (65535 < x) = false := fun hx => decide_eq_false (by omega)
  have f3 : ∀ {x : Int}, 0 ≤ x ∧ x ≤ 65535 → IntKind.u8.wrap (x / 256) = x / 256 := fun hx => by rw [w8]; omega
  have g1 : decide (x5 < 0) = false := decide_eq_false (by omega)
  have g2 : decide (65535 < x5) = true := decide_eq_true bad
  (refine PureA.enter (ac := c9) (rs := r9) Tryd.func9 rfl (by decide) c9_ok r9_ok ?_; intro Q hQ; simp only [go_sem, Int.reduceEq, Int.reduceAdd, Int.reduceSub, Int.reduceMul, Nat.reduceLT, Int.reduceLT, Int.reduceLE, Int.reduceToNat, Nat.reduceAdd, Nat.reduceSub, Nat.reduceMul, Nat.reduceLeDiff, reduceCtorEq, c9, Tryd.ntmps9, cati8, show ((8 : Nat) : Int) = 8 from rfl])
  intro p hp q hq
  obtain ⟨hpq, hq2⟩ := two_ne hq
  refine loop_n 9 ?_
  simp only [go_sem, Int.reduceEq, Int.reduceAdd, Int.reduceSub, Int.reduceMul, Nat.reduceLT, Int.reduceLT, Int.reduceLE, Int.reduceToNat, Nat.reduceAdd, Nat.reduceSub, Nat.reduceMul, Nat.reduceLeDiff, reduceCtorEq, loopN_succ, wl, w8, shr8i, decide_true, Bool.and_self, List.length_cons, List.length_nil, Nat.reduceAdd, Int.toNat_natCast, Int.natCast_one, upd_ne hpq, g1, g2, f1 k0, f2 k0, f3 k0, f1 k1, f2 k1, f3 k1, f1 k2, f2 k2, f3 k2, f1 k3, f2 k3, f3 k3, f1 k4, f2 k4, f3 k4]
  refine hQ _ _ _ _ _ (by first | exact .inr rfl | exact .inl rfl) (by first | rfl | (simp only [go_sem, Int.reduceEq, Int.reduceAdd, Int.reduceSub, Int.reduceMul, Nat.reduceLT, Int.reduceLT, Int.reduceLE, Int.reduceToNat, Nat.reduceAdd, Nat.reduceSub, Nat.reduceMul, Nat.reduceLeDiff, reduceCtorEq, r9, upd_ne hpq]; rfl) | simp only [go_sem, Int.reduceEq, Int.reduceAdd, Int.reduceSub, Int.reduceMul, Nat.reduceLT, Int.reduceLT, Int.reduceLE, Int.reduceToNat, Nat.reduceAdd, Nat.reduceSub, Nat.reduceMul, Nat.reduceLeDiff, reduceCtorEq, r9, upd_ne hpq]) (FzH.sub (by (repeat' (first | exact Sub.refl _ | assumption | (refine Sub.upd ?_ (by first | assumption | (simp only [*]; done) | exact Sub.isNone (by assumption) (by assumption) | exact Sub.isNone (by assumption) (by simp only [*]))))))) (FzL.refl _ _ _) ?_
  simp only [go_sem, Int.reduceEq, Int.reduceAdd, Int.reduceSub, Int.reduceMul, Nat.reduceLT, Int.reduceLT, Int.reduceLE, Int.reduceToNat, Nat.reduceAdd, Nat.reduceSub, Nat.reduceMul, Nat.reduceLeDiff, reduceCtorEq]
  rfl
theorem of_bad6n {x0 x1 x2 x3 x4 x5 x6 x7 : Int} (ex : Bool) (h : AHeap) (k0 : 0 ≤ x0 ∧ x0 ≤ 65535) (k1 : 0 ≤ x1 ∧ x1 ≤ 65535) (k2 : 0 ≤ x2 ∧ x2 ≤ 65535) (k3 : 0 ≤ x3 ∧ x3 ≤ 65535) (k4 : 0 ≤ x4 ∧ x4 ≤ 65535) (k5 : 0 ≤ x5 ∧ x5 ≤ 65535) (bad : x6 < 0) : PureA Tryd.prog 9 [.ro (cat i1 [x0, x1, x2, x3, x4, x5, x6, x7]) 8 ex] h (.tup [.agg (cat b1 zeroA), .int .i64 1]) := by
  have f1 : ∀ {x : Int}, 0 ≤ x ∧ x ≤ 65535 → decide (x < 0) = false := fun hx => decide_eq_false (by omega)
  have f2 : ∀ {x : Int}, 0 ≤ x ∧ x ≤ 65535 → decide (65535 < x) = false := fun hx => decide_eq_false (by omega)
  have f3 : ∀ {x : Int}, 0 ≤ x ∧ x ≤ 65535 → IntKind.u8.wrap (x / 256) = x / 256 := fun hx => by rw [w8]; omega
  have g1 : decide (x6 < 0) = true := decide_eq_true bad
  (refine PureA.enter (ac := c9) (rs := r9) Tryd.func9 rfl (by decide) c9_ok r9_ok ?_; intro Q hQ; simp only [go_sem, Int.reduceEq, Int.reduceAdd, Int.reduceSub, Int.reduceMul, Nat.reduceLT, Int.reduceLT, Int.reduceLE, Int.reduceToNat, Nat.reduceAdd, Nat.reduceSub, Nat.reduceMul, Nat.reduceLeDiff, reduceCtorEq, c9, Tryd.ntmps9, cati8, show ((8 : Nat) : Int) = 8 from rfl])
  intro p hp q hq
  obtain ⟨hpq, hq2⟩ := two_ne hq
  refine loop_n 9 ?_
  simp only [go_sem, Int.reduceEq, Int.reduceAdd, Int.reduceSub, Int.reduceMul, Nat.reduceLT, Int.reduceLT, Int.reduceLE, Int.reduceToNat, Nat.reduceAdd, Nat.reduceSub, Nat.reduceMul, Nat.reduceLeDiff, reduceCtorEq, loopN_succ, wl, w8, shr8i, decide_true, Bool.and_self, List.length_cons, List.length_nil, Nat.reduceAdd, Int.toNat_natCast, Int.natCast_one, upd_ne hpq, g1, f1 k0, f2 k0, f3 k0, f1 k1, f2 k1, f3 k1, f1 k2, f2 k2, f3 k2, f1 k3, f2 k3, f3 k3, f1 k4, f2 k4, f3 k4, f1 k5, f2 k5, f3 k5]
  refine hQ _ _ _ _ _ (by first | exact .inr rfl | exact .inl rfl) (by first | rfl | (simp only [go_sem, Int.reduceEq, Int.reduceAdd, Int.reduceSub, Int.reduceMul, Nat.reduceLT, Int.reduceLT, Int.reduceLE, Int.reduceToNat, Nat.reduceAdd, Nat.reduceSub, Nat.reduceMul, Nat.reduceLeDiff, reduceCtorEq, r9, upd_ne hpq]; rfl) | simp only [go_sem, Int.reduceEq, Int.reduceAdd, Int.reduceSub, Int.reduceMul, Nat.reduceLT, Int.reduceLT, Int.reduceLE, Int.reduceToNat, Nat.reduceAdd, Nat.reduceSub, Nat.reduceMul, Nat.reduceLeDiff, reduceCtorEq, r9, upd_ne hpq]) (FzH.sub (by (repeat' (first | exact Sub.refl _ | assumption | (refine Sub.upd ?_ (by first | assumption | (simp only [*]; done) | exact Sub.isNone (by assumption) (by assumption) | exact Sub.isNone (by assumption) (by simp only [*]))))))) (FzL.refl _ _ _) ?_
  simp only [go_sem, Int.reduceEq, Int.reduceAdd, Int.reduceSub, Int.reduceMul, Nat.reduceLT, Int.reduceLT, Int.reduceLE, Int.reduceToNat, Nat.reduceAdd, Nat.reduceSub, Nat.reduceMul, Nat.reduceLeDiff, reduceCtorEq]
  rfl
theorem of_bad6p {x0 x1 x2 x3 x4 x5 x6 x7 : Int} (ex : Bool) (h : AHeap) (k0 : 0 ≤ x0 ∧ x0 ≤ 65535) (k1 : 0 ≤ x1 ∧ x1 ≤ 65535) (k2 : 0 ≤ x2 ∧ x2 ≤ 65535) (k3 : 0 ≤ x3 ∧ x3 ≤ 65535) (k4 : 0 ≤ x4 ∧ x4 ≤ 65535) (k5 : 0 ≤ x5 ∧ x5 ≤ 65535) (bad : 65535 < x6) : PureA Tryd.prog 9 [.ro (cat i1 [x0, x1, x2, x3, x4, x5, x6, x7]) 8 ex] h (.tup [.agg (cat b1 zeroA), .int .i64 1]) := by
  have f1 : ∀ {x : Int}, 0 ≤ x ∧ x ≤ 65535 → decide (x < 0) = false := fun hx => decide_eq_false (by omega)
  have f2 : ∀ {x : Int}, 0 ≤ x ∧ x ≤ 65535 → decide (65535 < x) = false := fun hx => decide_eq_false (by omega)
  have f3 : ∀ {x : Int}, 0 ≤ x ∧ x ≤ 65535 → IntKind.u8.wrap (x / 256) = x / 256 := fun hx => by rw [w8]; omega
  have g1 : decide (x6 < 0) = false := decide_eq_false (by omega)
  have g2 : decide (65535 < x6) = true := decide_eq_true bad
  (refine PureA.enter (ac := c9) (rs := r9) Tryd.func9 rfl (by decide) c9_ok r9_ok ?_; intro Q hQ; simp only [go_sem, Int.reduceEq, Int.reduceAdd, Int.reduceSub, Int.reduceMul, Nat.reduceLT, Int.reduceLT, Int.reduceLE, Int.reduceToNat, Nat.reduceAdd, Nat.reduceSub, Nat.reduceMul, Nat.reduceLeDiff, reduceCtorEq, c9, Tryd.ntmps9, cati8, show ((8 : Nat) : Int) = 8 from rfl])
  intro p hp q hq
  obtain ⟨hpq, hq2⟩ := two_ne hq
  refine loop_n 9 ?_
  simp only [go_sem, Int.reduceEq, Int.reduceAdd, Int.reduceSub, Int.reduceMul, Nat.reduceLT, Int.reduceLT, Int.reduceLE, Int.reduceToNat, Nat.reduceAdd, Nat.reduceSub, Nat.reduceMul, Nat.reduceLeDiff, reduceCtorEq, loopN_succ, wl, w8, shr8i, decide_true, Bool.and_self, List.length_cons, List.length_nil, Nat.reduceAdd, Int.toNat_natCast, Int.natCast_one, upd_ne hpq, g1, g2, f1 k0, f2 k0, f3 k0, f1 k1, f2 k1, f3 k1, f1 k2, f2 k2, f3 k2, f1 k3, f2 k3, f3 k3, f1 k4, f2 k4, f3 k4, f1 k5, f2 k5, f3 k5]
  refine hQ _ _ _ _ _ (by first | exact .inr rfl | exact .inl rfl) (by first | rfl | (simp only [go_sem, Int.reduceEq, Int.reduceAdd, Int.reduceSub, Int.reduceMul, Nat.reduceLT, Int.reduceLT, Int.reduceLE, Int.reduceToNat, Nat.reduceAdd, Nat.reduceSub, Nat.reduceMul, Nat.reduceLeDiff, reduceCtorEq, r9, upd_ne hpq]; rfl) | simp only [go_sem, Int.reduceEq, Int.reduceAdd, Int.reduceSub, Int.reduceMul, Nat.reduceLT, Int.reduceLT, Int.reduceLE, Int.reduceToNat, Nat.reduceAdd, Nat.reduceSub, Nat.reduceMul, Nat.reduceLeDiff, reduceCtorEq, r9, upd_ne hpq]) (FzH.sub (by (repeat' (first | exact Sub.refl _ | assumption | (refine Sub.upd ?_ (by first | assumption | (simp only [*]; done) | exact Sub.isNone (by assumption) (by assumption) | exact Sub.isNone (by assumption) (by simp only [*]))))))) (FzL.refl _ _ _) ?_
  simp only [go_sem, Int.reduceEq, Int.reduceAdd, Int.reduceSub, Int.reduceMul, Nat.reduceLT, Int.reduceLT, Int.reduceLE, Int.reduceToNat, Nat.reduceAdd, Nat.reduceSub, Nat.reduceMul, Nat.reduceLeDiff, reduceCtorEq]
  rfl
theorem of_bad7n {x0 x1 x2 x3 x4 x5 x6 x7 : Int} (ex : Bool) (h : AHeap) (k0 : 0 ≤ x0 ∧ x0 ≤ 65535) (k1 : 0 ≤ x1 ∧ x1 ≤ 65535) (k2 : 0 ≤ x2 ∧ x2 ≤ 65535) (k3 : 0 ≤ x3 ∧ x3 ≤ 65535) (k4 : 0 ≤ x4 ∧ x4 ≤ 65535) (k5 : 0 ≤ x5 ∧ x5 ≤ 65535) (k6 : 0 ≤ x6 ∧ x6 ≤ 65535) (bad : x7 < 0) : PureA Tryd.prog 9 [.ro (cat i1 [x0, x1, x2, x3, x4, x5, x6, x7]) 8 ex] h (.tup [.agg (cat b1 zeroA), .int .i64 1]) := by
  have f1 : ∀ {x : Int}, 0 ≤ x ∧ x ≤ 65535 → decide (x < 0) = false := fun hx => decide_eq_false (by omega)
  have f2 : ∀ {x : Int}, 0 ≤ x ∧ x ≤ 65535 → decide (65535 < x) = false := fun hx => decide_eq_false (by omega)
  have f3 : ∀ {x : Int}, 0 ≤ x ∧ x ≤ 65535 → IntKind.u8.wrap (x / 256) = x / 256 := fun hx => by rw [w8]; omega
  have g1 : decide (x7 < 0) = true := decide_eq_true bad
  (refine PureA.enter (ac := c9) (rs := r9) Tryd.func9 rfl (by decide) c9_ok r9_ok ?_; intro Q hQ; simp only [go_sem, Int.reduceEq, Int.reduceAdd, Int.reduceSub, Int.reduceMul, Nat.reduceLT, Int.reduceLT, Int.reduceLE, Int.reduceToNat, Nat.reduceAdd, Nat.reduceSub, Nat.reduceMul, Nat.reduceLeDiff, reduceCtorEq, c9, Tryd.ntmps9, cati8, show ((8 : Nat) : Int) = 8 from rfl])
  intro p hp q hq
  obtain ⟨hpq, hq2⟩ := two_ne hq
  refine loop_n 9 ?_
  simp only [go_sem, Int.reduceEq, Int.reduceAdd, Int.reduceSub, Int.reduceMul, Nat.reduceLT, Int.reduceLT, Int.reduceLE, Int.reduceToNat, Nat.reduceAdd, Nat.reduceSub, Nat.reduceMul, Nat.reduceLeDiff, reduceCtorEq, loopN_succ, wl, w8, shr8i, decide_true, Bool.and_self, List.length_cons, List.length_nil, Nat.reduceAdd, Int.toNat_natCast, Int.natCast_one, upd_ne hpq, g1, f1 k0, f2 k0, f3 k0, f1 k1, f2 k1, f3 k1, f1 k2, f2 k2, f3 k2, f1 k3, f2 k3, f3 k3, f1 k4, f2 k4, f3 k4, f1 k5, f2 k5, f3 k5, f1 k6, f2 k6, f3 k6]
  refine hQ _ _ _ _ _ (by first | exact .inr rfl | exact .inl rfl) (by first | rfl | (simp only [go_sem, Int.reduceEq, Int.reduceAdd, Int.reduceSub, Int.reduceMul, Nat.reduceLT, Int.reduceLT, Int.reduceLE, Int.reduceToNat, Nat.reduceAdd, Nat.reduceSub, Nat.reduceMul, Nat.reduceLeDiff, reduceCtorEq, r9, upd_ne hpq]; rfl) | simp only [go_sem, Int.reduceEq, Int.reduceAdd, Int.reduceSub, Int.reduceMul, Nat.reduceLT, Int.reduceLT, Int.reduceLE, Int.reduceToNat, Nat.reduceAdd, Nat.reduceSub, Nat.reduceMul, Nat.reduceLeDiff, reduceCtorEq, r9, upd_ne hpq]) (FzH.sub (by (repeat' (first | exact Sub.refl _ | assumption | (refine Sub.upd ?_ (by first | assumption | (simp only [*]; done) | exact Sub.isNone (by assumption) (by assumption) | exact Sub.isNone (by assumption) (by simp only [*]))))))) (FzL.refl _ _ _) ?_
  simp only [go_sem, Int.reduceEq, Int.reduceAdd, Int.reduceSub, Int.reduceMul, Nat.reduceLT, Int.reduceLT, Int.reduceLE, Int.reduceToNat, Nat.reduceAdd, Nat.reduceSub, Nat.reduceMul, Nat.reduceLeDiff, reduceCtorEq]
  rfl
theorem of_bad7p {x0 x1 x2 x3 x4 x5 x6 x7 : Int} (ex : Bool) (h : AHeap) (k0 : 0 ≤ x0 ∧ x0 ≤ 65535) (k1 : 0 ≤ x1 ∧ x1 ≤ 65535) (k2 : 0 ≤ x2 ∧ x2 ≤ 65535) (k3 : 0 ≤ x3 ∧ x3 ≤ 65535) (k4 : 0 ≤ x4 ∧ x4 ≤ 65535) (k5 : 0 ≤ x5 ∧ x5 ≤ 65535) (k6 : 0 ≤ x6 ∧ x6 ≤ 65535) (bad : 65535 < x7) : PureA Tryd.prog 9 [.ro (cat i1 [x0, x1, x2, x3, x4, x5, x6, x7]) 8 ex] h (.tup [.agg (cat b1 zeroA), .int .i64 1]) := by
  have f1 : ∀ {x : Int}, 0 ≤ x ∧ x ≤ 65535 → decide (x < 0) = false := fun hx => decide_eq_false (by omega)
  have f2 : ∀ {x : Int}, 0 ≤ x ∧ x ≤ 65535 → decide (65535 < x) = false := fun hx => decide_eq_false (by omega)
  have f3 : ∀ {x : Int}, 0 ≤ x ∧ x ≤ 65535 → IntKind.u8.wrap (x / 256) = x / 256 := fun hx => by rw [w8]; omega
  have g1 : decide (x7 < 0) = false := decide_eq_false (by omega)
  have g2 : decide (65535 < x7) = true := decide_eq_true bad
  (refine PureA.enter (ac := c9) (rs := r9) Tryd.func9 rfl (by decide) c9_ok r9_ok ?_; intro Q hQ; simp only [go_sem, Int.reduceEq, Int.reduceAdd, Int.reduceSub, Int.reduceMul, Nat.reduceLT, Int.reduceLT, Int.reduceLE, Int.reduceToNat, Nat.reduceAdd, Nat.reduceSub, Nat.reduceMul, Nat.reduceLeDiff, reduceCtorEq, c9, Tryd.ntmps9, cati8, show ((8 : Nat) : Int) = 8 from rfl])
  intro p hp q hq
  obtain ⟨hpq, hq2⟩ := two_ne hq
  refine loop_n 9 ?_
  simp only [go_sem, Int.reduceEq, Int.reduceAdd, Int.reduceSub, Int.reduceMul, Nat.reduceLT, Int.reduceLT, Int.reduceLE, Int.reduceToNat, Nat.reduceAdd, Nat.reduceSub, Nat.reduceMul, Nat.reduceLeDiff, reduceCtorEq, loopN_succ, wl, w8, shr8i, decide_true, Bool.and_self, List.length_cons, List.length_nil, Nat.reduceAdd, Int.toNat_natCast, Int.natCast_one, upd_ne hpq, g1, g2, f1 k0, f2 k0, f3 k0, f1 k1, f2 k1, f3 k1, f1 k2, f2 k2, f3 k2, f1 k3, f2 k3, f3 k3, f1 k4, f2 k4, f3 k4, f1 k5, f2 k5, f3 k5, f1 k6, f2 k6, f3 k6]
  refine hQ _ _ _ _ _ (by first | exact .inr rfl | exact .inl rfl) (by first | rfl | (simp only [go_sem, Int.reduceEq, Int.reduceAdd, Int.reduceSub, Int.reduceMul, Nat.reduceLT, Int.reduceLT, Int.reduceLE, Int.reduceToNat, Nat.reduceAdd, Nat.reduceSub, Nat.reduceMul, Nat.reduceLeDiff, reduceCtorEq, r9, upd_ne hpq]; rfl) | simp only [go_sem, Int.reduceEq, Int.reduceAdd, Int.reduceSub, Int.reduceMul, Nat.reduceLT, Int.reduceLT, Int.reduceLE, Int.reduceToNat, Nat.reduceAdd, Nat.reduceSub, Nat.reduceMul, Nat.reduceLeDiff, reduceCtorEq, r9, upd_ne hpq]) (FzH.sub (by (repeat' (first | exact Sub.refl _ | assumption | (refine Sub.upd ?_ (by first | assumption | (simp only [*]; done) | exact Sub.isNone (by assumption) (by assumption) | exact Sub.isNone (by assumption) (by simp only [*]))))))) (FzL.refl _ _ _) ?_
  simp only [go_sem, Int.reduceEq, Int.reduceAdd, Int.reduceSub, Int.reduceMul, Nat.reduceLT, Int.reduceLT, Int.reduceLE, Int.reduceToNat, Nat.reduceAdd, Nat.reduceSub, Nat.reduceMul, Nat.reduceLeDiff, reduceCtorEq]
  rfl

theorem of_bad (g : List Int) (ex : Bool) (h : AHeap) (h8 : g.length = 8) (hg : inG g = false) : PureA Tryd.prog 9 [.ro (cat i1 g) g.length ex] h (.tup [.agg (cat b1 zeroA), .int .i64 1]) := by
  obtain ⟨x0, x1, x2, x3, x4, x5, x6, x7, rfl⟩ := len8 h8
  by_cases k0 : 0 ≤ x0 ∧ x0 ≤ 65535
  rotate_left
  · by_cases n : x0 < 0
    · exact of_bad0n ex h  n
    · exact of_bad0p ex h  (by omega)
  by_cases k1 : 0 ≤ x1 ∧ x1 ≤ 65535
  rotate_left
  · by_cases n : x1 < 0
    · exact of_bad1n ex h k0 n
    · exact of_bad1p ex h k0 (by omega)
  by_cases k2 : 0 ≤ x2 ∧ x2 ≤ 65535
  rotate_left
  · by_cases n : x2 < 0
    · exact of_bad2n ex h k0 k1 n
    · exact of_bad2p ex h k0 k1 (by omega)
  by_cases k3 : 0 ≤ x3 ∧ x3 ≤ 65535
  rotate_left
  · by_cases n : x3 < 0
    · exact of_bad3n ex h k0 k1 k2 n
    · exact of_bad3p ex h k0 k1 k2 (by omega)
  by_cases k4 : 0 ≤ x4 ∧ x4 ≤ 65535
  rotate_left
  · by_cases n : x4 < 0
    · exact of_bad4n ex h k0 k1 k2 k3 n
    · exact of_bad4p ex h k0 k1 k2 k3 (by omega)
  by_cases k5 : 0 ≤ x5 ∧ x5 ≤ 65535
  rotate_left
  · by_cases n : x5 < 0
    · exact of_bad5n ex h k0 k1 k2 k3 k4 n
    · exact of_bad5p ex h k0 k1 k2 k3 k4 (by omega)
  by_cases k6 : 0 ≤ x6 ∧ x6 ≤ 65535
  rotate_left
  · by_cases n : x6 < 0
    · exact of_bad6n ex h k0 k1 k2 k3 k4 k5 n
    · exact of_bad6p ex h k0 k1 k2 k3 k4 k5 (by omega)
  by_cases k7 : 0 ≤ x7 ∧ x7 ≤ 65535
  rotate_left
  · by_cases n : x7 < 0
    · exact of_bad7n ex h k0 k1 k2 k3 k4 k5 k6 n
    · exact of_bad7p ex h k0 k1 k2 k3 k4 k5 k6 (by omega)
  exfalso
  simp [inG, k0.1, k0.2, k1.1, k1.2, k2.1, k2.2, k3.1, k3.2, k4.1, k4.2, k5.1, k5.2, k6.1, k6.2, k7.1, k7.2] at hg

/-- addr.Of, of any numbers. -/
def ofV (g : List Int) : AV := if ofOk g then .tup [.agg (cat b1 (ofG g)), .int .i64 0] else .tup [.agg (cat b1 zeroA), .int .i64 1]
theorem of_spec (g : List Int) (ex : Bool) (h : AHeap) (hl : g.length ≤ 1000000) : PureA Tryd.prog 9 [.ro (cat i1 g) g.length ex] h (ofV g) := by
  unfold ofV ofOk
  by_cases h8 : g.length = 8
  · cases hg : inG g
    · simp only [h8, hg, beq_self_eq_true, Bool.and_false, Bool.false_eq_true, if_false]
      have := of_bad g ex h h8 hg
      rw [h8] at this; exact this
    · simp only [h8, hg, beq_self_eq_true, Bool.and_true, if_true]
      have := of_ok g ex h h8 hg
      rw [h8] at this; exact this
  · have e : (g.length == 8) = false := by simp [h8]
    simp only [e, Bool.false_and, Bool.false_eq_true, if_false]
    exact of_len g ex h h8 hl

def joinL (ls : List (List Int)) : List Int := match ls with | [] => [] | x :: r => x ++ r.flatMap fun y => 58 :: y
def joinS (g : List Int) : List Int := joinL (g.map hexL)

end Go.Proofs.YtdlghfekgecjjaaDoor
