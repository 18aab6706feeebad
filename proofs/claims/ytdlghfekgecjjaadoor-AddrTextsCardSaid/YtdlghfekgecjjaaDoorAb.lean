/-
  strconv.FormatInt in base 16, of groups.
-/
import Derived.Test.YtdlghfekgecjjaaDoorAa
namespace Go.Proofs.YtdlghfekgecjjaaDoor
open Go E
set_option linter.unusedVariables false
set_option linter.unusedSimpArgs false
set_option maxRecDepth 100000

theorem tz64_16 (h : AHeap) : PureA Tryd.prog 89 [.int .u64 16] h (.int .i64 4) := by
  (refine PureA.enter (ac := c89) (rs := r89) Tryd.func89 rfl (by decide) c89_ok r89_ok ?_; intro Q hQ; simp only [go_sem, Int.reduceEq, Int.reduceAdd, Int.reduceSub, Int.reduceMul, Nat.reduceLT, Int.reduceLT, Int.reduceLE, Int.reduceToNat, Nat.reduceAdd, Nat.reduceSub, Nat.reduceMul, Nat.reduceLeDiff, reduceCtorEq, c89, Tryd.ntmps89, show IntKind.u64.wrap (-16) = 18446744073709551600 from rfl, show binA .and (.int .u64 16) (.int .u64 18446744073709551600) = some (.int .u64 16) from rfl, show IntKind.u64.wrap 4573923408821661840 = 4573923408821661840 from rfl, show binA .shr (.int .u64 4573923408821661840) (.int .u64 58) = some (.int .u64 15) from rfl, bru64, show IntKind.i64.wrap 4 = 4 from rfl, show globs 7 = some (bru64.map (.int .u8)) from rfl])
  (refine hQ _ _ _ _ _ (by first | exact .inr rfl | exact .inl rfl) rfl (by first | exact FzH.refl _ | exact FzH.sub (by (repeat' (first | exact Sub.refl _ | assumption | (refine Sub.upd ?_ (by first | assumption | (simp only [*]; done) | exact Sub.isNone (by assumption) (by assumption) | exact Sub.isNone (by assumption) (by simp only [*]))))))) (FzL.refl _ _ _) ?_; try (simp only [go_sem, Int.reduceEq, Int.reduceAdd, Int.reduceSub, Int.reduceMul, Nat.reduceLT, Int.reduceLT, Int.reduceLE, Int.reduceToNat, Nat.reduceAdd, Nat.reduceSub, Nat.reduceMul, Nat.reduceLeDiff, reduceCtorEq]))

theorem tz_16 (h : AHeap) : PureA Tryd.prog 81 [.int .u64 16] h (.int .i64 4) := by
  (refine PureA.enter (ac := c81) (rs := r81) Tryd.func81 rfl (by decide) c81_ok r81_ok ?_; intro Q hQ; simp only [go_sem, Int.reduceEq, Int.reduceAdd, Int.reduceSub, Int.reduceMul, Nat.reduceLT, Int.reduceLT, Int.reduceLE, Int.reduceToNat, Nat.reduceAdd, Nat.reduceSub, Nat.reduceMul, Nat.reduceLeDiff, reduceCtorEq, c81, Tryd.ntmps81])
  refine (tz64_16 _).use ?_
  simp only [go_sem, Int.reduceEq, Int.reduceAdd, Int.reduceSub, Int.reduceMul, Nat.reduceLT, Int.reduceLT, Int.reduceLE, Int.reduceToNat, Nat.reduceAdd, Nat.reduceSub, Nat.reduceMul, Nat.reduceLeDiff, reduceCtorEq]
  (refine hQ _ _ _ _ _ (by first | exact .inr rfl | exact .inl rfl) rfl (by first | exact FzH.refl _ | exact FzH.sub (by (repeat' (first | exact Sub.refl _ | assumption | (refine Sub.upd ?_ (by first | assumption | (simp only [*]; done) | exact Sub.isNone (by assumption) (by assumption) | exact Sub.isNone (by assumption) (by simp only [*]))))))) (FzL.refl _ _ _) ?_; try (simp only [go_sem, Int.reduceEq, Int.reduceAdd, Int.reduceSub, Int.reduceMul, Nat.reduceLT, Int.reduceLT, Int.reduceLE, Int.reduceToNat, Nat.reduceAdd, Nat.reduceSub, Nat.reduceMul, Nat.reduceLeDiff, reduceCtorEq]))

theorem pow2_16 (h : AHeap) : PureA Tryd.prog 80 [.int .i64 16] h (.bool true) := by
  (refine PureA.enter (ac := c80) (rs := r80) Tryd.func80 rfl (by decide) c80_ok r80_ok ?_; intro Q hQ; simp only [go_sem, Int.reduceEq, Int.reduceAdd, Int.reduceSub, Int.reduceMul, Nat.reduceLT, Int.reduceLT, Int.reduceLE, Int.reduceToNat, Nat.reduceAdd, Nat.reduceSub, Nat.reduceMul, Nat.reduceLeDiff, reduceCtorEq, c80, Tryd.ntmps80, show IntKind.i64.wrap 15 = 15 from rfl, show binA .and (.int .i64 16) (.int .i64 15) = some (.int .i64 0) from rfl])
  (refine hQ _ _ _ _ _ (by first | exact .inr rfl | exact .inl rfl) rfl (by first | exact FzH.refl _ | exact FzH.sub (by (repeat' (first | exact Sub.refl _ | assumption | (refine Sub.upd ?_ (by first | assumption | (simp only [*]; done) | exact Sub.isNone (by assumption) (by assumption) | exact Sub.isNone (by assumption) (by simp only [*]))))))) (FzL.refl _ _ _) ?_; try (simp only [go_sem, Int.reduceEq, Int.reduceAdd, Int.reduceSub, Int.reduceMul, Nat.reduceLT, Int.reduceLT, Int.reduceLE, Int.reduceToNat, Nat.reduceAdd, Nat.reduceSub, Nat.reduceMul, Nat.reduceLeDiff, reduceCtorEq]))

def hexd (d : Int) : Int := if d < 10 then 48 + d else 87 + d
/-- A group's digits. -/
def hexL (n : Int) : List Int :=
  if n < 16 then [hexd n] else if n < 256 then [hexd (n / 16), hexd (n % 16)] else if n < 4096 then [hexd (n / 256), hexd (n / 16 % 16), hexd (n % 16)] else [hexd (n / 4096), hexd (n / 256 % 16), hexd (n / 16 % 16), hexd (n % 16)]
def hexS (n : Int) : ByteArray := strOfNums (hexL n)

def digB : ByteArray := ByteArray.mk (Array.mk [48, 49, 50, 51, 52, 53, 54, 55, 56, 57, 97, 98, 99, 100, 101, 102, 103, 104, 105, 106, 107, 108, 109, 110, 111, 112, 113, 114, 115, 116, 117, 118, 119, 120, 121, 122])
theorem dig_nat : ∀ d : Nat, d < 16 → ∃ c : UInt8, digB[d]? = some c ∧ (c.toNat : Int) = hexd d := by decide
theorem dig_at (d : Int) (h0 : 0 ≤ d) (h1 : d < 16) : ∃ c : UInt8, digB[d.toNat]? = some c ∧ (c.toNat : Int) = hexd d := by
  obtain ⟨n, rfl⟩ := Int.eq_ofNat_of_zero_le h0
  exact dig_nat n (by omega)

theorem and15 (n : Int) (h0 : 0 ≤ n) (h1 : n < 65536) : binA .and (.int .u64 n) (.int .u64 15) = some (.int .u64 (n % 16)) := by
  obtain ⟨m, rfl⟩ := Int.eq_ofNat_of_zero_le h0
  have e : (BitVec.ofInt 64 (m : Int) &&& BitVec.ofInt 64 15).toNat = m % 16 := by
    rw [BitVec.toNat_and, BitVec.toNat_ofInt, BitVec.toNat_ofInt]
    have e1 : ((m : Int) % (2 ^ 64 : Nat)).toNat = m := by omega
    have e2 : ((15 : Int) % (2 ^ 64 : Nat)).toNat = 2 ^ 4 - 1 := rfl
    rw [e1, e2, Nat.and_two_pow_sub_one_eq_mod]
  show some (AV.int .u64 (IntKind.u64.wrap ((BitVec.ofInt 64 (m : Int) &&& BitVec.ofInt 64 15).toNat : Int))) = _
  rw [e, wu64]
  congr 2
  omega

theorem shr4 (n : Int) : binA .shr (.int .u64 n) (.int .u64 4) = some (.int .u64 (n / 16)) := by
  simp [binA, IntKind.bits, Int.fdiv_eq_ediv_of_nonneg]

set_option maxHeartbeats 2000000 in
theorem fb_spec (n : Int) (h0 : 0 ≤ n) (h1 : n < 65536) (h : AHeap) : PureA Tryd.prog 63 [.nils, .int .u64 n, .int .i64 16, .bool false, .bool false] h (.tup [.nils, .str (hexS n)]) := by
  (refine PureA.enter (ac := c63) (rs := r63) Tryd.func63 rfl (by decide) c63_ok r63_ok ?_; intro Q hQ; simp only [go_sem, Int.reduceEq, Int.reduceAdd, Int.reduceSub, Int.reduceMul, Nat.reduceLT, Int.reduceLT, Int.reduceLE, Int.reduceToNat, Nat.reduceAdd, Nat.reduceSub, Nat.reduceMul, Nat.reduceLeDiff, reduceCtorEq, c63, Tryd.ntmps63])
  intro p hp
  refine (pow2_16 _).use ?_
  simp only [go_sem, Int.reduceEq, Int.reduceAdd, Int.reduceSub, Int.reduceMul, Nat.reduceLT, Int.reduceLT, Int.reduceLE, Int.reduceToNat, Nat.reduceAdd, Nat.reduceSub, Nat.reduceMul, Nat.reduceLeDiff, reduceCtorEq, show IntKind.u64.wrap 16 = 16 from rfl]
  refine (tz_16 _).use ?_
  simp only [go_sem, Int.reduceEq, Int.reduceAdd, Int.reduceSub, Int.reduceMul, Nat.reduceLT, Int.reduceLT, Int.reduceLE, Int.reduceToNat, Nat.reduceAdd, Nat.reduceSub, Nat.reduceMul, Nat.reduceLeDiff, reduceCtorEq, show IntKind.u64.wrap 4 = 4 from rfl, show IntKind.u64.wrap 16 = 16 from rfl, show IntKind.u64.wrap 15 = 15 from rfl]
  have w1 : IntKind.i64.wrap 64 = 64 := rfl
  have w2 : IntKind.i64.wrap 63 = 63 := rfl
  have w3 : IntKind.i64.wrap 62 = 62 := rfl
  have w4 : IntKind.i64.wrap 61 = 61 := rfl
  have w0 : IntKind.i64.wrap 64 = 64 := rfl
  by_cases g1 : n < 16
  · skip
    have k0 : decide (16 ≤ n) = false := decide_eq_false (by omega)
    obtain ⟨c0, e0, f0⟩ := dig_at (n) (by omega) (by omega)
    refine loop_n 4 ?_
    simp only [go_sem, Int.reduceEq, Int.reduceAdd, Int.reduceSub, Int.reduceMul, Nat.reduceLT, Int.reduceLT, Int.reduceLE, Int.reduceToNat, Nat.reduceAdd, Nat.reduceSub, Nat.reduceMul, Nat.reduceLeDiff, reduceCtorEq, loopN_succ, k0, w0]
    refine frz_id ?_
    simp only [go_sem, Int.reduceEq, Int.reduceAdd, Int.reduceSub, Int.reduceMul, Nat.reduceLT, Int.reduceLT, Int.reduceLE, Int.reduceToNat, Nat.reduceAdd, Nat.reduceSub, Nat.reduceMul, Nat.reduceLeDiff, reduceCtorEq, w0, w1, w2, w3, w4]
    refine ⟨c0, ⟨by omega, e0⟩, ?_⟩
    simp only [go_sem, Int.reduceEq, Int.reduceAdd, Int.reduceSub, Int.reduceMul, Nat.reduceLT, Int.reduceLT, Int.reduceLE, Int.reduceToNat, Nat.reduceAdd, Nat.reduceSub, Nat.reduceMul, Nat.reduceLeDiff, reduceCtorEq, f0, show arrA 65 1 (.ptr p 0) (some (.int .i64 64)) none none = some (.sl p 64 1 1) from rfl]
    refine ⟨[.int .u8 (hexd (n))], [hexd (n)], ?_, rfl, ?_⟩
    · simp only [acells, upd_same]; rfl
    (refine hQ _ _ _ _ _ (by first | exact .inr rfl | exact .inl rfl) rfl (by first | exact FzH.refl _ | exact FzH.sub (by (repeat' (first | exact Sub.refl _ | assumption | (refine Sub.upd ?_ (by first | assumption | (simp only [*]; done) | exact Sub.isNone (by assumption) (by assumption) | exact Sub.isNone (by assumption) (by simp only [*]))))))) (FzL.refl _ _ _) ?_; try (simp only [go_sem, Int.reduceEq, Int.reduceAdd, Int.reduceSub, Int.reduceMul, Nat.reduceLT, Int.reduceLT, Int.reduceLE, Int.reduceToNat, Nat.reduceAdd, Nat.reduceSub, Nat.reduceMul, Nat.reduceLeDiff, reduceCtorEq]))
    unfold hexS hexL
    rw [if_pos (by omega)]
  by_cases g2 : n < 256
  · skip
    have k0 : decide (16 ≤ n) = true := decide_eq_true (by omega)
    have k1 : decide (16 ≤ n / 16) = false := decide_eq_false (by omega)
    obtain ⟨c0, e0, f0⟩ := dig_at (n % 16) (by omega) (by omega)
    obtain ⟨c1, e1, f1⟩ := dig_at (n / 16) (by omega) (by omega)
    have a0 := and15 (n) (by omega) (by omega)
    refine loop_n 4 ?_
    simp only [go_sem, Int.reduceEq, Int.reduceAdd, Int.reduceSub, Int.reduceMul, Nat.reduceLT, Int.reduceLT, Int.reduceLE, Int.reduceToNat, Nat.reduceAdd, Nat.reduceSub, Nat.reduceMul, Nat.reduceLeDiff, reduceCtorEq, loopN_succ, k0, w0, a0, shr4]
    refine ⟨c0, ⟨by omega, e0⟩, ?_⟩
    simp only [go_sem, Int.reduceEq, Int.reduceAdd, Int.reduceSub, Int.reduceMul, Nat.reduceLT, Int.reduceLT, Int.reduceLE, Int.reduceToNat, Nat.reduceAdd, Nat.reduceSub, Nat.reduceMul, Nat.reduceLeDiff, reduceCtorEq, loopN_succ, shr4, f0, k1, w1]
    refine frz_id ?_
    simp only [go_sem, Int.reduceEq, Int.reduceAdd, Int.reduceSub, Int.reduceMul, Nat.reduceLT, Int.reduceLT, Int.reduceLE, Int.reduceToNat, Nat.reduceAdd, Nat.reduceSub, Nat.reduceMul, Nat.reduceLeDiff, reduceCtorEq, w0, w1, w2, w3, w4]
    refine ⟨c1, ⟨by omega, e1⟩, ?_⟩
    simp only [go_sem, Int.reduceEq, Int.reduceAdd, Int.reduceSub, Int.reduceMul, Nat.reduceLT, Int.reduceLT, Int.reduceLE, Int.reduceToNat, Nat.reduceAdd, Nat.reduceSub, Nat.reduceMul, Nat.reduceLeDiff, reduceCtorEq, f1, show arrA 65 1 (.ptr p 0) (some (.int .i64 63)) none none = some (.sl p 63 2 2) from rfl]
    refine ⟨[.int .u8 (hexd (n / 16)), .int .u8 (hexd (n % 16))], [hexd (n / 16), hexd (n % 16)], ?_, rfl, ?_⟩
    · simp only [acells, upd_same]; rfl
    (refine hQ _ _ _ _ _ (by first | exact .inr rfl | exact .inl rfl) rfl (by first | exact FzH.refl _ | exact FzH.sub (by (repeat' (first | exact Sub.refl _ | assumption | (refine Sub.upd ?_ (by first | assumption | (simp only [*]; done) | exact Sub.isNone (by assumption) (by assumption) | exact Sub.isNone (by assumption) (by simp only [*]))))))) (FzL.refl _ _ _) ?_; try (simp only [go_sem, Int.reduceEq, Int.reduceAdd, Int.reduceSub, Int.reduceMul, Nat.reduceLT, Int.reduceLT, Int.reduceLE, Int.reduceToNat, Nat.reduceAdd, Nat.reduceSub, Nat.reduceMul, Nat.reduceLeDiff, reduceCtorEq]))
    unfold hexS hexL
    rw [if_neg (by omega), if_pos (by omega)]
  by_cases g3 : n < 4096
  · skip
    have k0 : decide (16 ≤ n) = true := decide_eq_true (by omega)
    have k1 : decide (16 ≤ n / 16) = true := decide_eq_true (by omega)
    have k2 : decide (16 ≤ n / 16 / 16) = false := decide_eq_false (by omega)
    obtain ⟨c0, e0, f0⟩ := dig_at (n % 16) (by omega) (by omega)
    obtain ⟨c1, e1, f1⟩ := dig_at (n / 16 % 16) (by omega) (by omega)
    obtain ⟨c2, e2, f2⟩ := dig_at (n / 16 / 16) (by omega) (by omega)
    have a0 := and15 (n) (by omega) (by omega)
    have a1 := and15 (n / 16) (by omega) (by omega)
    refine loop_n 4 ?_
    simp only [go_sem, Int.reduceEq, Int.reduceAdd, Int.reduceSub, Int.reduceMul, Nat.reduceLT, Int.reduceLT, Int.reduceLE, Int.reduceToNat, Nat.reduceAdd, Nat.reduceSub, Nat.reduceMul, Nat.reduceLeDiff, reduceCtorEq, loopN_succ, k0, w0, a0, shr4]
    refine ⟨c0, ⟨by omega, e0⟩, ?_⟩
    simp only [go_sem, Int.reduceEq, Int.reduceAdd, Int.reduceSub, Int.reduceMul, Nat.reduceLT, Int.reduceLT, Int.reduceLE, Int.reduceToNat, Nat.reduceAdd, Nat.reduceSub, Nat.reduceMul, Nat.reduceLeDiff, reduceCtorEq, loopN_succ, shr4, f0, k1, w1, a1]
    refine ⟨c1, ⟨by omega, e1⟩, ?_⟩
    simp only [go_sem, Int.reduceEq, Int.reduceAdd, Int.reduceSub, Int.reduceMul, Nat.reduceLT, Int.reduceLT, Int.reduceLE, Int.reduceToNat, Nat.reduceAdd, Nat.reduceSub, Nat.reduceMul, Nat.reduceLeDiff, reduceCtorEq, loopN_succ, shr4, f1, k2, w2]
    refine frz_id ?_
    simp only [go_sem, Int.reduceEq, Int.reduceAdd, Int.reduceSub, Int.reduceMul, Nat.reduceLT, Int.reduceLT, Int.reduceLE, Int.reduceToNat, Nat.reduceAdd, Nat.reduceSub, Nat.reduceMul, Nat.reduceLeDiff, reduceCtorEq, w0, w1, w2, w3, w4]
    refine ⟨c2, ⟨by omega, e2⟩, ?_⟩
    simp only [go_sem, Int.reduceEq, Int.reduceAdd, Int.reduceSub, Int.reduceMul, Nat.reduceLT, Int.reduceLT, Int.reduceLE, Int.reduceToNat, Nat.reduceAdd, Nat.reduceSub, Nat.reduceMul, Nat.reduceLeDiff, reduceCtorEq, f2, show arrA 65 1 (.ptr p 0) (some (.int .i64 62)) none none = some (.sl p 62 3 3) from rfl]
    refine ⟨[.int .u8 (hexd (n / 16 / 16)), .int .u8 (hexd (n / 16 % 16)), .int .u8 (hexd (n % 16))], [hexd (n / 16 / 16), hexd (n / 16 % 16), hexd (n % 16)], ?_, rfl, ?_⟩
    · simp only [acells, upd_same]; rfl
    (refine hQ _ _ _ _ _ (by first | exact .inr rfl | exact .inl rfl) rfl (by first | exact FzH.refl _ | exact FzH.sub (by (repeat' (first | exact Sub.refl _ | assumption | (refine Sub.upd ?_ (by first | assumption | (simp only [*]; done) | exact Sub.isNone (by assumption) (by assumption) | exact Sub.isNone (by assumption) (by simp only [*]))))))) (FzL.refl _ _ _) ?_; try (simp only [go_sem, Int.reduceEq, Int.reduceAdd, Int.reduceSub, Int.reduceMul, Nat.reduceLT, Int.reduceLT, Int.reduceLE, Int.reduceToNat, Nat.reduceAdd, Nat.reduceSub, Nat.reduceMul, Nat.reduceLeDiff, reduceCtorEq]))
    unfold hexS hexL
    rw [if_neg (by omega), if_neg (by omega), if_pos (by omega), show n / 256 = n / 16 / 16 by omega]
  · skip
    have k0 : decide (16 ≤ n) = true := decide_eq_true (by omega)
    have k1 : decide (16 ≤ n / 16) = true := decide_eq_true (by omega)
    have k2 : decide (16 ≤ n / 16 / 16) = true := decide_eq_true (by omega)
    have k3 : decide (16 ≤ n / 16 / 16 / 16) = false := decide_eq_false (by omega)
    obtain ⟨c0, e0, f0⟩ := dig_at (n % 16) (by omega) (by omega)
    obtain ⟨c1, e1, f1⟩ := dig_at (n / 16 % 16) (by omega) (by omega)
    obtain ⟨c2, e2, f2⟩ := dig_at (n / 16 / 16 % 16) (by omega) (by omega)
    obtain ⟨c3, e3, f3⟩ := dig_at (n / 16 / 16 / 16) (by omega) (by omega)
    have a0 := and15 (n) (by omega) (by omega)
    have a1 := and15 (n / 16) (by omega) (by omega)
    have a2 := and15 (n / 16 / 16) (by omega) (by omega)
    refine loop_n 4 ?_
    simp only [go_sem, Int.reduceEq, Int.reduceAdd, Int.reduceSub, Int.reduceMul, Nat.reduceLT, Int.reduceLT, Int.reduceLE, Int.reduceToNat, Nat.reduceAdd, Nat.reduceSub, Nat.reduceMul, Nat.reduceLeDiff, reduceCtorEq, loopN_succ, k0, w0, a0, shr4]
    refine ⟨c0, ⟨by omega, e0⟩, ?_⟩
    simp only [go_sem, Int.reduceEq, Int.reduceAdd, Int.reduceSub, Int.reduceMul, Nat.reduceLT, Int.reduceLT, Int.reduceLE, Int.reduceToNat, Nat.reduceAdd, Nat.reduceSub, Nat.reduceMul, Nat.reduceLeDiff, reduceCtorEq, loopN_succ, shr4, f0, k1, w1, a1]
    refine ⟨c1, ⟨by omega, e1⟩, ?_⟩
    simp only [go_sem, Int.reduceEq, Int.reduceAdd, Int.reduceSub, Int.reduceMul, Nat.reduceLT, Int.reduceLT, Int.reduceLE, Int.reduceToNat, Nat.reduceAdd, Nat.reduceSub, Nat.reduceMul, Nat.reduceLeDiff, reduceCtorEq, loopN_succ, shr4, f1, k2, w2, a2]
    refine ⟨c2, ⟨by omega, e2⟩, ?_⟩
    simp only [go_sem, Int.reduceEq, Int.reduceAdd, Int.reduceSub, Int.reduceMul, Nat.reduceLT, Int.reduceLT, Int.reduceLE, Int.reduceToNat, Nat.reduceAdd, Nat.reduceSub, Nat.reduceMul, Nat.reduceLeDiff, reduceCtorEq, loopN_succ, shr4, f2, k3, w3]
    refine frz_id ?_
    simp only [go_sem, Int.reduceEq, Int.reduceAdd, Int.reduceSub, Int.reduceMul, Nat.reduceLT, Int.reduceLT, Int.reduceLE, Int.reduceToNat, Nat.reduceAdd, Nat.reduceSub, Nat.reduceMul, Nat.reduceLeDiff, reduceCtorEq, w0, w1, w2, w3, w4]
    refine ⟨c3, ⟨by omega, e3⟩, ?_⟩
    simp only [go_sem, Int.reduceEq, Int.reduceAdd, Int.reduceSub, Int.reduceMul, Nat.reduceLT, Int.reduceLT, Int.reduceLE, Int.reduceToNat, Nat.reduceAdd, Nat.reduceSub, Nat.reduceMul, Nat.reduceLeDiff, reduceCtorEq, f3, show arrA 65 1 (.ptr p 0) (some (.int .i64 61)) none none = some (.sl p 61 4 4) from rfl]
    refine ⟨[.int .u8 (hexd (n / 16 / 16 / 16)), .int .u8 (hexd (n / 16 / 16 % 16)), .int .u8 (hexd (n / 16 % 16)), .int .u8 (hexd (n % 16))], [hexd (n / 16 / 16 / 16), hexd (n / 16 / 16 % 16), hexd (n / 16 % 16), hexd (n % 16)], ?_, rfl, ?_⟩
    · simp only [acells, upd_same]; rfl
    (refine hQ _ _ _ _ _ (by first | exact .inr rfl | exact .inl rfl) rfl (by first | exact FzH.refl _ | exact FzH.sub (by (repeat' (first | exact Sub.refl _ | assumption | (refine Sub.upd ?_ (by first | assumption | (simp only [*]; done) | exact Sub.isNone (by assumption) (by assumption) | exact Sub.isNone (by assumption) (by simp only [*]))))))) (FzL.refl _ _ _) ?_; try (simp only [go_sem, Int.reduceEq, Int.reduceAdd, Int.reduceSub, Int.reduceMul, Nat.reduceLT, Int.reduceLT, Int.reduceLE, Int.reduceToNat, Nat.reduceAdd, Nat.reduceSub, Nat.reduceMul, Nat.reduceLeDiff, reduceCtorEq]))
    unfold hexS hexL
    rw [if_neg (by omega), if_neg (by omega), if_neg (by omega), show n / 4096 = n / 16 / 16 / 16 by omega, show n / 256 = n / 16 / 16 by omega]

theorem ifi_spec (n : Int) (h0 : 0 ≤ n) (h1 : n < 65536) (h : AHeap) : PureA Tryd.prog 47 [.int .i64 n, .int .i64 16] h (.str (hexS n)) := by
  have w : IntKind.u64.wrap n = n := by rw [wu64]; omega
  have g : decide (n < 0) = false := decide_eq_false (by omega)
  (refine PureA.enter (ac := c47) (rs := r47) Tryd.func47 rfl (by decide) c47_ok r47_ok ?_; intro Q hQ; simp only [go_sem, Int.reduceEq, Int.reduceAdd, Int.reduceSub, Int.reduceMul, Nat.reduceLT, Int.reduceLT, Int.reduceLE, Int.reduceToNat, Nat.reduceAdd, Nat.reduceSub, Nat.reduceMul, Nat.reduceLeDiff, reduceCtorEq, c47, Tryd.ntmps47, w, g])
  refine (fb_spec n h0 h1 _).use ?_
  simp only [go_sem, Int.reduceEq, Int.reduceAdd, Int.reduceSub, Int.reduceMul, Nat.reduceLT, Int.reduceLT, Int.reduceLE, Int.reduceToNat, Nat.reduceAdd, Nat.reduceSub, Nat.reduceMul, Nat.reduceLeDiff, reduceCtorEq]
  (refine hQ _ _ _ _ _ (by first | exact .inr rfl | exact .inl rfl) rfl (by first | exact FzH.refl _ | exact FzH.sub (by (repeat' (first | exact Sub.refl _ | assumption | (refine Sub.upd ?_ (by first | assumption | (simp only [*]; done) | exact Sub.isNone (by assumption) (by assumption) | exact Sub.isNone (by assumption) (by simp only [*]))))))) (FzL.refl _ _ _) ?_; try (simp only [go_sem, Int.reduceEq, Int.reduceAdd, Int.reduceSub, Int.reduceMul, Nat.reduceLT, Int.reduceLT, Int.reduceLE, Int.reduceToNat, Nat.reduceAdd, Nat.reduceSub, Nat.reduceMul, Nat.reduceLeDiff, reduceCtorEq]))

theorem fi_spec (n : Int) (h0 : 0 ≤ n) (h1 : n < 65536) (h : AHeap) : PureA Tryd.prog 42 [.int .i64 n, .int .i64 16] h (.str (hexS n)) := by
  (refine PureA.enter (ac := c42) (rs := r42) Tryd.func42 rfl (by decide) c42_ok r42_ok ?_; intro Q hQ; simp only [go_sem, Int.reduceEq, Int.reduceAdd, Int.reduceSub, Int.reduceMul, Nat.reduceLT, Int.reduceLT, Int.reduceLE, Int.reduceToNat, Nat.reduceAdd, Nat.reduceSub, Nat.reduceMul, Nat.reduceLeDiff, reduceCtorEq, c42, Tryd.ntmps42])
  refine (ifi_spec n h0 h1 _).use ?_
  simp only [go_sem, Int.reduceEq, Int.reduceAdd, Int.reduceSub, Int.reduceMul, Nat.reduceLT, Int.reduceLT, Int.reduceLE, Int.reduceToNat, Nat.reduceAdd, Nat.reduceSub, Nat.reduceMul, Nat.reduceLeDiff, reduceCtorEq]
  (refine hQ _ _ _ _ _ (by first | exact .inr rfl | exact .inl rfl) rfl (by first | exact FzH.refl _ | exact FzH.sub (by (repeat' (first | exact Sub.refl _ | assumption | (refine Sub.upd ?_ (by first | assumption | (simp only [*]; done) | exact Sub.isNone (by assumption) (by assumption) | exact Sub.isNone (by assumption) (by simp only [*]))))))) (FzL.refl _ _ _) ?_; try (simp only [go_sem, Int.reduceEq, Int.reduceAdd, Int.reduceSub, Int.reduceMul, Nat.reduceLT, Int.reduceLT, Int.reduceLE, Int.reduceToNat, Nat.reduceAdd, Nat.reduceSub, Nat.reduceMul, Nat.reduceLeDiff, reduceCtorEq]))

end Go.Proofs.YtdlghfekgecjjaaDoor
