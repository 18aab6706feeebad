/-
  strconv.ParseUint in base 16, of at most four digits; addr.group where it is one.
-/
import Derived.Test.YtdlghfekgecjjaaDoorAb
namespace Go.Proofs.YtdlghfekgecjjaaDoor
open Go E
set_option linter.unusedVariables false
set_option linter.unusedSimpArgs false
set_option maxRecDepth 100000

def isHex (c : Int) : Bool := decide ((48 ≤ c ∧ c ≤ 57) ∨ (97 ≤ c ∧ c ≤ 102) ∨ (65 ≤ c ∧ c ≤ 70))
def hv (c : Int) : Int := if c ≤ 57 then c - 48 else if 97 ≤ c then c - 87 else c - 55
def valL (xs : List Int) : Int := xs.foldl (fun n c => n * 16 + hv c) 0

theorem hv_bound {c : Int} (h : isHex c = true) : 0 ≤ hv c ∧ hv c ≤ 15 := by
  have := of_decide_eq_true h
  unfold hv
  split
  · omega
  · split <;> omega
theorem val_snoc (xs : List Int) (c : Int) : valL (xs ++ [c]) = valL xs * 16 + hv c := by simp [valL]
theorem val_take {xs : List Int} {k : Nat} (hk : k < xs.length) : valL (xs.take (k + 1)) = valL (xs.take k) * 16 + hv xs[k] := by
  rw [List.take_succ_eq_append_getElem hk, val_snoc]
theorem val_bound {xs : List Int} : ∀ k, k ≤ xs.length → (xs.take k).all isHex = true → 0 ≤ valL (xs.take k) ∧ valL (xs.take k) < 16 ^ k
  | 0, _, _ => by simp [valL]
  | k + 1, hk, h => by
    have hk' : k < xs.length := by omega
    rw [List.take_succ_eq_append_getElem hk', List.all_append, Bool.and_eq_true] at h
    have ih := val_bound k (by omega) h.1
    have hb := hv_bound (c := xs[k]) (by simpa using h.2)
    rw [val_take hk', Int.pow_succ]
    omega
theorem val_bound4 {xs : List Int} (h4 : xs.length ≤ 4) (k : Nat) (hk : k ≤ xs.length) (h : (xs.take k).all isHex = true) : 0 ≤ valL (xs.take k) ∧ valL (xs.take k) < 65536 := by
  have := val_bound k hk h
  have : (16 : Int) ^ k ≤ 65536 := by
    have hk4 : k ≤ 4 := by omega
    rcases k with _ | _ | _ | _ | _ | k <;> first | decide | omega
  omega
theorem val_bound3 {xs : List Int} (h4 : xs.length ≤ 4) (k : Nat) (hk : k < xs.length) (h : (xs.take k).all isHex = true) : 0 ≤ valL (xs.take k) ∧ valL (xs.take k) < 4096 := by
  have := val_bound k (by omega) h
  have : (16 : Int) ^ k ≤ 4096 := by
    have hk4 : k < 4 := by omega
    rcases k with _ | _ | _ | _ | k <;> first | decide | omega
  omega

theorem bcells_nums : ∀ (xs : List Int), (∀ x ∈ xs, 0 ≤ x ∧ x ≤ 255) → bcells (strOfNums xs) = cat b1 xs
  | [], _ => rfl
  | x :: xs, h => by
    have ih := bcells_nums xs fun y hy => h y (by simp [hy])
    have hx := h x (by simp)
    have e : bcells (strOfNums (x :: xs)) = .int .u8 ((UInt8.ofNat x.toNat).toNat : Int) :: bcells (strOfNums xs) := by simp [bcells, strOfNums]
    rw [e, ih]
    have e2 : ((UInt8.ofNat x.toNat).toNat : Int) = x := by simp; omega
    rw [e2]; rfl
theorem hex_byte {xs : List Int} (h : xs.all isHex = true) : ∀ x ∈ xs, 0 ≤ x ∧ x ≤ 255 := fun x hx => by
  have := of_decide_eq_true (List.all_eq_true.1 h x hx)
  omega

def lowI (c : Int) : Int := if c / 32 % 2 = 1 then c else c + 32
theorem or32_nat : ∀ m : Nat, m < 256 → (((BitVec.ofInt 8 (m : Int) ||| BitVec.ofInt 8 32).toNat : Int)) = lowI m := by decide
theorem or32 (c : Int) (h0 : 0 ≤ c) (h1 : c ≤ 255) : binA .or (.int .u8 c) (.int .u8 32) = some (.int .u8 (lowI c)) := by
  obtain ⟨m, rfl⟩ := Int.eq_ofNat_of_zero_le h0
  show some (AV.int .u8 (IntKind.u8.wrap ((BitVec.ofInt 8 (m : Int) ||| BitVec.ofInt 8 32).toNat : Int))) = _
  rw [or32_nat m (by omega), w8]
  congr 2
  unfold lowI
  split <;> omega

theorem lower_spec (c : Int) (h0 : 0 ≤ c) (h1 : c ≤ 255) (h : AHeap) : PureA Tryd.prog 71 [.int .u8 c] h (.int .u8 (lowI c)) := by
  (refine PureA.enter (ac := c71) (rs := r71) Tryd.func71 rfl (by decide) c71_ok r71_ok ?_; intro Q hQ; simp only [go_sem, Int.reduceEq, Int.reduceAdd, Int.reduceSub, Int.reduceMul, Nat.reduceLT, Int.reduceLT, Int.reduceLE, Int.reduceToNat, Nat.reduceAdd, Nat.reduceSub, Nat.reduceMul, Nat.reduceLeDiff, reduceCtorEq, c71, Tryd.ntmps71, or32 c h0 h1])
  (refine hQ _ _ _ _ _ (by first | exact .inr rfl | exact .inl rfl) rfl (by first | exact FzH.refl _ | exact FzH.sub (by (repeat' (first | exact Sub.refl _ | assumption | (refine Sub.upd ?_ (by first | assumption | (simp only [*]; done) | exact Sub.isNone (by assumption) (by assumption) | exact Sub.isNone (by assumption) (by simp only [*]))))))) (FzL.refl _ _ _) ?_; try (simp only [go_sem, Int.reduceEq, Int.reduceAdd, Int.reduceSub, Int.reduceMul, Nat.reduceLT, Int.reduceLT, Int.reduceLE, Int.reduceToNat, Nat.reduceAdd, Nat.reduceSub, Nat.reduceMul, Nat.reduceLeDiff, reduceCtorEq]))

theorem nums_ne {x : Int} {xs : List Int} : ((strOfNums (x :: xs)).toList == (ByteArray.mk (Array.mk [])).toList) = false := by
  rw [Lib.toList_data, Lib.toList_data]; rfl

theorem nums_nil (xs : List Int) (h : 0 < xs.length) : ((strOfNums xs).toList == (ByteArray.mk (Array.mk [])).toList) = false := by
  cases xs with
  | nil => simp at h
  | cons x xs => exact nums_ne

/-- What internal/strconv.ParseUint tells of a text of one to four bytes. -/
def ipuV (xs : List Int) : AV := if xs.all isHex then .tup [.int .u64 (valL xs), .nili] else .tup [.int .u64 0, .iface 114 (.int .i64 2)]

set_option maxHeartbeats 4000000 in
theorem ipu_spec (xs : List Int) (h1 : 1 ≤ xs.length) (h4 : xs.length ≤ 4) (hB : ∀ x ∈ xs, 0 ≤ x ∧ x ≤ 255) (h : AHeap) :
    PureA Tryd.prog 58 [.str (strOfNums xs), .int .i64 16, .int .i64 16] h (ipuV xs) := by
  have e1 := nums_nil xs h1
  have e2 : bcells (strOfNums xs) = cat b1 xs := bcells_nums xs hB
  have e3 : (strOfNums xs).size = xs.length := strOfNums_size xs
  (refine PureA.enter (ac := c58) (rs := r58) Tryd.func58 rfl (by decide) c58_ok r58_ok ?_; intro Q hQ; simp only [go_sem, Int.reduceEq, Int.reduceAdd, Int.reduceSub, Int.reduceMul, Nat.reduceLT, Int.reduceLT, Int.reduceLE, Int.reduceToNat, Nat.reduceAdd, Nat.reduceSub, Nat.reduceMul, Nat.reduceLeDiff, reduceCtorEq, c58, Tryd.ntmps58, e1, e2, e3, show IntKind.u64.wrap 16 = 16 from rfl, show binA .shl (.int .u64 1) (.int .u64 16) = some (.int .u64 65536) from rfl, show IntKind.u64.wrap 65535 = 65535 from rfl])
  refine loop_range d58_0 (xs.length) (fun k s => (s.set 13 (.int .u64 (valL (xs.take k)))).set 101 (.int .i64 k)) (fun k h' => ((xs.take k).all isHex = true) ∧ h' = h) ?_ ⟨rfl, rfl⟩ ?_
  · (simp only [go_sem, Int.reduceEq, Int.reduceAdd, Int.reduceSub, Int.reduceMul, Nat.reduceLT, Int.reduceLT, Int.reduceLE, Int.reduceToNat, Nat.reduceAdd, Nat.reduceSub, Nat.reduceMul, Nat.reduceLeDiff, reduceCtorEq, d58_0] <;> rfl)
  rintro N k h' hk ⟨hi, rfl⟩ hN
  simp only [go_sem, Int.reduceEq, Int.reduceAdd, Int.reduceSub, Int.reduceMul, Nat.reduceLT, Int.reduceLT, Int.reduceLE, Int.reduceToNat, Nat.reduceAdd, Nat.reduceSub, Nat.reduceMul, Nat.reduceLeDiff, reduceCtorEq, d58_0]
  have hadd := wadd1 (k := k) (by omega)
  by_cases hlt : k < xs.length
  · have hb := hB _ (List.getElem_mem hlt)
    have hvb := val_bound3 h4 k hlt hi
    have hvt := val_take hlt
    have hin : (xs.take (k + 1)).all isHex = isHex xs[k] := by
      rw [List.take_succ_eq_append_getElem hlt, List.all_append, hi]; simp
    have hxs : isHex xs[k] = false → xs.all isHex = false := fun e => by
      apply Bool.eq_false_iff.2
      intro e2
      rw [List.all_eq_true] at e2
      rw [e2 _ (List.getElem_mem hlt)] at e
      cases e
    simp only [go_sem, Int.reduceEq, Int.reduceAdd, Int.reduceSub, Int.reduceMul, Nat.reduceLT, Int.reduceLT, Int.reduceLE, Int.reduceToNat, Nat.reduceAdd, Nat.reduceSub, Nat.reduceMul, Nat.reduceLeDiff, reduceCtorEq, hlt, hadd, rdB hlt]
    generalize xs[k] = c at *
    have lw := lower_spec c hb.1 hb.2
    have hvu : hv c = if c ≤ 57 then c - 48 else if 97 ≤ c then c - 87 else c - 55 := rfl
    generalize valL (xs.take k) = n at *
    cases hc : isHex c
    · have hno : ipuV xs = .tup [.int .u64 0, .iface 114 (.int .i64 2)] := by
        unfold ipuV; rw [hxs hc]; rfl
      rw [hno] at hQ
      have hcc := of_decide_eq_false hc
      by_cases c95 : c = 95
      · subst c95
        have lc : lowI 95 = 127 := rfl
        simp only [go_sem, Int.reduceEq, Int.reduceAdd, Int.reduceSub, Int.reduceMul, Nat.reduceLT, Int.reduceLT, Int.reduceLE, Int.reduceToNat, Nat.reduceAdd, Nat.reduceSub, Nat.reduceMul, Nat.reduceLeDiff, reduceCtorEq, show decide ((95 : Int) = 95) = true from rfl, show decide ((48 : Int) ≤ 95) = true from rfl, show decide ((95 : Int) ≤ 57) = false from rfl]
        refine (lw _).use ?_
        simp only [go_sem, Int.reduceEq, Int.reduceAdd, Int.reduceSub, Int.reduceMul, Nat.reduceLT, Int.reduceLT, Int.reduceLE, Int.reduceToNat, Nat.reduceAdd, Nat.reduceSub, Nat.reduceMul, Nat.reduceLeDiff, reduceCtorEq, lc, show decide ((97 : Int) ≤ 127) = true from rfl]
        refine (lw _).use ?_
        simp only [go_sem, Int.reduceEq, Int.reduceAdd, Int.reduceSub, Int.reduceMul, Nat.reduceLT, Int.reduceLT, Int.reduceLE, Int.reduceToNat, Nat.reduceAdd, Nat.reduceSub, Nat.reduceMul, Nat.reduceLeDiff, reduceCtorEq, lc, show decide ((127 : Int) ≤ 122) = false from rfl]
        (refine hQ _ _ _ _ _ (by first | exact .inr rfl | exact .inl rfl) rfl (by first | exact FzH.refl _ | exact FzH.sub (by (repeat' (first | exact Sub.refl _ | assumption | (refine Sub.upd ?_ (by first | assumption | (simp only [*]; done) | exact Sub.isNone (by assumption) (by assumption) | exact Sub.isNone (by assumption) (by simp only [*]))))))) (FzL.refl _ _ _) ?_; try (simp only [go_sem, Int.reduceEq, Int.reduceAdd, Int.reduceSub, Int.reduceMul, Nat.reduceLT, Int.reduceLT, Int.reduceLE, Int.reduceToNat, Nat.reduceAdd, Nat.reduceSub, Nat.reduceMul, Nat.reduceLeDiff, reduceCtorEq]))
      have k0 : decide (c = 95) = false := decide_eq_false c95
      by_cases c48 : 48 ≤ c
      · have k1 : decide (48 ≤ c) = true := decide_eq_true c48
        have k2 : decide (c ≤ 57) = false := decide_eq_false (by omega)
        simp only [go_sem, Int.reduceEq, Int.reduceAdd, Int.reduceSub, Int.reduceMul, Nat.reduceLT, Int.reduceLT, Int.reduceLE, Int.reduceToNat, Nat.reduceAdd, Nat.reduceSub, Nat.reduceMul, Nat.reduceLeDiff, reduceCtorEq, k0, k1, k2]
        refine (lw _).use ?_
        by_cases l97 : 97 ≤ lowI c
        · have k3 : decide (97 ≤ lowI c) = true := decide_eq_true l97
          simp only [go_sem, Int.reduceEq, Int.reduceAdd, Int.reduceSub, Int.reduceMul, Nat.reduceLT, Int.reduceLT, Int.reduceLE, Int.reduceToNat, Nat.reduceAdd, Nat.reduceSub, Nat.reduceMul, Nat.reduceLeDiff, reduceCtorEq, k3]
          refine (lw _).use ?_
          by_cases l122 : lowI c ≤ 122
          · have k4 : decide (lowI c ≤ 122) = true := decide_eq_true l122
            have l103 : 103 ≤ lowI c := by unfold lowI at l97 l122 ⊢; split <;> rename_i hs <;> simp only [hs, if_true, if_false] at l97 l122 <;> omega
            have f0 : IntKind.u8.wrap (lowI c - 97) = lowI c - 97 := by rw [w8]; omega
            have f9 : IntKind.u8.wrap (lowI c - 97 + 10) = lowI c - 97 + 10 := by rw [w8]; omega
            have f1 : decide (16 ≤ lowI c - 97 + 10) = true := decide_eq_true (by omega)
            simp only [go_sem, Int.reduceEq, Int.reduceAdd, Int.reduceSub, Int.reduceMul, Nat.reduceLT, Int.reduceLT, Int.reduceLE, Int.reduceToNat, Nat.reduceAdd, Nat.reduceSub, Nat.reduceMul, Nat.reduceLeDiff, reduceCtorEq, k4]
            refine (lw _).use ?_
            simp only [go_sem, Int.reduceEq, Int.reduceAdd, Int.reduceSub, Int.reduceMul, Nat.reduceLT, Int.reduceLT, Int.reduceLE, Int.reduceToNat, Nat.reduceAdd, Nat.reduceSub, Nat.reduceMul, Nat.reduceLeDiff, reduceCtorEq, f0, f9, f1, show IntKind.u8.wrap 16 = 16 from rfl]
            (refine hQ _ _ _ _ _ (by first | exact .inr rfl | exact .inl rfl) rfl (by first | exact FzH.refl _ | exact FzH.sub (by (repeat' (first | exact Sub.refl _ | assumption | (refine Sub.upd ?_ (by first | assumption | (simp only [*]; done) | exact Sub.isNone (by assumption) (by assumption) | exact Sub.isNone (by assumption) (by simp only [*]))))))) (FzL.refl _ _ _) ?_; try (simp only [go_sem, Int.reduceEq, Int.reduceAdd, Int.reduceSub, Int.reduceMul, Nat.reduceLT, Int.reduceLT, Int.reduceLE, Int.reduceToNat, Nat.reduceAdd, Nat.reduceSub, Nat.reduceMul, Nat.reduceLeDiff, reduceCtorEq]))
          · have k4 : decide (lowI c ≤ 122) = false := decide_eq_false l122
            simp only [go_sem, Int.reduceEq, Int.reduceAdd, Int.reduceSub, Int.reduceMul, Nat.reduceLT, Int.reduceLT, Int.reduceLE, Int.reduceToNat, Nat.reduceAdd, Nat.reduceSub, Nat.reduceMul, Nat.reduceLeDiff, reduceCtorEq, k4]
            (refine hQ _ _ _ _ _ (by first | exact .inr rfl | exact .inl rfl) rfl (by first | exact FzH.refl _ | exact FzH.sub (by (repeat' (first | exact Sub.refl _ | assumption | (refine Sub.upd ?_ (by first | assumption | (simp only [*]; done) | exact Sub.isNone (by assumption) (by assumption) | exact Sub.isNone (by assumption) (by simp only [*]))))))) (FzL.refl _ _ _) ?_; try (simp only [go_sem, Int.reduceEq, Int.reduceAdd, Int.reduceSub, Int.reduceMul, Nat.reduceLT, Int.reduceLT, Int.reduceLE, Int.reduceToNat, Nat.reduceAdd, Nat.reduceSub, Nat.reduceMul, Nat.reduceLeDiff, reduceCtorEq]))
        · have k3 : decide (97 ≤ lowI c) = false := decide_eq_false l97
          simp only [go_sem, Int.reduceEq, Int.reduceAdd, Int.reduceSub, Int.reduceMul, Nat.reduceLT, Int.reduceLT, Int.reduceLE, Int.reduceToNat, Nat.reduceAdd, Nat.reduceSub, Nat.reduceMul, Nat.reduceLeDiff, reduceCtorEq, k3]
          (refine hQ _ _ _ _ _ (by first | exact .inr rfl | exact .inl rfl) rfl (by first | exact FzH.refl _ | exact FzH.sub (by (repeat' (first | exact Sub.refl _ | assumption | (refine Sub.upd ?_ (by first | assumption | (simp only [*]; done) | exact Sub.isNone (by assumption) (by assumption) | exact Sub.isNone (by assumption) (by simp only [*]))))))) (FzL.refl _ _ _) ?_; try (simp only [go_sem, Int.reduceEq, Int.reduceAdd, Int.reduceSub, Int.reduceMul, Nat.reduceLT, Int.reduceLT, Int.reduceLE, Int.reduceToNat, Nat.reduceAdd, Nat.reduceSub, Nat.reduceMul, Nat.reduceLeDiff, reduceCtorEq]))
      · have k1 : decide (48 ≤ c) = false := decide_eq_false c48
        simp only [go_sem, Int.reduceEq, Int.reduceAdd, Int.reduceSub, Int.reduceMul, Nat.reduceLT, Int.reduceLT, Int.reduceLE, Int.reduceToNat, Nat.reduceAdd, Nat.reduceSub, Nat.reduceMul, Nat.reduceLeDiff, reduceCtorEq, k0, k1]
        refine (lw _).use ?_
        by_cases l97 : 97 ≤ lowI c
        · have k3 : decide (97 ≤ lowI c) = true := decide_eq_true l97
          simp only [go_sem, Int.reduceEq, Int.reduceAdd, Int.reduceSub, Int.reduceMul, Nat.reduceLT, Int.reduceLT, Int.reduceLE, Int.reduceToNat, Nat.reduceAdd, Nat.reduceSub, Nat.reduceMul, Nat.reduceLeDiff, reduceCtorEq, k3]
          refine (lw _).use ?_
          by_cases l122 : lowI c ≤ 122
          · have k4 : decide (lowI c ≤ 122) = true := decide_eq_true l122
            have l103 : 103 ≤ lowI c := by unfold lowI at l97 l122 ⊢; split <;> rename_i hs <;> simp only [hs, if_true, if_false] at l97 l122 <;> omega
            have f0 : IntKind.u8.wrap (lowI c - 97) = lowI c - 97 := by rw [w8]; omega
            have f9 : IntKind.u8.wrap (lowI c - 97 + 10) = lowI c - 97 + 10 := by rw [w8]; omega
            have f1 : decide (16 ≤ lowI c - 97 + 10) = true := decide_eq_true (by omega)
            simp only [go_sem, Int.reduceEq, Int.reduceAdd, Int.reduceSub, Int.reduceMul, Nat.reduceLT, Int.reduceLT, Int.reduceLE, Int.reduceToNat, Nat.reduceAdd, Nat.reduceSub, Nat.reduceMul, Nat.reduceLeDiff, reduceCtorEq, k4]
            refine (lw _).use ?_
            simp only [go_sem, Int.reduceEq, Int.reduceAdd, Int.reduceSub, Int.reduceMul, Nat.reduceLT, Int.reduceLT, Int.reduceLE, Int.reduceToNat, Nat.reduceAdd, Nat.reduceSub, Nat.reduceMul, Nat.reduceLeDiff, reduceCtorEq, f0, f9, f1, show IntKind.u8.wrap 16 = 16 from rfl]
            (refine hQ _ _ _ _ _ (by first | exact .inr rfl | exact .inl rfl) rfl (by first | exact FzH.refl _ | exact FzH.sub (by (repeat' (first | exact Sub.refl _ | assumption | (refine Sub.upd ?_ (by first | assumption | (simp only [*]; done) | exact Sub.isNone (by assumption) (by assumption) | exact Sub.isNone (by assumption) (by simp only [*]))))))) (FzL.refl _ _ _) ?_; try (simp only [go_sem, Int.reduceEq, Int.reduceAdd, Int.reduceSub, Int.reduceMul, Nat.reduceLT, Int.reduceLT, Int.reduceLE, Int.reduceToNat, Nat.reduceAdd, Nat.reduceSub, Nat.reduceMul, Nat.reduceLeDiff, reduceCtorEq]))
          · have k4 : decide (lowI c ≤ 122) = false := decide_eq_false l122
            simp only [go_sem, Int.reduceEq, Int.reduceAdd, Int.reduceSub, Int.reduceMul, Nat.reduceLT, Int.reduceLT, Int.reduceLE, Int.reduceToNat, Nat.reduceAdd, Nat.reduceSub, Nat.reduceMul, Nat.reduceLeDiff, reduceCtorEq, k4]
            (refine hQ _ _ _ _ _ (by first | exact .inr rfl | exact .inl rfl) rfl (by first | exact FzH.refl _ | exact FzH.sub (by (repeat' (first | exact Sub.refl _ | assumption | (refine Sub.upd ?_ (by first | assumption | (simp only [*]; done) | exact Sub.isNone (by assumption) (by assumption) | exact Sub.isNone (by assumption) (by simp only [*]))))))) (FzL.refl _ _ _) ?_; try (simp only [go_sem, Int.reduceEq, Int.reduceAdd, Int.reduceSub, Int.reduceMul, Nat.reduceLT, Int.reduceLT, Int.reduceLE, Int.reduceToNat, Nat.reduceAdd, Nat.reduceSub, Nat.reduceMul, Nat.reduceLeDiff, reduceCtorEq]))
        · have k3 : decide (97 ≤ lowI c) = false := decide_eq_false l97
          simp only [go_sem, Int.reduceEq, Int.reduceAdd, Int.reduceSub, Int.reduceMul, Nat.reduceLT, Int.reduceLT, Int.reduceLE, Int.reduceToNat, Nat.reduceAdd, Nat.reduceSub, Nat.reduceMul, Nat.reduceLeDiff, reduceCtorEq, k3]
          (refine hQ _ _ _ _ _ (by first | exact .inr rfl | exact .inl rfl) rfl (by first | exact FzH.refl _ | exact FzH.sub (by (repeat' (first | exact Sub.refl _ | assumption | (refine Sub.upd ?_ (by first | assumption | (simp only [*]; done) | exact Sub.isNone (by assumption) (by assumption) | exact Sub.isNone (by assumption) (by simp only [*]))))))) (FzL.refl _ _ _) ?_; try (simp only [go_sem, Int.reduceEq, Int.reduceAdd, Int.reduceSub, Int.reduceMul, Nat.reduceLT, Int.reduceLT, Int.reduceLE, Int.reduceToNat, Nat.reduceAdd, Nat.reduceSub, Nat.reduceMul, Nat.reduceLeDiff, reduceCtorEq]))
    have hcc := of_decide_eq_true hc
    have hv1 := hv_bound hc
    have hvn : 0 ≤ n * 16 + hv c ∧ n * 16 + hv c < 65536 := by omega
    have k0 : decide (c = 95) = false := decide_eq_false (by omega)
    rcases hcc with hcc | hcc | hcc
    · have k1 : decide (48 ≤ c) = true := decide_eq_true (by omega)
      have k2 : decide (c ≤ 57) = true := decide_eq_true (by omega)
      have f0 : IntKind.u8.wrap (c - 48) = c - 48 := by rw [w8]; omega
      have f1 : decide (16 ≤ c - 48) = false := decide_eq_false (by omega)
      have f2 : decide (1152921504606846976 ≤ n) = false := decide_eq_false (by omega)
      have f3 : IntKind.u64.wrap (n * 16) = n * 16 := by rw [wu64]; omega
      have f4 : IntKind.u64.wrap (c - 48) = c - 48 := by rw [wu64]; omega
      have f5 : IntKind.u64.wrap (n * 16 + (c - 48)) = n * 16 + (c - 48) := by rw [wu64]; omega
      have f6 : decide (n * 16 + (c - 48) < n * 16) = false := decide_eq_false (by omega)
      have f7 : decide (65535 < n * 16 + (c - 48)) = false := decide_eq_false (by omega)
      simp only [go_sem, Int.reduceEq, Int.reduceAdd, Int.reduceSub, Int.reduceMul, Nat.reduceLT, Int.reduceLT, Int.reduceLE, Int.reduceToNat, Nat.reduceAdd, Nat.reduceSub, Nat.reduceMul, Nat.reduceLeDiff, reduceCtorEq, hadd, k0, k1, k2, f0, f1, f2, f3, f4, f5, f6, f7, show IntKind.u8.wrap 16 = 16 from rfl, show IntKind.u64.wrap 16 = 16 from rfl]
      refine hN _ _ hlt ?_ ⟨by rw [hin, hc], rfl⟩
      rw [hvt, show hv c = c - 48 by unfold hv; rw [if_pos (by omega)]]
      simp (config := { maxSteps := 2000000 }) only [go_sem, d58_0]
    · have k1 : decide (48 ≤ c) = true := decide_eq_true (by omega)
      have k2 : decide (c ≤ 57) = false := decide_eq_false (by omega)
      have lc : lowI c = c := by unfold lowI; rw [if_pos (by omega)]
      have k3 : decide (97 ≤ c) = true := decide_eq_true (by omega)
      have k4 : decide (c ≤ 122) = true := decide_eq_true (by omega)
      have f0 : IntKind.u8.wrap (c - 97) = c - 97 := by rw [w8]; omega
      have f9 : IntKind.u8.wrap (c - 97 + 10) = c - 97 + 10 := by rw [w8]; omega
      have f1 : decide (16 ≤ c - 97 + 10) = false := decide_eq_false (by omega)
      have f2 : decide (1152921504606846976 ≤ n) = false := decide_eq_false (by omega)
      have f3 : IntKind.u64.wrap (n * 16) = n * 16 := by rw [wu64]; omega
      have f4 : IntKind.u64.wrap (c - 97 + 10) = c - 97 + 10 := by rw [wu64]; omega
      have f5 : IntKind.u64.wrap (n * 16 + (c - 97 + 10)) = n * 16 + (c - 97 + 10) := by rw [wu64]; omega
      have f6 : decide (n * 16 + (c - 97 + 10) < n * 16) = false := decide_eq_false (by omega)
      have f7 : decide (65535 < n * 16 + (c - 97 + 10)) = false := decide_eq_false (by omega)
      simp only [go_sem, Int.reduceEq, Int.reduceAdd, Int.reduceSub, Int.reduceMul, Nat.reduceLT, Int.reduceLT, Int.reduceLE, Int.reduceToNat, Nat.reduceAdd, Nat.reduceSub, Nat.reduceMul, Nat.reduceLeDiff, reduceCtorEq, k0, k1, k2]
      refine (lw _).use ?_
      simp only [go_sem, Int.reduceEq, Int.reduceAdd, Int.reduceSub, Int.reduceMul, Nat.reduceLT, Int.reduceLT, Int.reduceLE, Int.reduceToNat, Nat.reduceAdd, Nat.reduceSub, Nat.reduceMul, Nat.reduceLeDiff, reduceCtorEq, lc, k3]
      refine (lw _).use ?_
      simp only [go_sem, Int.reduceEq, Int.reduceAdd, Int.reduceSub, Int.reduceMul, Nat.reduceLT, Int.reduceLT, Int.reduceLE, Int.reduceToNat, Nat.reduceAdd, Nat.reduceSub, Nat.reduceMul, Nat.reduceLeDiff, reduceCtorEq, lc, k4]
      refine (lw _).use ?_
      simp only [go_sem, Int.reduceEq, Int.reduceAdd, Int.reduceSub, Int.reduceMul, Nat.reduceLT, Int.reduceLT, Int.reduceLE, Int.reduceToNat, Nat.reduceAdd, Nat.reduceSub, Nat.reduceMul, Nat.reduceLeDiff, reduceCtorEq, hadd, lc, f0, f9, f1, f2, f3, f4, f5, f6, f7, show IntKind.u8.wrap 16 = 16 from rfl, show IntKind.u64.wrap 16 = 16 from rfl]
      refine hN _ _ hlt ?_ ⟨by rw [hin, hc], rfl⟩
      rw [hvt, show hv c = c - 97 + 10 by unfold hv; rw [if_neg (by omega), if_pos (by omega)]; omega]
      simp (config := { maxSteps := 2000000 }) only [go_sem, d58_0]
    · have k1 : decide (48 ≤ c) = true := decide_eq_true (by omega)
      have k2 : decide (c ≤ 57) = false := decide_eq_false (by omega)
      have lc : lowI c = c + 32 := by unfold lowI; rw [if_neg (by omega)]
      have k3 : decide (97 ≤ c + 32) = true := decide_eq_true (by omega)
      have k4 : decide (c + 32 ≤ 122) = true := decide_eq_true (by omega)
      have f0 : IntKind.u8.wrap (c + 32 - 97) = c + 32 - 97 := by rw [w8]; omega
      have f9 : IntKind.u8.wrap (c + 32 - 97 + 10) = c + 32 - 97 + 10 := by rw [w8]; omega
      have f1 : decide (16 ≤ c + 32 - 97 + 10) = false := decide_eq_false (by omega)
      have f2 : decide (1152921504606846976 ≤ n) = false := decide_eq_false (by omega)
      have f3 : IntKind.u64.wrap (n * 16) = n * 16 := by rw [wu64]; omega
      have f4 : IntKind.u64.wrap (c + 32 - 97 + 10) = c + 32 - 97 + 10 := by rw [wu64]; omega
      have f5 : IntKind.u64.wrap (n * 16 + (c + 32 - 97 + 10)) = n * 16 + (c + 32 - 97 + 10) := by rw [wu64]; omega
      have f6 : decide (n * 16 + (c + 32 - 97 + 10) < n * 16) = false := decide_eq_false (by omega)
      have f7 : decide (65535 < n * 16 + (c + 32 - 97 + 10)) = false := decide_eq_false (by omega)
      simp only [go_sem, Int.reduceEq, Int.reduceAdd, Int.reduceSub, Int.reduceMul, Nat.reduceLT, Int.reduceLT, Int.reduceLE, Int.reduceToNat, Nat.reduceAdd, Nat.reduceSub, Nat.reduceMul, Nat.reduceLeDiff, reduceCtorEq, k0, k1, k2]
      refine (lw _).use ?_
      simp only [go_sem, Int.reduceEq, Int.reduceAdd, Int.reduceSub, Int.reduceMul, Nat.reduceLT, Int.reduceLT, Int.reduceLE, Int.reduceToNat, Nat.reduceAdd, Nat.reduceSub, Nat.reduceMul, Nat.reduceLeDiff, reduceCtorEq, lc, k3]
      refine (lw _).use ?_
      simp only [go_sem, Int.reduceEq, Int.reduceAdd, Int.reduceSub, Int.reduceMul, Nat.reduceLT, Int.reduceLT, Int.reduceLE, Int.reduceToNat, Nat.reduceAdd, Nat.reduceSub, Nat.reduceMul, Nat.reduceLeDiff, reduceCtorEq, lc, k4]
      refine (lw _).use ?_
      simp only [go_sem, Int.reduceEq, Int.reduceAdd, Int.reduceSub, Int.reduceMul, Nat.reduceLT, Int.reduceLT, Int.reduceLE, Int.reduceToNat, Nat.reduceAdd, Nat.reduceSub, Nat.reduceMul, Nat.reduceLeDiff, reduceCtorEq, hadd, lc, f0, f9, f1, f2, f3, f4, f5, f6, f7, show IntKind.u8.wrap 16 = 16 from rfl, show IntKind.u64.wrap 16 = 16 from rfl]
      refine hN _ _ hlt ?_ ⟨by rw [hin, hc], rfl⟩
      rw [hvt, show hv c = c + 32 - 97 + 10 by unfold hv; rw [if_neg (by omega), if_neg (by omega)]; omega]
      simp (config := { maxSteps := 2000000 }) only [go_sem, d58_0]
  · rw [show k = xs.length by omega, List.take_length] at hi
    have hyes : ipuV xs = .tup [.int .u64 (valL xs), .nili] := by unfold ipuV; rw [hi]; rfl
    rw [hyes] at hQ
    (simp only [go_sem, Int.reduceEq, Int.reduceAdd, Int.reduceSub, Int.reduceMul, Nat.reduceLT, Int.reduceLT, Int.reduceLE, Int.reduceToNat, Nat.reduceAdd, Nat.reduceSub, Nat.reduceMul, Nat.reduceLeDiff, reduceCtorEq, hlt]; refine frz_id ?_; simp only [go_sem, Int.reduceEq, Int.reduceAdd, Int.reduceSub, Int.reduceMul, Nat.reduceLT, Int.reduceLT, Int.reduceLE, Int.reduceToNat, Nat.reduceAdd, Nat.reduceSub, Nat.reduceMul, Nat.reduceLeDiff, reduceCtorEq])
    rw [show k = xs.length by omega, List.take_length]
    (refine hQ _ _ _ _ _ (by first | exact .inr rfl | exact .inl rfl) rfl (by first | exact FzH.refl _ | exact FzH.sub (by (repeat' (first | exact Sub.refl _ | assumption | (refine Sub.upd ?_ (by first | assumption | (simp only [*]; done) | exact Sub.isNone (by assumption) (by assumption) | exact Sub.isNone (by assumption) (by simp only [*]))))))) (FzL.refl _ _ _) ?_; try (simp only [go_sem, Int.reduceEq, Int.reduceAdd, Int.reduceSub, Int.reduceMul, Nat.reduceLT, Int.reduceLT, Int.reduceLE, Int.reduceToNat, Nat.reduceAdd, Nat.reduceSub, Nat.reduceMul, Nat.reduceLeDiff, reduceCtorEq]))

/-- What strconv.ParseUint tells of it: an error that is not nil, or none. -/
def puV (xs : List Int) : AV := if xs.all isHex then .tup [.int .u64 (valL xs), .nili] else .tup [.int .u64 0, .iface 117 .undef]

theorem pu_spec (xs : List Int) (h1 : 1 ≤ xs.length) (h4 : xs.length ≤ 4) (hB : ∀ x ∈ xs, 0 ≤ x ∧ x ≤ 255) (h : AHeap) :
    PureA Tryd.prog 46 [.str (strOfNums xs), .int .i64 16, .int .i64 16] h (puV xs) := by
  have hs := strOfNums_size xs
  (refine PureA.enter (ac := c46) (rs := r46) Tryd.func46 rfl (by decide) c46_ok r46_ok ?_; intro Q hQ; simp only [go_sem, Int.reduceEq, Int.reduceAdd, Int.reduceSub, Int.reduceMul, Nat.reduceLT, Int.reduceLT, Int.reduceLE, Int.reduceToNat, Nat.reduceAdd, Nat.reduceSub, Nat.reduceMul, Nat.reduceLeDiff, reduceCtorEq, c46, Tryd.ntmps46])
  refine (ipu_spec xs h1 h4 hB _).use ?_
  unfold ipuV
  unfold puV at hQ
  cases hx : xs.all isHex
  · rw [hx] at hQ
    simp only [go_sem, Int.reduceEq, Int.reduceAdd, Int.reduceSub, Int.reduceMul, Nat.reduceLT, Int.reduceLT, Int.reduceLE, Int.reduceToNat, Nat.reduceAdd, Nat.reduceSub, Nat.reduceMul, Nat.reduceLeDiff, reduceCtorEq]
    refine (toErr_spec _ (strOfNums xs) 16 16 (by omega) _).use ?_
    simp only [go_sem, Int.reduceEq, Int.reduceAdd, Int.reduceSub, Int.reduceMul, Nat.reduceLT, Int.reduceLT, Int.reduceLE, Int.reduceToNat, Nat.reduceAdd, Nat.reduceSub, Nat.reduceMul, Nat.reduceLeDiff, reduceCtorEq]
    (refine hQ _ _ _ _ _ (by first | exact .inr rfl | exact .inl rfl) rfl (by first | exact FzH.refl _ | exact FzH.sub (by (repeat' (first | exact Sub.refl _ | assumption | (refine Sub.upd ?_ (by first | assumption | (simp only [*]; done) | exact Sub.isNone (by assumption) (by assumption) | exact Sub.isNone (by assumption) (by simp only [*]))))))) (FzL.refl _ _ _) ?_; try (simp only [go_sem, Int.reduceEq, Int.reduceAdd, Int.reduceSub, Int.reduceMul, Nat.reduceLT, Int.reduceLT, Int.reduceLE, Int.reduceToNat, Nat.reduceAdd, Nat.reduceSub, Nat.reduceMul, Nat.reduceLeDiff, reduceCtorEq]))
  · rw [hx] at hQ
    simp only [go_sem, Int.reduceEq, Int.reduceAdd, Int.reduceSub, Int.reduceMul, Nat.reduceLT, Int.reduceLT, Int.reduceLE, Int.reduceToNat, Nat.reduceAdd, Nat.reduceSub, Nat.reduceMul, Nat.reduceLeDiff, reduceCtorEq]
    (refine hQ _ _ _ _ _ (by first | exact .inr rfl | exact .inl rfl) rfl (by first | exact FzH.refl _ | exact FzH.sub (by (repeat' (first | exact Sub.refl _ | assumption | (refine Sub.upd ?_ (by first | assumption | (simp only [*]; done) | exact Sub.isNone (by assumption) (by assumption) | exact Sub.isNone (by assumption) (by simp only [*]))))))) (FzL.refl _ _ _) ?_; try (simp only [go_sem, Int.reduceEq, Int.reduceAdd, Int.reduceSub, Int.reduceMul, Nat.reduceLT, Int.reduceLT, Int.reduceLE, Int.reduceToNat, Nat.reduceAdd, Nat.reduceSub, Nat.reduceMul, Nat.reduceLeDiff, reduceCtorEq]))

/-- Is a text a group? -/
def gOkB (xs : List Int) : Bool := decide (1 ≤ xs.length) && decide (xs.length ≤ 4) && xs.all isHex
def groupV (xs : List Int) : AV := if gOkB xs then .tup [.int .i64 (valL xs), .bool true] else .tup [.int .i64 0, .bool false]

theorem group_spec (xs : List Int) (hB : ∀ x ∈ xs, 0 ≤ x ∧ x ≤ 255) (h : AHeap) :
    PureA Tryd.prog 41 [.str (strOfNums xs)] h (groupV xs) := by
  have e3 : (strOfNums xs).size = xs.length := strOfNums_size xs
  by_cases h1 : 1 ≤ xs.length
  · have e1 := nums_nil xs h1
    by_cases h4 : xs.length ≤ 4
    · have g : decide (4 < (xs.length : Int)) = false := decide_eq_false (by omega)
      have hv : gOkB xs = xs.all isHex := by unfold gOkB; rw [decide_eq_true h1, decide_eq_true h4]; rfl
      (refine PureA.enter (ac := c41) (rs := r41) Tryd.func41 rfl (by decide) c41_ok r41_ok ?_; intro Q hQ; simp only [go_sem, Int.reduceEq, Int.reduceAdd, Int.reduceSub, Int.reduceMul, Nat.reduceLT, Int.reduceLT, Int.reduceLE, Int.reduceToNat, Nat.reduceAdd, Nat.reduceSub, Nat.reduceMul, Nat.reduceLeDiff, reduceCtorEq, c41, Tryd.ntmps41, e1, lenA_str, e3, g])
      refine (pu_spec xs h1 h4 hB _).use ?_
      unfold puV
      unfold groupV at hQ
      rw [hv] at hQ
      cases hx : xs.all isHex
      · rw [hx] at hQ
        simp only [go_sem, Int.reduceEq, Int.reduceAdd, Int.reduceSub, Int.reduceMul, Nat.reduceLT, Int.reduceLT, Int.reduceLE, Int.reduceToNat, Nat.reduceAdd, Nat.reduceSub, Nat.reduceMul, Nat.reduceLeDiff, reduceCtorEq, show IntKind.i64.wrap 0 = 0 from rfl]
        (refine hQ _ _ _ _ _ (by first | exact .inr rfl | exact .inl rfl) rfl (by first | exact FzH.refl _ | exact FzH.sub (by (repeat' (first | exact Sub.refl _ | assumption | (refine Sub.upd ?_ (by first | assumption | (simp only [*]; done) | exact Sub.isNone (by assumption) (by assumption) | exact Sub.isNone (by assumption) (by simp only [*]))))))) (FzL.refl _ _ _) ?_; try (simp only [go_sem, Int.reduceEq, Int.reduceAdd, Int.reduceSub, Int.reduceMul, Nat.reduceLT, Int.reduceLT, Int.reduceLE, Int.reduceToNat, Nat.reduceAdd, Nat.reduceSub, Nat.reduceMul, Nat.reduceLeDiff, reduceCtorEq]))
      · rw [hx] at hQ
        have hb := val_bound4 h4 xs.length (Nat.le_refl _) (by rw [List.take_length]; exact hx)
        rw [List.take_length] at hb
        have w : IntKind.i64.wrap (valL xs) = valL xs := w64 (by omega) (by omega)
        simp only [go_sem, Int.reduceEq, Int.reduceAdd, Int.reduceSub, Int.reduceMul, Nat.reduceLT, Int.reduceLT, Int.reduceLE, Int.reduceToNat, Nat.reduceAdd, Nat.reduceSub, Nat.reduceMul, Nat.reduceLeDiff, reduceCtorEq, w]
        (refine hQ _ _ _ _ _ (by first | exact .inr rfl | exact .inl rfl) rfl (by first | exact FzH.refl _ | exact FzH.sub (by (repeat' (first | exact Sub.refl _ | assumption | (refine Sub.upd ?_ (by first | assumption | (simp only [*]; done) | exact Sub.isNone (by assumption) (by assumption) | exact Sub.isNone (by assumption) (by simp only [*]))))))) (FzL.refl _ _ _) ?_; try (simp only [go_sem, Int.reduceEq, Int.reduceAdd, Int.reduceSub, Int.reduceMul, Nat.reduceLT, Int.reduceLT, Int.reduceLE, Int.reduceToNat, Nat.reduceAdd, Nat.reduceSub, Nat.reduceMul, Nat.reduceLeDiff, reduceCtorEq]))
    · have g : decide (4 < (xs.length : Int)) = true := decide_eq_true (by omega)
      have hv : gOkB xs = false := by unfold gOkB; rw [decide_eq_false h4]; simp
      (refine PureA.enter (ac := c41) (rs := r41) Tryd.func41 rfl (by decide) c41_ok r41_ok ?_; intro Q hQ; simp only [go_sem, Int.reduceEq, Int.reduceAdd, Int.reduceSub, Int.reduceMul, Nat.reduceLT, Int.reduceLT, Int.reduceLE, Int.reduceToNat, Nat.reduceAdd, Nat.reduceSub, Nat.reduceMul, Nat.reduceLeDiff, reduceCtorEq, c41, Tryd.ntmps41, e1, lenA_str, e3, g])
      unfold groupV at hQ
      rw [hv] at hQ
      (refine hQ _ _ _ _ _ (by first | exact .inr rfl | exact .inl rfl) rfl (by first | exact FzH.refl _ | exact FzH.sub (by (repeat' (first | exact Sub.refl _ | assumption | (refine Sub.upd ?_ (by first | assumption | (simp only [*]; done) | exact Sub.isNone (by assumption) (by assumption) | exact Sub.isNone (by assumption) (by simp only [*]))))))) (FzL.refl _ _ _) ?_; try (simp only [go_sem, Int.reduceEq, Int.reduceAdd, Int.reduceSub, Int.reduceMul, Nat.reduceLT, Int.reduceLT, Int.reduceLE, Int.reduceToNat, Nat.reduceAdd, Nat.reduceSub, Nat.reduceMul, Nat.reduceLeDiff, reduceCtorEq]))
  · obtain rfl : xs = [] := by cases xs with | nil => rfl | cons _ _ => simp at h1
    have e0 : ((strOfNums []).toList == (ByteArray.mk (Array.mk [])).toList) = true := by
      rw [Lib.toList_data, Lib.toList_data]; rfl
    (refine PureA.enter (ac := c41) (rs := r41) Tryd.func41 rfl (by decide) c41_ok r41_ok ?_; intro Q hQ; simp only [go_sem, Int.reduceEq, Int.reduceAdd, Int.reduceSub, Int.reduceMul, Nat.reduceLT, Int.reduceLT, Int.reduceLE, Int.reduceToNat, Nat.reduceAdd, Nat.reduceSub, Nat.reduceMul, Nat.reduceLeDiff, reduceCtorEq, c41, Tryd.ntmps41, e0])
    (refine hQ _ _ _ _ _ (by first | exact .inr rfl | exact .inl rfl) rfl (by first | exact FzH.refl _ | exact FzH.sub (by (repeat' (first | exact Sub.refl _ | assumption | (refine Sub.upd ?_ (by first | assumption | (simp only [*]; done) | exact Sub.isNone (by assumption) (by assumption) | exact Sub.isNone (by assumption) (by simp only [*]))))))) (FzL.refl _ _ _) ?_; try (simp only [go_sem, Int.reduceEq, Int.reduceAdd, Int.reduceSub, Int.reduceMul, Nat.reduceLT, Int.reduceLT, Int.reduceLE, Int.reduceToNat, Nat.reduceAdd, Nat.reduceSub, Nat.reduceMul, Nat.reduceLeDiff, reduceCtorEq]))
    rfl

/-- addr.group, of a group's digits. -/
theorem group_ok (xs : List Int) (h1 : 1 ≤ xs.length) (h4 : xs.length ≤ 4) (hx : xs.all isHex = true) (h : AHeap) :
    PureA Tryd.prog 41 [.str (strOfNums xs)] h (.tup [.int .i64 (valL xs), .bool true]) := by
  have := group_spec xs (hex_byte hx) h
  unfold groupV gOkB at this
  rw [decide_eq_true h1, decide_eq_true h4, hx] at this
  exact this

end Go.Proofs.YtdlghfekgecjjaaDoor
