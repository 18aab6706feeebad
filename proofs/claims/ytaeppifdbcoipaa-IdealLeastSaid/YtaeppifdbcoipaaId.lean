/-
  The document's links; both together.
-/
import Derived.Test.YtaeppifdbcoipaaIc
namespace Go.Proofs.Ytaeppifdbcoipaa
open Go E
set_option linter.unusedVariables false
set_option linter.unusedSimpArgs false
set_option maxRecDepth 100000

/-- The document's links at y: a square of costs. -/
def dC (n : Int) (cs : List Int) : AObj := .cells (.int .i64 n :: cat i1 cs) 4097

theorem dNode_spec {y : Nat} {n : Int} {cs : List Int} {H : AHeap} (hd : H y = some (dC n cs)) (a : Int) : PureA Try.prog 74 [.ptr y 0, .int .i64 a] H (.bool (inN n a)) := by
  unfold dC at hd
  (refine PureA.enter (ac := c74) (rs := r74) Try.func74 rfl (by decide) c74_ok r74_ok ?_; intro Q hQ; simp only [go_sem, Int.reduceEq, Int.reduceAdd, Int.reduceSub, Int.reduceMul, Nat.reduceLT, Int.reduceLT, Int.reduceLE, Int.reduceToNat, Nat.reduceAdd, Nat.reduceSub, Nat.reduceMul, Nat.reduceLeDiff, reduceCtorEq, c74, Try.ntmps74])
  by_cases g1 : 0 ≤ a
  · have e : inN n a = decide (a < n) := by unfold inN; congr 1; exact propext ⟨fun h => h.2, fun h => ⟨g1, h⟩⟩
    simp only [go_sem, Int.reduceEq, Int.reduceAdd, Int.reduceSub, Int.reduceMul, Nat.reduceLT, Int.reduceLT, Int.reduceLE, Int.reduceToNat, Nat.reduceAdd, Nat.reduceSub, Nat.reduceMul, Nat.reduceLeDiff, reduceCtorEq, g1, hd]
    (refine hQ _ _ _ _ _ (by first | exact .inr rfl | exact .inl rfl) rfl (by first | exact FzH.refl _ | exact FzH.sub (by (repeat' (first | exact Sub.refl _ | assumption | (refine Sub.upd ?_ (by first | assumption | (simp only [*]; done) | exact Sub.isNone (by assumption) (by assumption) | exact Sub.isNone (by assumption) (by simp only [*]))))))) (FzL.refl _ _ _) ?_; try (simp only [go_sem, Int.reduceEq, Int.reduceAdd, Int.reduceSub, Int.reduceMul, Nat.reduceLT, Int.reduceLT, Int.reduceLE, Int.reduceToNat, Nat.reduceAdd, Nat.reduceSub, Nat.reduceMul, Nat.reduceLeDiff, reduceCtorEq, e]))
  · have e : inN n a = false := by unfold inN; exact decide_eq_false (by omega)
    simp only [go_sem, Int.reduceEq, Int.reduceAdd, Int.reduceSub, Int.reduceMul, Nat.reduceLT, Int.reduceLT, Int.reduceLE, Int.reduceToNat, Nat.reduceAdd, Nat.reduceSub, Nat.reduceMul, Nat.reduceLeDiff, reduceCtorEq, g1]
    (refine hQ _ _ _ _ _ (by first | exact .inr rfl | exact .inl rfl) rfl (by first | exact FzH.refl _ | exact FzH.sub (by (repeat' (first | exact Sub.refl _ | assumption | (refine Sub.upd ?_ (by first | assumption | (simp only [*]; done) | exact Sub.isNone (by assumption) (by assumption) | exact Sub.isNone (by assumption) (by simp only [*]))))))) (FzL.refl _ _ _) ?_; try (simp only [go_sem, Int.reduceEq, Int.reduceAdd, Int.reduceSub, Int.reduceMul, Nat.reduceLT, Int.reduceLT, Int.reduceLE, Int.reduceToNat, Nat.reduceAdd, Nat.reduceSub, Nat.reduceMul, Nat.reduceLeDiff, reduceCtorEq, e]))

theorem set_big {n : Int} {cs : List Int} {p : Nat} (hp : p < cs.length) (v : Int) :
    List.take (1 + p) (AV.int .i64 n :: cat i1 cs) ++ [AV.int .i64 v] ++ List.drop (1 + p) (cat i1 cs) = AV.int .i64 n :: cat i1 (cs.set p v) := by
  have h1 := cat_take i1_len cs p
  have h2 := cat_drop i1_len cs (p + 1)
  rw [Nat.mul_one] at h1 h2
  rw [show 1 + p = p + 1 by omega, List.take_succ_cons, h1, h2, List.set_eq_take_append_cons_drop, if_pos hp, cat_append, cat_cons]
  simp [i1]

theorem dSet_spec {y : Nat} {n : Int} {cs : List Int} {H : AHeap} (hd : H y = some (dC n cs)) (hl : cs.length = 4096) (a b : Nat) (ha : a < 64) (hb : b < 64) (v : Int) :
    CallsA Try.prog 75 [.ptr y 0, .int .i64 (a : Int), .int .i64 (b : Int), .int .i64 v] H (fun r H' => r = .tup [] ∧ H' = upd H y (dC n ((cs.set (a * 64 + b) v).set (b * 64 + a) v))) := by
  have h1 : a * 64 + b < cs.length := by omega
  have h2 : b * 64 + a < (cs.set (a * 64 + b) v).length := by rw [List.length_set]; omega
  have s1 := set_big (n := n) h1 v
  have s2 := set_big (n := n) h2 v
  have c1 : (cat i1 cs).length = 4096 := by rw [cat_len i1_len, hl]
  have c2 : (cat i1 (cs.set (a * 64 + b) v)).length = 4096 := by rw [cat_len i1_len, List.length_set, hl]
  have l1 : 1 + (a * 64 + b) + 1 ≤ (cat i1 cs).length + 1 := by omega
  have l2 : 1 + (b * 64 + a) + 1 ≤ (cat i1 (cs.set (a * 64 + b) v)).length + 1 := by omega
  have ha' : (a : Int) < 64 := by omega
  have hb' : (b : Int) < 64 := by omega
  unfold dC at hd
  unfold dC
  (refine CallsA.enterR (ac := c75) (rs := r75) Try.func75 rfl (by decide) c75_ok r75_ok ?_; intro Q hQ; simp only [go_sem, Int.reduceEq, Int.reduceAdd, Int.reduceSub, Int.reduceMul, Nat.reduceLT, Int.reduceLT, Int.reduceLE, Int.reduceToNat, Nat.reduceAdd, Nat.reduceSub, Nat.reduceMul, Nat.reduceLeDiff, reduceCtorEq, c75, Try.ntmps75])
  refine ⟨ha', hb', hb', ?_⟩
  rw [Nat.add_assoc 1 (a * 64) b, Nat.add_assoc 1 (b * 64) a]
  simp only [go_sem, Int.reduceEq, Int.reduceAdd, Int.reduceSub, Int.reduceMul, Nat.reduceLT, Int.reduceLT, Int.reduceLE, Int.reduceToNat, Nat.reduceAdd, Nat.reduceSub, Nat.reduceMul, Nat.reduceLeDiff, reduceCtorEq, hd, List.length_cons, l1, s1, ha', l2, s2]
  refine hQ _ _ _ _ _ _ (.inl rfl) rfl (FzH.refl _) (FzL.refl _ _ _) ⟨rfl, rfl⟩

/-- What both say of the links that were told. -/
structure Same (n : Int) (f : Lk) (cs : List Int) : Prop where
  len : cs.length = 4096
  at' : ∀ a b : Nat, (a : Int) < n → (b : Int) < n → cs[a * 64 + b]? = some (match alook f (ofP a b) with | some c => c | none => 0)
  pos : ∀ p c, alook f p = some c → 128 ≤ c ∧ c < 65535
  dom : ∀ p c, alook f p = some c → 0 ≤ p.1 ∧ p.1 < p.2 ∧ p.2 < n

abbrev T3 := Int × Int × Int
def encT (x : T3) : List AV := [.int .i64 x.1, .int .i64 x.2.1, .int .i64 x.2.2]
theorem encT_len (x : T3) : (encT x).length = 3 := rfl

theorem ofP_inj {a b c d : Nat} (hab : a ≠ b) (h : ofP (a : Int) b = ofP (c : Int) d) : (a = c ∧ b = d) ∨ (a = d ∧ b = c) := by
  unfold ofP at h
  injection h with h1 h2
  omega

theorem Same.set {n : Int} {f : Lk} {cs : List Int} (s : Same n f cs) (hn : n ≤ 64) {a b : Nat} (ha : (a : Int) < n) (hb : (b : Int) < n) (hab : a ≠ b) {v : Int} (hv : 128 ≤ v ∧ v < 65535) :
    Same n (aset f (ofP a b) v) ((cs.set (a * 64 + b) v).set (b * 64 + a) v) := by
  refine ⟨by simp [s.len], fun c d hc hd => ?_, fun p c hp => ?_, fun p c hp => ?_⟩
  · rw [alook_set]
    rw [List.getElem?_set, List.getElem?_set, List.length_set, s.len]
    by_cases e1 : b * 64 + a = c * 64 + d
    · have : b = c ∧ a = d := by omega
      obtain ⟨rfl, rfl⟩ := this
      rw [if_pos rfl, if_pos (by omega), if_pos (by unfold ofP; congr 1 <;> omega)]
    · rw [if_neg e1]
      by_cases e2 : a * 64 + b = c * 64 + d
      · have : a = c ∧ b = d := by omega
        obtain ⟨rfl, rfl⟩ := this
        rw [if_pos rfl, if_pos (by omega), if_pos rfl]
      · rw [if_neg e2, if_neg ?_, s.at' c d hc hd]
        intro e
        rcases ofP_inj (Ne.symm (a := a) (b := b) hab |>.symm) e.symm with ⟨rfl, rfl⟩ | ⟨rfl, rfl⟩
        · exact e2 rfl
        · exact e1 rfl
  · rw [alook_set] at hp
    split at hp
    · cases hp; exact hv
    · exact s.pos p c hp
  · rw [alook_set] at hp
    split at hp
    · rename_i e
      subst e
      unfold ofP
      simp only
      omega
    · exact s.dom p c hp

theorem big_ints (n : Nat) : List.drop 1 (bigZ (n + 1)) = cat i1 (List.replicate n 0) := by
  have h1 : ∀ n : Nat, cat i1 (List.replicate n 0) = List.replicate n (.int .i64 0) := by
    intro n
    induction n with
    | zero => rfl
    | succ n ih => rw [List.replicate_succ, cat_cons, ih]; rfl
  rw [h1]; unfold bigZ; rw [List.replicate_succ]; rfl

/-- The links that are made of those that were told. -/
def mkL (n : Int) (f : Lk) (t : T3) : Lk := if bothE n t.1 t.2.1 = 0 ∧ 128 ≤ t.2.2 ∧ t.2.2 < 65535 then aset f (ofP t.1 t.2.1) t.2.2 else f
def madeF (n : Int) (l : List T3) : Lk := l.foldl (mkL n) []
theorem madeF_snoc (n : Int) (l : List T3) (t : T3) : madeF n (l ++ [t]) = mkL n (madeF n l) t := by simp [madeF]

theorem made_spec (m : Int) (l : List T3) (ex : Bool) (h : AHeap) (hl : l.length ≤ 9223372036854775807) :
    CallsA Try.prog 17 [.int .i64 m, .ro (cat encT l) l.length ex] h (fun r H => ∃ x id y f cs, r = .tup [.ptr x 0, .ptr y 0] ∧ f = madeF (1 + m % 18446744073709551616 % 8) (l.take 30) ∧ h x = none ∧ h id = none ∧ h y = none ∧ LIn x id (1 + m % 18446744073709551616 % 8) f H ∧ H y = some (dC (1 + m % 18446744073709551616 % 8) cs) ∧ Same (1 + m % 18446744073709551616 % 8) f cs ∧ Sub h H) := by
  have e1 : (IntKind.u64.wrap m).tmod 8 = m % 18446744073709551616 % 8 := by rw [wu64]; exact Int.tmod_eq_emod_of_nonneg (Int.emod_nonneg _ (by omega))
  have m1 : 0 ≤ m % 18446744073709551616 % 8 ∧ m % 18446744073709551616 % 8 < 8 := by omega
  (refine CallsA.enterR (ac := c17) (rs := r17) Try.func17 rfl (by decide) c17_ok r17_ok ?_; intro Q hQ; simp only [go_sem, Int.reduceEq, Int.reduceAdd, Int.reduceSub, Int.reduceMul, Nat.reduceLT, Int.reduceLT, Int.reduceLE, Int.reduceToNat, Nat.reduceAdd, Nat.reduceSub, Nat.reduceMul, Nat.reduceLeDiff, reduceCtorEq, c17, Try.ntmps17])
  generalize m % 18446744073709551616 % 8 = M at *
  have w1 : IntKind.i64.wrap M = M := w64 (by omega) (by omega)
  have w2 : IntKind.i64.wrap (1 + M) = 1 + M := w64 (by omega) (by omega)
  simp only [go_sem, Int.reduceEq, Int.reduceAdd, Int.reduceSub, Int.reduceMul, Nat.reduceLT, Int.reduceLT, Int.reduceLE, Int.reduceToNat, Nat.reduceAdd, Nat.reduceSub, Nat.reduceMul, Nat.reduceLeDiff, reduceCtorEq, binA, e1, show ((8 : Int) == 0) = false from rfl, w1, w2]
  refine (kNew_spec (1 + M) (by omega) (by omega) h).use ?_
  rintro _ H ⟨x, id, rfl, hx, hid, kin, hs⟩
  obtain ⟨C, z1, hCl, hC0⟩ : ∃ C : List Int, List.drop 1 (bigZ 4097) = cat i1 C ∧ C.length = 4096 ∧ ∀ i, i < 4096 → C[i]? = some 0 :=
    ⟨_, big_ints 4096, List.length_replicate, fun i hi => by rw [List.getElem?_replicate, if_pos hi]⟩
  have z2 := bigZ_len 4097
  have z3 : (cat i1 C).length = 4096 := by rw [cat_len i1_len, hCl]
  simp only [go_sem, Int.reduceEq, Int.reduceAdd, Int.reduceSub, Int.reduceMul, Nat.reduceLT, Int.reduceLT, Int.reduceLE, Int.reduceToNat, Nat.reduceAdd, Nat.reduceSub, Nat.reduceMul, Nat.reduceLeDiff, reduceCtorEq, z1, z2]
  intro y hy
  have hyx : y ≠ x := by rintro rfl; rw [kin.blk] at hy; cases hy
  have hy0 := hs.isNone hy
  have s0 : Same (1 + M) [] C := by
    refine ⟨hCl, fun a b ha hb => ?_, fun p c hp => ?_, fun p c hp => ?_⟩
    · rw [alook_nil]; exact hC0 _ (by omega)
    · rw [alook_nil] at hp; cases hp
    · rw [alook_nil] at hp; cases hp
  have k0 := kin.sub (Sub.upd (o := dC (1 + M) C) (Sub.refl H) hy)
  have eC : ∀ k, AObj.cells (AV.int .i64 (1 + M) :: cat i1 C) ((cat i1 C).length + 1) = k → k = dC (1 + M) C := fun k e => by rw [← e, z3]; rfl
  refine loop_st d17_0 (fun w : Nat × Lk × List Int => 30 - w.1) (fun w s => s.set 9 (.int .i64 (w.1 : Int))) (fun w H => w.1 ≤ 30 ∧ w.1 ≤ l.length ∧ w.2.1 = madeF (1 + M) (l.take w.1) ∧ LIn x id (1 + M) w.2.1 H ∧ H y = some (dC (1 + M) w.2.2) ∧ Same (1 + M) w.2.1 w.2.2 ∧ Sub h H) (0, [], C) ?_ ⟨Nat.zero_le _, Nat.zero_le _, rfl, ?_, ?_, s0, ?_⟩ ?_
  · (simp only [go_sem, Int.reduceEq, Int.reduceAdd, Int.reduceSub, Int.reduceMul, Nat.reduceLT, Int.reduceLT, Int.reduceLE, Int.reduceToNat, Nat.reduceAdd, Nat.reduceSub, Nat.reduceMul, Nat.reduceLeDiff, reduceCtorEq, d17_0] <;> rfl)
  · rw [← eC _ rfl] at k0; exact k0
  · rw [upd_same, ← eC _ rfl]
  · exact hs.upd2 hy0
  rintro N ⟨k, f, cs⟩ H1 ⟨hk, hkl, hfm, kin1, hd1, s1, hs1⟩ hN
  simp only at hk hkl hfm kin1 hd1 s1 hs1 hN
  simp only [go_sem, Int.reduceEq, Int.reduceAdd, Int.reduceSub, Int.reduceMul, Nat.reduceLT, Int.reduceLT, Int.reduceLE, Int.reduceToNat, Nat.reduceAdd, Nat.reduceSub, Nat.reduceMul, Nat.reduceLeDiff, reduceCtorEq, d17_0]
  have hadd := wadd1 (k := k) (by omega)
  by_cases hlt : k < l.length ∧ (k : Int) < 30
  · obtain ⟨h1, h2⟩ := hlt
    have q0 : ∀ t : T3, (encT t)[0]? = some (.int .i64 t.1) := fun _ => rfl
    have q1 : ∀ t : T3, (encT t)[1]? = some (.int .i64 t.2.1) := fun _ => rfl
    have q2 : ∀ t : T3, (encT t)[2]? = some (.int .i64 t.2.2) := fun _ => rfl
    have r0 : ∀ H, aload H (.rp ((cat encT l).drop (k * 3))) = some (.int .i64 l[k].1) := fun H => (rd_first (h := H) encT_len (by omega) h1).trans (q0 _)
    have r1 : ∀ H, aload H (.rp (((cat encT l).drop (k * 3)).drop 1)) = some (.int .i64 l[k].2.1) := fun H => (rd_cell (h := H) (off := 1) encT_len h1 (by omega)).trans (q1 _)
    have r2 : ∀ H, aload H (.rp (((cat encT l).drop (k * 3)).drop 2)) = some (.int .i64 l[k].2.2) := fun H => (rd_cell (h := H) (off := 2) encT_len h1 (by omega)).trans (q2 _)
    have hsn : l.take (k + 1) = l.take k ++ [l[k]] := List.take_succ_eq_append_getElem h1
    have hnext : madeF (1 + M) (l.take (k + 1)) = mkL (1 + M) f l[k] := by rw [hsn, madeF_snoc, ← hfm]
    generalize l[k] = t at *
    have hsx : H1 y = some (dC (1 + M) cs) := hd1
    simp only [go_sem, Int.reduceEq, Int.reduceAdd, Int.reduceSub, Int.reduceMul, Nat.reduceLT, Int.reduceLT, Int.reduceLE, Int.reduceToNat, Nat.reduceAdd, Nat.reduceSub, Nat.reduceMul, Nat.reduceLeDiff, reduceCtorEq, h1, h2, r0, r1, r2]
    by_cases good : bothE (1 + M) t.1 t.2.1 = 0 ∧ 128 ≤ t.2.2 ∧ t.2.2 < 65535
    · obtain ⟨g1, g2, g3⟩ := good
      have gb : inN (1 + M) t.1 = true ∧ inN (1 + M) t.2.1 = true ∧ t.1 ≠ t.2.1 := by
        unfold bothE at g1
        split at g1
        · rename_i g; simpa [and_assoc] using g
        · cases g1
      obtain ⟨b1, b2, b3⟩ := gb
      have c1 := of_decide_eq_true b1
      have c2 := of_decide_eq_true b2
      obtain ⟨A, hA⟩ : ∃ A : Nat, t.1 = (A : Int) := ⟨t.1.toNat, by omega⟩
      obtain ⟨B, hB⟩ : ∃ B : Nat, t.2.1 = (B : Int) := ⟨t.2.1.toNat, by omega⟩
      rw [hA] at r0 g1 b1 b3 c1
      rw [hB] at r1 g1 b2 b3 c2
      rw [hA, hB]
      refine (kSet_spec kin1 A B t.2.2 g1 g2 g3).use ?_
      rintro _ H2 ⟨rfl, kin2, o, e2⟩
      have hyid : y ≠ id := by
        rintro rfl
        obtain ⟨es, c, k1, _⟩ := kin1.map
        rw [hd1] at k1; unfold dC at k1; cases k1
      have hd2 : H2 y = some (dC (1 + M) cs) := by rw [e2, upd_ne hyid]; exact hd1
      have hid2 : H2 id ≠ none := by rw [e2, upd_same]; simp
      have kin3 : LIn x id (1 + M) (aset f (ofP A B) t.2.2) (upd H2 y (dC (1 + M) ((cs.set (A * 64 + B) t.2.2).set (B * 64 + A) t.2.2))) := by
        obtain ⟨es, c, k1, k2⟩ := kin2.map
        exact ⟨by rw [upd_ne hyx.symm]; exact kin2.blk, ⟨es, c, by rw [upd_ne hyid.symm]; exact k1, k2⟩, kin2.ok⟩
      have hs3 : Sub h (upd H2 y (dC (1 + M) ((cs.set (A * 64 + B) t.2.2).set (B * 64 + A) t.2.2))) := by
        rw [e2]; exact (hs1.upd2 hid).upd2 hy0
      have s3 := s1.set (by omega) (a := A) (b := B) (by omega) (by omega) (fun e => b3 (by rw [e])) ⟨g2, g3⟩
      simp only [go_sem, Int.reduceEq, Int.reduceAdd, Int.reduceSub, Int.reduceMul, Nat.reduceLT, Int.reduceLT, Int.reduceLE, Int.reduceToNat, Nat.reduceAdd, Nat.reduceSub, Nat.reduceMul, Nat.reduceLeDiff, reduceCtorEq, h1, r0]
      refine (dNode_spec hd2 (A : Int)).use ?_
      simp only [go_sem, Int.reduceEq, Int.reduceAdd, Int.reduceSub, Int.reduceMul, Nat.reduceLT, Int.reduceLT, Int.reduceLE, Int.reduceToNat, Nat.reduceAdd, Nat.reduceSub, Nat.reduceMul, Nat.reduceLeDiff, reduceCtorEq, b1, h1, r1, hB]
      refine (dNode_spec hd2 (B : Int)).use ?_
      simp only [go_sem, Int.reduceEq, Int.reduceAdd, Int.reduceSub, Int.reduceMul, Nat.reduceLT, Int.reduceLT, Int.reduceLE, Int.reduceToNat, Nat.reduceAdd, Nat.reduceSub, Nat.reduceMul, Nat.reduceLeDiff, reduceCtorEq, b2, h1, r0, r1, r2, hB]
      refine (dSet_spec hd2 s1.len A B (by omega) (by omega) t.2.2).use ?_
      rintro _ H3 ⟨rfl, e3⟩
      rw [e3]
      simp only [go_sem, Int.reduceEq, Int.reduceAdd, Int.reduceSub, Int.reduceMul, Nat.reduceLT, Int.reduceLT, Int.reduceLE, Int.reduceToNat, Nat.reduceAdd, Nat.reduceSub, Nat.reduceMul, Nat.reduceLeDiff, reduceCtorEq, hadd]
      refine hN (k + 1, aset f (ofP A B) t.2.2, (cs.set (A * 64 + B) t.2.2).set (B * 64 + A) t.2.2) _ _ (by simp only; omega) ?_ ⟨by simp only; omega, by simp only; omega, by rw [hnext]; unfold mkL; rw [hA, hB, if_pos ⟨g1, g2, g3⟩], kin3, upd_same, s3, hs3⟩
      simp only [go_sem, Int.reduceEq, Int.reduceAdd, Int.reduceSub, Int.reduceMul, Nat.reduceLT, Int.reduceLT, Int.reduceLE, Int.reduceToNat, Nat.reduceAdd, Nat.reduceSub, Nat.reduceMul, Nat.reduceLeDiff, reduceCtorEq, d17_0]
    · refine (kSet_bad kin1 t.1 t.2.1 t.2.2 good).use ?_
      rintro _ H2 ⟨rfl, e2⟩
      rw [e2]
      simp only [go_sem, Int.reduceEq, Int.reduceAdd, Int.reduceSub, Int.reduceMul, Nat.reduceLT, Int.reduceLT, Int.reduceLE, Int.reduceToNat, Nat.reduceAdd, Nat.reduceSub, Nat.reduceMul, Nat.reduceLeDiff, reduceCtorEq, show decide ((1 : Int) = 0) = false from rfl, hadd]
      refine hN (k + 1, f, cs) _ _ (by simp only; omega) ?_ ⟨by simp only; omega, by simp only; omega, by rw [hnext]; unfold mkL; rw [if_neg good], kin1, hd1, s1, hs1⟩
      simp only [go_sem, Int.reduceEq, Int.reduceAdd, Int.reduceSub, Int.reduceMul, Nat.reduceLT, Int.reduceLT, Int.reduceLE, Int.reduceToNat, Nat.reduceAdd, Nat.reduceSub, Nat.reduceMul, Nat.reduceLeDiff, reduceCtorEq, d17_0]
  · rcases (show (k < l.length ∧ ¬ (k : Int) < 30) ∨ ¬ k < l.length by omega) with ⟨h1, h2⟩ | h1 <;> (first | (simp only [go_sem, Int.reduceEq, Int.reduceAdd, Int.reduceSub, Int.reduceMul, Nat.reduceLT, Int.reduceLT, Int.reduceLE, Int.reduceToNat, Nat.reduceAdd, Nat.reduceSub, Nat.reduceMul, Nat.reduceLeDiff, reduceCtorEq, h1, h2]) | (simp only [go_sem, Int.reduceEq, Int.reduceAdd, Int.reduceSub, Int.reduceMul, Nat.reduceLT, Int.reduceLT, Int.reduceLE, Int.reduceToNat, Nat.reduceAdd, Nat.reduceSub, Nat.reduceMul, Nat.reduceLeDiff, reduceCtorEq, h1])) <;>
    ( refine frz_id ?_
      simp only [go_sem, Int.reduceEq, Int.reduceAdd, Int.reduceSub, Int.reduceMul, Nat.reduceLT, Int.reduceLT, Int.reduceLE, Int.reduceToNat, Nat.reduceAdd, Nat.reduceSub, Nat.reduceMul, Nat.reduceLeDiff, reduceCtorEq]
      refine hQ _ _ _ _ _ _ (.inr rfl) rfl (FzH.refl _) (FzL.refl _ _ _) ⟨x, id, y, f, cs, rfl, by rw [hfm]; congr 1; rw [List.take_eq_take_iff]; omega, hx, hid, hy0, kin1, hd1, s1, hs1⟩ )

end Go.Proofs.Ytaeppifdbcoipaa
