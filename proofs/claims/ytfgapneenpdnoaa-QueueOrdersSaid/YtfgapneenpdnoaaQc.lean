/-
  The queue: contracts.
-/
import Derived.Test.YtfgapneenpdnoaaC6
import Derived.Test.YtfgapneenpdnoaaOw
namespace Go.Proofs.Ytfgapneenpdnoaa
open Go E
set_option linter.unusedVariables false
set_option linter.unusedSimpArgs false
set_option maxRecDepth 100000

theorem CallsA.useZ {P : Program} {f : FuncId} {args args' : List AV} {h : AHeap} {R K : AV → AHeap → Prop} (c : CallsA P f args' h R) (z : FzL h h args args') (k : ∀ r h', R r h' → K r h') : callF P f args h K := ⟨h, args', .refl h, z, c.mono k⟩

structure It where
  to : Int
  cl : Int
  b : List Int
def encIt (x : It) : List AV := [.int .i64 x.to, .int .i64 x.cl, .ro (cat b1 x.b) x.b.length false]
theorem encIt_len (x : It) : (encIt x).length = 3 := rfl
theorem encIt_sca (x : It) : (encIt x).all scalar = true := rfl

/-- slices.Clone of bytes. -/
theorem bclone_own (bs : List Int) (ex : Bool) (h : AHeap) (hn : bs.length ≤ 1000000) : CallsA Try.prog 71 [.ro (cat b1 bs) bs.length ex] h fun r h' => Grow h 1 r (cat b1 bs) bs.length h' := by
  cases bs with
  | nil =>
    refine CallsA.nils (pre := []) ?_ ?_
    · (refine CallsA.enterR (ac := c71) (rs := r71) Try.func71 rfl (by decide) c71_ok r71_ok ?_; intro Q hQ; simp only [go_sem, Int.reduceEq, Int.reduceAdd, Int.reduceSub, Int.reduceMul, Nat.reduceLT, Int.reduceLT, Int.reduceLE, Int.reduceToNat, Nat.reduceAdd, Nat.reduceSub, Nat.reduceMul, Nat.reduceLeDiff, reduceCtorEq, c71, Try.ntmps71])
      exact hQ _ _ _ _ _ [_] (.inr rfl) rfl (.refl _) (.cons (.refl _) .nil) Grow.nil
    · (refine CallsA.enterR (ac := c71) (rs := r71) Try.func71 rfl (by decide) c71_ok r71_ok ?_; intro Q hQ; simp only [go_sem, Int.reduceEq, Int.reduceAdd, Int.reduceSub, Int.reduceMul, Nat.reduceLT, Int.reduceLT, Int.reduceLE, Int.reduceToNat, Nat.reduceAdd, Nat.reduceSub, Nat.reduceMul, Nat.reduceLeDiff, reduceCtorEq, c71, Try.ntmps71])
      refine (Grow.lit (by simp) (by simp)).append (y := .rz) (ys := []) (m := 0) rfl rfl (by simp) rfl (by simp) fun v' h' g => ?_
      simp only [go_sem, Int.reduceEq, Int.reduceAdd, Int.reduceSub, Int.reduceMul, Nat.reduceLT, Int.reduceLT, Int.reduceLE, Int.reduceToNat, Nat.reduceAdd, Nat.reduceSub, Nat.reduceMul, Nat.reduceLeDiff, reduceCtorEq]
      exact hQ _ _ _ _ _ [_] (.inr rfl) rfl (.refl _) (.cons (.refl _) .nil) g
  | cons b bs =>
    (refine CallsA.enterR (ac := c71) (rs := r71) Try.func71 rfl (by decide) c71_ok r71_ok ?_; intro Q hQ; simp only [go_sem, Int.reduceEq, Int.reduceAdd, Int.reduceSub, Int.reduceMul, Nat.reduceLT, Int.reduceLT, Int.reduceLE, Int.reduceToNat, Nat.reduceAdd, Nat.reduceSub, Nat.reduceMul, Nat.reduceLeDiff, reduceCtorEq, c71, Try.ntmps71, List.length_cons])
    refine (Grow.lit (by simp) (by simp)).addN (by rw [cat_len b1_len]; simp) (cat_sca b1_sca _) (by simp at hn ⊢; omega) fun v' h' g => ?_
    simp only [go_sem, Int.reduceEq, Int.reduceAdd, Int.reduceSub, Int.reduceMul, Nat.reduceLT, Int.reduceLT, Int.reduceLE, Int.reduceToNat, Nat.reduceAdd, Nat.reduceSub, Nat.reduceMul, Nat.reduceLeDiff, reduceCtorEq]
    exact hQ _ _ _ _ _ [_] (.inr rfl) rfl (.refl _) (.cons (.refl _) .nil) (by simpa [tupA] using g)

theorem bclone_spec (bs : List Int) (ex : Bool) (h : AHeap) (hn : bs.length ≤ 1000000) : PureA Try.prog 71 [.ro (cat b1 bs) bs.length ex] h (.ro (cat b1 bs) bs.length false) := Grow.pure (bclone_own bs ex h hn)

theorem Q__idxg (p : It → Bool) (l : List It) (v : AV) (h0 h : AHeap) (gr : Grow h0 3 v (cat encIt l) l.length h) (f : FuncId) (caps : List AV) (hn : l.length ≤ 1000000) (hp : ∀ x ∈ l, PureA Try.prog f (.agg (encIt x) ::  caps) h (.bool (p x))) :
    PureA Try.prog 68 [v, .fn f caps] h (.int .i64 (idxP p l)) := by
  have hlen := gr.len
  (refine PureA.enter (ac := c68) (rs := r68) Try.func68 rfl (by decide) c68_ok r68_ok ?_; intro Q hQ; simp only [go_sem, Int.reduceEq, Int.reduceAdd, Int.reduceSub, Int.reduceMul, Nat.reduceLT, Int.reduceLT, Int.reduceLE, Int.reduceToNat, Nat.reduceAdd, Nat.reduceSub, Nat.reduceMul, Nat.reduceLeDiff, reduceCtorEq, c68, Try.ntmps68, hlen])
  refine loop_range d68_0 (l.length) (fun k s => s.set 8 (.int .i64 k)) (fun k h' => ((l.take k).any p = false) ∧ h' = h) ?_ ⟨rfl, rfl⟩ ?_
  · (simp only [go_sem, Int.reduceEq, Int.reduceAdd, Int.reduceSub, Int.reduceMul, Nat.reduceLT, Int.reduceLT, Int.reduceLE, Int.reduceToNat, Nat.reduceAdd, Nat.reduceSub, Nat.reduceMul, Nat.reduceLeDiff, reduceCtorEq, d68_0] <;> rfl)
  rintro N k h' hk ⟨hall, rfl⟩ hN
  simp only [go_sem, Int.reduceEq, Int.reduceAdd, Int.reduceSub, Int.reduceMul, Nat.reduceLT, Int.reduceLT, Int.reduceLE, Int.reduceToNat, Nat.reduceAdd, Nat.reduceSub, Nat.reduceMul, Nat.reduceLeDiff, reduceCtorEq, d68_0]
  have hadd := wadd1 (k := k) (by omega)
  by_cases hlt : k < l.length
  · have ht := take_any hlt hall
    have hh := idx_hit hlt hall
    have hm := hp _ (List.getElem_mem hlt)
    simp only [go_sem, Int.reduceEq, Int.reduceAdd, Int.reduceSub, Int.reduceMul, Nat.reduceLT, Int.reduceLT, Int.reduceLE, Int.reduceToNat, Nat.reduceAdd, Nat.reduceSub, Nat.reduceMul, Nat.reduceLeDiff, reduceCtorEq, hlt, hadd]
    refine gr.rd hlt _ fun q _ hq => ?_
    rw [cat_at encIt_len hlt, ← encIt_len l[k], List.take_left, encIt_len] at hq
    simp only [go_sem, Int.reduceEq, Int.reduceAdd, Int.reduceSub, Int.reduceMul, Nat.reduceLT, Int.reduceLT, Int.reduceLE, Int.reduceToNat, Nat.reduceAdd, Nat.reduceSub, Nat.reduceMul, Nat.reduceLeDiff, reduceCtorEq, hq]
    refine hm.use ?_
    repeat' (first | (intro _ hf_; (try simp only [upd_none] at hf_); (try simp only [go_sem, Int.reduceEq, Int.reduceAdd, Int.reduceSub, Int.reduceMul, Nat.reduceLT, Int.reduceLT, Int.reduceLE, Int.reduceToNat, Nat.reduceAdd, Nat.reduceSub, Nat.reduceMul, Nat.reduceLeDiff, reduceCtorEq, upd_ne, ne_eq, not_false_eq_true, *])) | (refine guard_split (fun hb_ => ?_) (fun hb_ => ?_) <;> (try simp only [decide_eq_true_eq, decide_eq_false_iff_not, Bool.not_eq_true', Bool.not_eq_false'] at hb_) <;> (try simp only [go_sem, Int.reduceEq, Int.reduceAdd, Int.reduceSub, Int.reduceMul, Nat.reduceLT, Int.reduceLT, Int.reduceLE, Int.reduceToNat, Nat.reduceAdd, Nat.reduceSub, Nat.reduceMul, Nat.reduceLeDiff, reduceCtorEq, upd_ne, ne_eq, not_false_eq_true, *])) | (refine cond_split (fun hb_ => ?_) (fun hb_ => ?_) <;> (try simp only [decide_eq_true_eq, decide_eq_false_iff_not, Bool.not_eq_true', Bool.not_eq_false'] at hb_) <;> (try simp only [go_sem, Int.reduceEq, Int.reduceAdd, Int.reduceSub, Int.reduceMul, Nat.reduceLT, Int.reduceLT, Int.reduceLE, Int.reduceToNat, Nat.reduceAdd, Nat.reduceSub, Nat.reduceMul, Nat.reduceLeDiff, reduceCtorEq, upd_ne, ne_eq, not_false_eq_true, *])) | (refine readG_split (fun hb_ => ?_) (fun hb_ => ?_) <;> (try simp only [decide_eq_true_eq, decide_eq_false_iff_not, Bool.not_eq_true', Bool.not_eq_false'] at hb_) <;> (try simp only [go_sem, Int.reduceEq, Int.reduceAdd, Int.reduceSub, Int.reduceMul, Nat.reduceLT, Int.reduceLT, Int.reduceLE, Int.reduceToNat, Nat.reduceAdd, Nat.reduceSub, Nat.reduceMul, Nat.reduceLeDiff, reduceCtorEq, upd_ne, ne_eq, not_false_eq_true, *])) | (refine frz_id ?_ <;> (try simp only [go_sem, Int.reduceEq, Int.reduceAdd, Int.reduceSub, Int.reduceMul, Nat.reduceLT, Int.reduceLT, Int.reduceLE, Int.reduceToNat, Nat.reduceAdd, Nat.reduceSub, Nat.reduceMul, Nat.reduceLeDiff, reduceCtorEq, upd_ne, ne_eq, not_false_eq_true, *])))
    · refine hQ _ _ _ _ _ (by first | exact .inr rfl | exact .inl rfl) rfl (by first | exact FzH.refl _ | exact FzH.sub (by (repeat' (first | exact Sub.refl _ | assumption | (refine Sub.upd ?_ (by first | assumption | (simp only [*]; done) | exact Sub.isNone (by assumption) (by assumption) | exact Sub.isNone (by assumption) (by simp only [*]))))))) (FzL.refl _ _ _) ?_
      simp only [go_sem, Int.reduceEq, Int.reduceAdd, Int.reduceSub, Int.reduceMul, Nat.reduceLT, Int.reduceLT, Int.reduceLE, Int.reduceToNat, Nat.reduceAdd, Nat.reduceSub, Nat.reduceMul, Nat.reduceLeDiff, reduceCtorEq, hh (by assumption)]
    · (refine hN _ _ hlt ?_ ⟨?_, rfl⟩; (simp only [go_sem, Int.reduceEq, Int.reduceAdd, Int.reduceSub, Int.reduceMul, Nat.reduceLT, Int.reduceLT, Int.reduceLE, Int.reduceToNat, Nat.reduceAdd, Nat.reduceSub, Nat.reduceMul, Nat.reduceLeDiff, reduceCtorEq, d68_0]))
      rw [ht]; assumption
  · (simp only [go_sem, Int.reduceEq, Int.reduceAdd, Int.reduceSub, Int.reduceMul, Nat.reduceLT, Int.reduceLT, Int.reduceLE, Int.reduceToNat, Nat.reduceAdd, Nat.reduceSub, Nat.reduceMul, Nat.reduceLeDiff, reduceCtorEq, hlt]; refine frz_id ?_; simp only [go_sem, Int.reduceEq, Int.reduceAdd, Int.reduceSub, Int.reduceMul, Nat.reduceLT, Int.reduceLT, Int.reduceLE, Int.reduceToNat, Nat.reduceAdd, Nat.reduceSub, Nat.reduceMul, Nat.reduceLeDiff, reduceCtorEq])
    refine hQ _ _ _ _ _ (by first | exact .inr rfl | exact .inl rfl) rfl (by first | exact FzH.refl _ | exact FzH.sub (by (repeat' (first | exact Sub.refl _ | assumption | (refine Sub.upd ?_ (by first | assumption | (simp only [*]; done) | exact Sub.isNone (by assumption) (by assumption) | exact Sub.isNone (by assumption) (by simp only [*]))))))) (FzL.refl _ _ _) ?_
    rw [List.take_of_length_le (by omega)] at hall
    simp only [go_sem, Int.reduceEq, Int.reduceAdd, Int.reduceSub, Int.reduceMul, Nat.reduceLT, Int.reduceLT, Int.reduceLE, Int.reduceToNat, Nat.reduceAdd, Nat.reduceSub, Nat.reduceMul, Nat.reduceLeDiff, reduceCtorEq, idx_none hall]



theorem Q__dele (l : List It) (v : AV) (h0 H : AHeap) (gr : Grow h0 3 v (cat encIt l) l.length H) (hw : Wr v) (i : Nat) (hi : i < l.length) (hn : l.length ≤ 1000000) :
    CallsA Try.prog 42 [v, .int .i64 (i : Int), .int .i64 ((i + 1 : Nat) : Int)] H (fun r H' => Grow h0 3 r (cat encIt (l.take i ++ l.drop (i + 1))) (l.take i ++ l.drop (i + 1)).length H' ∧ Wr r) := by
  rcases gr.how with ⟨rfl, hl, rfl⟩ | ⟨rfl, _⟩ | ⟨id, cap, junk, rfl, hcap, hid, rfl⟩
  · omega
  · exact absurd rfl (hw _ _ _)
  have hcl := cat_len (enc := encIt) encIt_len
  have h1 : (l.take i).length = i := by rw [List.length_take]; omega
  have h2 : (l.drop (i + 1)).length = l.length - (i + 1) := List.length_drop
  have hne : decide (i = i + 1) = false := decide_eq_false (by omega)
  have s0 := own_3 (esz := 3) (id := id) (n := l.length) (cap := cap) (k1 := .i64) (k2 := .i64) (k3 := .i64) (a := i) (b := i + 1) (c := l.length) hi (by omega) (by omega) hcap
  have s1 := own_hi (esz := 3) (id := id) (n := l.length) (cap := cap) (k2 := .i64) (b := i) (by omega)
  have e0 : cat encIt l ++ junk = cat encIt (l.take i) ++ (cat encIt (l.drop i) ++ junk) := by rw [← List.append_assoc, ← cat_append, List.take_append_drop]
  obtain ⟨y, s2, hy, hys⟩ : ∃ y, sliceA 3 (.sl id 0 l.length cap) (some (.int .i64 ((i + 1 : Nat) : Int))) none none = some y ∧ acells (upd h0 id (.cells (cat encIt l ++ junk) (cap * 3))) 3 y = some (cat encIt (l.drop (i + 1))) ∧ slen y = l.length - (i + 1) := by
    by_cases hc : i + 1 < cap
    · refine ⟨_, own_lo hc hi hcap, ?_, rfl⟩
      rw [own_part encIt_len (by omega), List.take_of_length_le (by omega)]
    · have : cap = l.length := by omega
      subst this
      have : i + 1 = l.length := by omega
      rw [this, List.drop_length]
      exact ⟨_, own_lo0, own_part0 (Nat.zero_le _), by simp [slen]⟩
  (refine CallsA.enterR (ac := c42) (rs := r42) Try.func42 rfl (by decide) c42_ok r42_ok ?_; intro Q hQ; simp only [go_sem, Int.reduceEq, Int.reduceAdd, Int.reduceSub, Int.reduceMul, Nat.reduceLT, Int.reduceLT, Int.reduceLE, Int.reduceToNat, Nat.reduceAdd, Nat.reduceSub, Nat.reduceMul, Nat.reduceLeDiff, reduceCtorEq, c42, Try.ntmps42, s0, hne, s1, s2])
  rw [e0] at hy ⊢
  refine append_in (n := i) (b := 40) (by rw [hcl, h1]) hy hys (by rw [hcl, h2]) (cat_sca encIt_sca _) (by omega) (by omega) ?_
  have hN : i + (l.length - (i + 1)) = l.length - 1 := by omega
  have s3 := own_lohi (esz := 3) (id := id) (n := l.length - 1) (cap := cap) (k1 := .i64) (k2 := .i64) (a := l.length - 1) (b := l.length) (by omega) (by omega) hcap
  have hM : l.length - (l.length - 1) = 1 := by omega
  rw [hM] at s3
  rw [hN]
  simp only [go_sem, Int.reduceEq, Int.reduceAdd, Int.reduceSub, Int.reduceMul, Nat.reduceLT, Int.reduceLT, Int.reduceLE, Int.reduceToNat, Nat.reduceAdd, Nat.reduceSub, Nat.reduceMul, Nat.reduceLeDiff, reduceCtorEq, s3]
  have hj : (cat encIt (l.take i ++ l.drop (i + 1))).length = (l.length - 1) * 3 := by rw [hcl, List.length_append, h1, h2, hN]
  generalize hB : List.drop (cat encIt (l.drop (i + 1))).length (cat encIt (l.drop i) ++ junk) = B
  have hBl : 3 ≤ B.length := by
    rw [← hB, List.length_drop, List.length_append, hcl, hcl, h2, List.length_drop]
    omega
  refine ⟨_, _, upd_same, ?_, zrep_sca rfl _, ?_⟩
  · rw [← List.append_assoc, List.length_append, ← cat_append, hj]
    show (l.length - 1) * 3 + 1 * 3 ≤ _
    omega
  have hsp : splice (cat encIt (l.take i) ++ (cat encIt (l.drop (i + 1)) ++ B)) ((l.length - 1) * 3) (zrep [.int .i64 0, .int .i64 0, .nils] 1) = cat encIt (l.take i ++ l.drop (i + 1)) ++ (zrep [.int .i64 0, .int .i64 0, .nils] 1 ++ B.drop 3) := by
    have hz : (zrep [.int .i64 0, .int .i64 0, .nils] 1).length = 3 := rfl
    unfold splice
    rw [hz, ← List.append_assoc, ← cat_append, ← hj, List.take_left, List.drop_length_add_append, List.append_assoc]
  rw [hsp, upd_upd]
  simp only [go_sem, Int.reduceEq, Int.reduceAdd, Int.reduceSub, Int.reduceMul, Nat.reduceLT, Int.reduceLT, Int.reduceLE, Int.reduceToNat, Nat.reduceAdd, Nat.reduceSub, Nat.reduceMul, Nat.reduceLeDiff, reduceCtorEq]
  have hL : (l.take i ++ l.drop (i + 1)).length = l.length - 1 := by rw [List.length_append, h1, h2, hN]
  refine hQ _ _ _ _ _ _ (.inr rfl) rfl (FzH.refl _) (FzL.refl _ _ _) ⟨⟨hcl _, cat_sca encIt_sca _, .inr (.inr ⟨id, cap, zrep [.int .i64 0, .int .i64 0, .nils] 1 ++ B.drop 3, by rw [hL]; rfl, by omega, hid, rfl⟩)⟩, Wr.sl⟩


theorem qcopied_spec (x : It) (h : AHeap) (hn : x.b.length ≤ 1000000) : PureA Try.prog 67 [.agg (encIt x)] h (.agg (encIt x)) := by
  (refine PureA.enter (ac := c67) (rs := r67) Try.func67 rfl (by decide) c67_ok r67_ok ?_; intro Q hQ; simp only [go_sem, Int.reduceEq, Int.reduceAdd, Int.reduceSub, Int.reduceMul, Nat.reduceLT, Int.reduceLT, Int.reduceLE, Int.reduceToNat, Nat.reduceAdd, Nat.reduceSub, Nat.reduceMul, Nat.reduceLeDiff, reduceCtorEq, c67, Try.ntmps67, encIt])
  intro p hp q hq
  have hne : p ≠ q := by rintro rfl; rw [upd_same] at hq; cases hq
  have hp0 := hp
  simp only [go_sem, Int.reduceEq, Int.reduceAdd, Int.reduceSub, Int.reduceMul, Nat.reduceLT, Int.reduceLT, Int.reduceLE, Int.reduceToNat, Nat.reduceAdd, Nat.reduceSub, Nat.reduceMul, Nat.reduceLeDiff, reduceCtorEq, upd_ne hne]
  refine (bclone_spec x.b false _ hn).use ?_
  simp only [go_sem, Int.reduceEq, Int.reduceAdd, Int.reduceSub, Int.reduceMul, Nat.reduceLT, Int.reduceLT, Int.reduceLE, Int.reduceToNat, Nat.reduceAdd, Nat.reduceSub, Nat.reduceMul, Nat.reduceLeDiff, reduceCtorEq, upd_ne hne, upd_ne hne.symm]
  have hq0 : h q = none := by rw [upd_ne hne.symm] at hq; exact hq
  refine hQ _ _ _ _ _ (.inr rfl) (by first | rfl | (simp only [go_sem, Int.reduceEq, Int.reduceAdd, Int.reduceSub, Int.reduceMul, Nat.reduceLT, Int.reduceLT, Int.reduceLE, Int.reduceToNat, Nat.reduceAdd, Nat.reduceSub, Nat.reduceMul, Nat.reduceLeDiff, reduceCtorEq, r67, upd_ne hne, upd_ne hne.symm]; rfl) | simp only [go_sem, Int.reduceEq, Int.reduceAdd, Int.reduceSub, Int.reduceMul, Nat.reduceLT, Int.reduceLT, Int.reduceLE, Int.reduceToNat, Nat.reduceAdd, Nat.reduceSub, Nat.reduceMul, Nat.reduceLeDiff, reduceCtorEq, r67, upd_ne hne, upd_ne hne.symm]) (FzH.sub fun x o e => ?_) (FzL.refl _ _ _) rfl
  have x1 : x ≠ q := by rintro rfl; rw [hq0] at e; cases e
  have x2 : x ≠ p := by rintro rfl; rw [hp] at e; cases e
  rw [del_ne x1, upd_ne x2, upd_ne x1, upd_ne x2]; exact e

def chkI (x : It) : Int := if x.to < -1 ∨ 64 ≤ x.to ∨ (x.cl ≠ 0 ∧ x.cl ≠ 1) then 1 else if 1280 < x.b.length then 2 else 0

theorem qcheck_spec (x : It) (h : AHeap) : PureA Try.prog 39 [.agg (encIt x)] h (.int .i64 (chkI x)) := by
  (refine PureA.enter (ac := c39) (rs := r39) Try.func39 rfl (by decide) c39_ok r39_ok ?_; intro Q hQ; simp only [go_sem, Int.reduceEq, Int.reduceAdd, Int.reduceSub, Int.reduceMul, Nat.reduceLT, Int.reduceLT, Int.reduceLE, Int.reduceToNat, Nat.reduceAdd, Nat.reduceSub, Nat.reduceMul, Nat.reduceLeDiff, reduceCtorEq, c39, Try.ntmps39, encIt])
  by_cases g1 : x.to < -1
  · have b : chkI x = 1 := if_pos (.inl g1)
    simp only [go_sem, Int.reduceEq, Int.reduceAdd, Int.reduceSub, Int.reduceMul, Nat.reduceLT, Int.reduceLT, Int.reduceLE, Int.reduceToNat, Nat.reduceAdd, Nat.reduceSub, Nat.reduceMul, Nat.reduceLeDiff, reduceCtorEq, g1]
    (refine hQ _ _ _ _ _ (by first | exact .inr rfl | exact .inl rfl) rfl (by first | exact FzH.refl _ | exact FzH.sub (by (repeat' (first | exact Sub.refl _ | assumption | (refine Sub.upd ?_ (by first | assumption | (simp only [*]; done) | exact Sub.isNone (by assumption) (by assumption) | exact Sub.isNone (by assumption) (by simp only [*]))))))) (FzL.refl _ _ _) ?_; try (simp only [go_sem, Int.reduceEq, Int.reduceAdd, Int.reduceSub, Int.reduceMul, Nat.reduceLT, Int.reduceLT, Int.reduceLE, Int.reduceToNat, Nat.reduceAdd, Nat.reduceSub, Nat.reduceMul, Nat.reduceLeDiff, reduceCtorEq, b]))
  by_cases g2 : 64 ≤ x.to
  · have b : chkI x = 1 := if_pos (.inr (.inl g2))
    simp only [go_sem, Int.reduceEq, Int.reduceAdd, Int.reduceSub, Int.reduceMul, Nat.reduceLT, Int.reduceLT, Int.reduceLE, Int.reduceToNat, Nat.reduceAdd, Nat.reduceSub, Nat.reduceMul, Nat.reduceLeDiff, reduceCtorEq, g1, g2]
    (refine hQ _ _ _ _ _ (by first | exact .inr rfl | exact .inl rfl) rfl (by first | exact FzH.refl _ | exact FzH.sub (by (repeat' (first | exact Sub.refl _ | assumption | (refine Sub.upd ?_ (by first | assumption | (simp only [*]; done) | exact Sub.isNone (by assumption) (by assumption) | exact Sub.isNone (by assumption) (by simp only [*]))))))) (FzL.refl _ _ _) ?_; try (simp only [go_sem, Int.reduceEq, Int.reduceAdd, Int.reduceSub, Int.reduceMul, Nat.reduceLT, Int.reduceLT, Int.reduceLE, Int.reduceToNat, Nat.reduceAdd, Nat.reduceSub, Nat.reduceMul, Nat.reduceLeDiff, reduceCtorEq, b]))
  by_cases g3 : x.cl = 0
  · have b : chkI x = if 1280 < x.b.length then 2 else 0 := if_neg (by omega)
    by_cases g5 : 1280 < x.b.length
    · rw [if_pos g5] at b
      have g5' : decide ((1280 : Int) < (x.b.length : Int)) = true := decide_eq_true (by omega)
      simp only [go_sem, Int.reduceEq, Int.reduceAdd, Int.reduceSub, Int.reduceMul, Nat.reduceLT, Int.reduceLT, Int.reduceLE, Int.reduceToNat, Nat.reduceAdd, Nat.reduceSub, Nat.reduceMul, Nat.reduceLeDiff, reduceCtorEq, g1, g2, g3, g5']
      (refine hQ _ _ _ _ _ (by first | exact .inr rfl | exact .inl rfl) rfl (by first | exact FzH.refl _ | exact FzH.sub (by (repeat' (first | exact Sub.refl _ | assumption | (refine Sub.upd ?_ (by first | assumption | (simp only [*]; done) | exact Sub.isNone (by assumption) (by assumption) | exact Sub.isNone (by assumption) (by simp only [*]))))))) (FzL.refl _ _ _) ?_; try (simp only [go_sem, Int.reduceEq, Int.reduceAdd, Int.reduceSub, Int.reduceMul, Nat.reduceLT, Int.reduceLT, Int.reduceLE, Int.reduceToNat, Nat.reduceAdd, Nat.reduceSub, Nat.reduceMul, Nat.reduceLeDiff, reduceCtorEq, b]))
    · rw [if_neg g5] at b
      have g5' : decide ((1280 : Int) < (x.b.length : Int)) = false := decide_eq_false (by omega)
      simp only [go_sem, Int.reduceEq, Int.reduceAdd, Int.reduceSub, Int.reduceMul, Nat.reduceLT, Int.reduceLT, Int.reduceLE, Int.reduceToNat, Nat.reduceAdd, Nat.reduceSub, Nat.reduceMul, Nat.reduceLeDiff, reduceCtorEq, g1, g2, g3, g5']
      (refine hQ _ _ _ _ _ (by first | exact .inr rfl | exact .inl rfl) rfl (by first | exact FzH.refl _ | exact FzH.sub (by (repeat' (first | exact Sub.refl _ | assumption | (refine Sub.upd ?_ (by first | assumption | (simp only [*]; done) | exact Sub.isNone (by assumption) (by assumption) | exact Sub.isNone (by assumption) (by simp only [*]))))))) (FzL.refl _ _ _) ?_; try (simp only [go_sem, Int.reduceEq, Int.reduceAdd, Int.reduceSub, Int.reduceMul, Nat.reduceLT, Int.reduceLT, Int.reduceLE, Int.reduceToNat, Nat.reduceAdd, Nat.reduceSub, Nat.reduceMul, Nat.reduceLeDiff, reduceCtorEq, b]))
  by_cases g4 : x.cl = 1
  · have b : chkI x = if 1280 < x.b.length then 2 else 0 := if_neg (by omega)
    by_cases g5 : 1280 < x.b.length
    · rw [if_pos g5] at b
      have g5' : decide ((1280 : Int) < (x.b.length : Int)) = true := decide_eq_true (by omega)
      simp only [go_sem, Int.reduceEq, Int.reduceAdd, Int.reduceSub, Int.reduceMul, Nat.reduceLT, Int.reduceLT, Int.reduceLE, Int.reduceToNat, Nat.reduceAdd, Nat.reduceSub, Nat.reduceMul, Nat.reduceLeDiff, reduceCtorEq, g1, g2, g4, g5']
      (refine hQ _ _ _ _ _ (by first | exact .inr rfl | exact .inl rfl) rfl (by first | exact FzH.refl _ | exact FzH.sub (by (repeat' (first | exact Sub.refl _ | assumption | (refine Sub.upd ?_ (by first | assumption | (simp only [*]; done) | exact Sub.isNone (by assumption) (by assumption) | exact Sub.isNone (by assumption) (by simp only [*]))))))) (FzL.refl _ _ _) ?_; try (simp only [go_sem, Int.reduceEq, Int.reduceAdd, Int.reduceSub, Int.reduceMul, Nat.reduceLT, Int.reduceLT, Int.reduceLE, Int.reduceToNat, Nat.reduceAdd, Nat.reduceSub, Nat.reduceMul, Nat.reduceLeDiff, reduceCtorEq, b]))
    · rw [if_neg g5] at b
      have g5' : decide ((1280 : Int) < (x.b.length : Int)) = false := decide_eq_false (by omega)
      simp only [go_sem, Int.reduceEq, Int.reduceAdd, Int.reduceSub, Int.reduceMul, Nat.reduceLT, Int.reduceLT, Int.reduceLE, Int.reduceToNat, Nat.reduceAdd, Nat.reduceSub, Nat.reduceMul, Nat.reduceLeDiff, reduceCtorEq, g1, g2, g4, g5']
      (refine hQ _ _ _ _ _ (by first | exact .inr rfl | exact .inl rfl) rfl (by first | exact FzH.refl _ | exact FzH.sub (by (repeat' (first | exact Sub.refl _ | assumption | (refine Sub.upd ?_ (by first | assumption | (simp only [*]; done) | exact Sub.isNone (by assumption) (by assumption) | exact Sub.isNone (by assumption) (by simp only [*]))))))) (FzL.refl _ _ _) ?_; try (simp only [go_sem, Int.reduceEq, Int.reduceAdd, Int.reduceSub, Int.reduceMul, Nat.reduceLT, Int.reduceLT, Int.reduceLE, Int.reduceToNat, Nat.reduceAdd, Nat.reduceSub, Nat.reduceMul, Nat.reduceLeDiff, reduceCtorEq, b]))
  · have b : chkI x = 1 := if_pos (by omega)
    simp only [go_sem, Int.reduceEq, Int.reduceAdd, Int.reduceSub, Int.reduceMul, Nat.reduceLT, Int.reduceLT, Int.reduceLE, Int.reduceToNat, Nat.reduceAdd, Nat.reduceSub, Nat.reduceMul, Nat.reduceLeDiff, reduceCtorEq, g1, g2, g3, g4]
    (refine hQ _ _ _ _ _ (by first | exact .inr rfl | exact .inl rfl) rfl (by first | exact FzH.refl _ | exact FzH.sub (by (repeat' (first | exact Sub.refl _ | assumption | (refine Sub.upd ?_ (by first | assumption | (simp only [*]; done) | exact Sub.isNone (by assumption) (by assumption) | exact Sub.isNone (by assumption) (by simp only [*]))))))) (FzL.refl _ _ _) ?_; try (simp only [go_sem, Int.reduceEq, Int.reduceAdd, Int.reduceSub, Int.reduceMul, Nat.reduceLT, Int.reduceLT, Int.reduceLE, Int.reduceToNat, Nat.reduceAdd, Nat.reduceSub, Nat.reduceMul, Nat.reduceLeDiff, reduceCtorEq, b]))

theorem qnext1_spec (x : It) (h : AHeap) : PureA Try.prog 69 [.agg (encIt x)] h (.bool (decide (x.cl = 0))) := by
  (refine PureA.enter (ac := c69) (rs := r69) Try.func69 rfl (by decide) c69_ok r69_ok ?_; intro Q hQ; simp only [go_sem, Int.reduceEq, Int.reduceAdd, Int.reduceSub, Int.reduceMul, Nat.reduceLT, Int.reduceLT, Int.reduceLE, Int.reduceToNat, Nat.reduceAdd, Nat.reduceSub, Nat.reduceMul, Nat.reduceLeDiff, reduceCtorEq, c69, Try.ntmps69, encIt])
  (refine hQ _ _ _ _ _ (by first | exact .inr rfl | exact .inl rfl) rfl (by first | exact FzH.refl _ | exact FzH.sub (by (repeat' (first | exact Sub.refl _ | assumption | (refine Sub.upd ?_ (by first | assumption | (simp only [*]; done) | exact Sub.isNone (by assumption) (by assumption) | exact Sub.isNone (by assumption) (by simp only [*]))))))) (FzL.refl _ _ _) ?_; try (simp only [go_sem, Int.reduceEq, Int.reduceAdd, Int.reduceSub, Int.reduceMul, Nat.reduceLT, Int.reduceLT, Int.reduceLE, Int.reduceToNat, Nat.reduceAdd, Nat.reduceSub, Nat.reduceMul, Nat.reduceLeDiff, reduceCtorEq]))

/-- The queue at q; what is outside is h0. -/
def QIn (q : Nat) (n d : Int) (l : List It) (h0 H : AHeap) : Prop := ∃ v H0, Grow h0 3 v (cat encIt l) l.length H0 ∧ Wr v ∧ H0 q = none ∧ H = upd H0 q (.cells [.int .i64 d, .int .i64 n, v] 3)

theorem QIn.out {q : Nat} {n d : Int} {l : List It} {h0 H : AHeap} (i : QIn q n d l h0 H) : ∃ v, H q = some (.cells [.int .i64 d, .int .i64 n, v] 3) ∧ Grow (upd h0 q (.cells [.int .i64 d, .int .i64 n, v] 3)) 3 v (cat encIt l) l.length H ∧ Wr v ∧ h0 q = none := by
  obtain ⟨v, H0, g, w, hq, rfl⟩ := i
  exact ⟨v, upd_same, g.more hq, w, g.none hq⟩

theorem QIn.of {q : Nat} {n d : Int} {l : List It} {h0 H : AHeap} {v : AV} {c : AObj} (hq : h0 q = none) (g : Grow (upd h0 q c) 3 v (cat encIt l) l.length H) (w : Wr v) : QIn q n d l h0 (upd H q (.cells [.int .i64 d, .int .i64 n, v] 3)) := by
  obtain ⟨h2, g2, h2q, _, e⟩ := g.unpoke hq
  exact ⟨v, h2, g2, w, h2q, e _⟩

theorem QIn.sub {q : Nat} {n d : Int} {l : List It} {h0 H : AHeap} (i : QIn q n d l h0 H) : Sub h0 H := by
  obtain ⟨v, H0, g, w, hq, rfl⟩ := i
  exact g.sub.upd2 (g.none hq)

theorem QIn.more {q p : Nat} {n d : Int} {l : List It} {h0 H : AHeap} {c : AObj} (i : QIn q n d l h0 H) (hp : H p = none) : QIn q n d l (upd h0 p c) (upd H p c) := by
  obtain ⟨v, H0, g, w, hq, rfl⟩ := i
  have hpq : p ≠ q := by rintro rfl; rw [upd_same] at hp; cases hp
  have hp3 : H0 p = none := by rw [upd_ne hpq] at hp; exact hp
  exact ⟨v, upd H0 p c, g.more hp3, w, by rw [upd_ne hpq.symm]; exact hq, upd_comm hpq.symm⟩

theorem QIn.less {q p : Nat} {n d : Int} {l : List It} {h0 H : AHeap} {c : AObj} (i : QIn q n d l (upd h0 p c) H) (hp : h0 p = none) : ∃ H2, QIn q n d l h0 H2 ∧ H2 p = none ∧ H p = some c ∧ ∀ o, upd H p o = upd H2 p o := by
  obtain ⟨v, H0, g, w, hq, rfl⟩ := i
  have h1 := g.keep (x := p) upd_same
  have hpq : p ≠ q := by rintro rfl; rw [hq] at h1; cases h1
  obtain ⟨h2, g2, h2p, s, e⟩ := g.unpoke hp
  exact ⟨upd h2 q (.cells [.int .i64 d, .int .i64 n, v] 3), ⟨v, h2, g2, w, s.isNone hq, rfl⟩, by rw [upd_ne hpq]; exact h2p, by rw [upd_ne hpq]; exact h1, fun o => by rw [upd_comm hpq.symm, e, upd_comm hpq]⟩

theorem qdrop_spec {q : Nat} {n d : Int} {l : List It} {h0 H : AHeap} (i : QIn q n d l h0 H) (hd : 0 ≤ d) (hd2 : d ≤ 1099511627776) : CallsA Try.prog 65 [.ptr q 0] H (fun r H' => r = .tup [] ∧ QIn q n (min (d + 1) 1099511627776) l h0 H') := by
  obtain ⟨v, blk, g, w, hq⟩ := i.out
  have w1 := w64 (n := d + 1) (by omega) (by omega)
  (refine CallsA.enterR (ac := c65) (rs := r65) Try.func65 rfl (by decide) c65_ok r65_ok ?_; intro Q hQ; simp only [go_sem, Int.reduceEq, Int.reduceAdd, Int.reduceSub, Int.reduceMul, Nat.reduceLT, Int.reduceLT, Int.reduceLE, Int.reduceToNat, Nat.reduceAdd, Nat.reduceSub, Nat.reduceMul, Nat.reduceLeDiff, reduceCtorEq, c65, Try.ntmps65, blk, w1, if_min])
  refine hQ _ _ _ _ _ _ (.inl rfl) rfl (FzH.refl _) (FzL.refl _ _ _) ⟨rfl, ?_⟩
  have := QIn.of (d := min (d + 1) 1099511627776) (n := n) hq g w
  exact this

def lastI : List It → Int
  | [] => -1
  | x :: l => if 0 ≤ lastI l then lastI l + 1 else if x.cl = 1 then 0 else -1

theorem lastI_none {l : List It} (h : l.all (fun x => decide (x.cl ≠ 1)) = true) : lastI l = -1 := by
  induction l with
  | nil => rfl
  | cons x l ih =>
    simp only [List.all_cons, Bool.and_eq_true, decide_eq_true_eq] at h
    rw [lastI, ih h.2, if_neg (by omega), if_neg h.1]

theorem lastI_hit {l : List It} {k : Nat} (hk : k < l.length) (h : (l.drop (k + 1)).all (fun x => decide (x.cl ≠ 1)) = true) (e : l[k].cl = 1) : lastI l = k := by
  induction l generalizing k with
  | nil => simp at hk
  | cons x l ih =>
    cases k with
    | zero => rw [lastI, lastI_none (by simpa using h), if_neg (by omega), if_pos (by simpa using e)]; simp
    | succ k =>
      rw [lastI, ih (k := k) (by simpa using hk) (by simpa using h) (by simpa using e), if_pos (by omega)]; simp

theorem lastI_lt (l : List It) : lastI l < l.length ∧ -1 ≤ lastI l := by
  induction l with
  | nil => simp [lastI]
  | cons x l ih => simp only [lastI, List.length_cons]; (repeat' split) <;> omega

theorem lastI_at {l : List It} {k : Nat} (h : lastI l = k) : ∃ hk : k < l.length, l[k].cl = 1 := by
  induction l generalizing k with
  | nil => simp [lastI] at h
  | cons x l ih =>
    rw [lastI] at h
    split at h
    · rename_i g
      obtain ⟨j, rfl⟩ : ∃ j, k = j + 1 := ⟨k - 1, by omega⟩
      obtain ⟨h1, h2⟩ := ih (k := j) (by omega)
      exact ⟨by simpa using h1, by simpa using h2⟩
    · split at h
      · rename_i g2
        have : k = 0 := by omega
        subst this
        exact ⟨by simp, by simpa using g2⟩
      · omega

theorem qlast_spec {q : Nat} {n d : Int} {l : List It} {h0 H : AHeap} (i : QIn q n d l h0 H) (hn : l.length ≤ 1000000) : PureA Try.prog 66 [.ptr q 0] H (.int .i64 (lastI l)) := by
  obtain ⟨v, blk, g, w, hq⟩ := i.out
  have hlen := g.len
  have w1 := w64 (n := (l.length : Int) - 1) (by omega) (by omega)
  (refine PureA.enter (ac := c66) (rs := r66) Try.func66 rfl (by decide) c66_ok r66_ok ?_; intro Q hQ; simp only [go_sem, Int.reduceEq, Int.reduceAdd, Int.reduceSub, Int.reduceMul, Nat.reduceLT, Int.reduceLT, Int.reduceLE, Int.reduceToNat, Nat.reduceAdd, Nat.reduceSub, Nat.reduceMul, Nat.reduceLeDiff, reduceCtorEq, c66, Try.ntmps66, blk, hlen, w1])
  refine loop_st d66_0 (fun k : Nat => k) (fun k s => s.set 3 (.int .i64 ((k : Int) - 1))) (fun k H' => k ≤ l.length ∧ (l.drop k).all (fun x => decide (x.cl ≠ 1)) = true ∧ H' = H) l.length ?_ ⟨Nat.le_refl _, by simp, rfl⟩ ?_
  · (simp only [go_sem, Int.reduceEq, Int.reduceAdd, Int.reduceSub, Int.reduceMul, Nat.reduceLT, Int.reduceLT, Int.reduceLE, Int.reduceToNat, Nat.reduceAdd, Nat.reduceSub, Nat.reduceMul, Nat.reduceLeDiff, reduceCtorEq, d66_0] <;> rfl)
  rintro N k H' ⟨hk, hall, rfl⟩ hN
  simp only [go_sem, Int.reduceEq, Int.reduceAdd, Int.reduceSub, Int.reduceMul, Nat.reduceLT, Int.reduceLT, Int.reduceLE, Int.reduceToNat, Nat.reduceAdd, Nat.reduceSub, Nat.reduceMul, Nat.reduceLeDiff, reduceCtorEq, d66_0]
  cases k with
  | zero =>
    simp only [go_sem, Int.reduceEq, Int.reduceAdd, Int.reduceSub, Int.reduceMul, Nat.reduceLT, Int.reduceLT, Int.reduceLE, Int.reduceToNat, Nat.reduceAdd, Nat.reduceSub, Nat.reduceMul, Nat.reduceLeDiff, reduceCtorEq, show decide (0 ≤ ((0 : Nat) : Int) - 1) = false from rfl]
    refine frz_id ?_
    simp only [go_sem, Int.reduceEq, Int.reduceAdd, Int.reduceSub, Int.reduceMul, Nat.reduceLT, Int.reduceLT, Int.reduceLE, Int.reduceToNat, Nat.reduceAdd, Nat.reduceSub, Nat.reduceMul, Nat.reduceLeDiff, reduceCtorEq]
    (refine hQ _ _ _ _ _ (by first | exact .inr rfl | exact .inl rfl) rfl (by first | exact FzH.refl _ | exact FzH.sub (by (repeat' (first | exact Sub.refl _ | assumption | (refine Sub.upd ?_ (by first | assumption | (simp only [*]; done) | exact Sub.isNone (by assumption) (by assumption) | exact Sub.isNone (by assumption) (by simp only [*]))))))) (FzL.refl _ _ _) ?_; try (simp only [go_sem, Int.reduceEq, Int.reduceAdd, Int.reduceSub, Int.reduceMul, Nat.reduceLT, Int.reduceLT, Int.reduceLE, Int.reduceToNat, Nat.reduceAdd, Nat.reduceSub, Nat.reduceMul, Nat.reduceLeDiff, reduceCtorEq, lastI_none (by simpa using hall)]))
  | succ k =>
    have e1 : ((k + 1 : Nat) : Int) - 1 = (k : Int) := by omega
    have w2 := w64 (n := (k : Int) - 1) (by omega) (by omega)
    have hlt : k < l.length := by omega
    simp only [go_sem, Int.reduceEq, Int.reduceAdd, Int.reduceSub, Int.reduceMul, Nat.reduceLT, Int.reduceLT, Int.reduceLE, Int.reduceToNat, Nat.reduceAdd, Nat.reduceSub, Nat.reduceMul, Nat.reduceLeDiff, reduceCtorEq, e1, blk]
    refine g.at w encIt_len hlt fun id hp _ => ?_
    have h1 := hp 1 (by omega)
    have hd : (l.drop k).all (fun x => decide (x.cl ≠ 1)) = decide (l[k].cl ≠ 1) := by rw [List.drop_eq_getElem_cons hlt, List.all_cons, hall, Bool.and_true]
    simp only [go_sem, Int.reduceEq, Int.reduceAdd, Int.reduceSub, Int.reduceMul, Nat.reduceLT, Int.reduceLT, Int.reduceLE, Int.reduceToNat, Nat.reduceAdd, Nat.reduceSub, Nat.reduceMul, Nat.reduceLeDiff, reduceCtorEq, h1, encIt, show ([AV.int .i64 l[k].to, .int .i64 l[k].cl, .ro (cat b1 l[k].b) l[k].b.length false] : List AV)[1]? = some (.int .i64 l[k].cl) from rfl]
    by_cases g1 : l[k].cl = 1
    · simp only [go_sem, Int.reduceEq, Int.reduceAdd, Int.reduceSub, Int.reduceMul, Nat.reduceLT, Int.reduceLT, Int.reduceLE, Int.reduceToNat, Nat.reduceAdd, Nat.reduceSub, Nat.reduceMul, Nat.reduceLeDiff, reduceCtorEq, g1]
      (refine hQ _ _ _ _ _ (by first | exact .inr rfl | exact .inl rfl) rfl (by first | exact FzH.refl _ | exact FzH.sub (by (repeat' (first | exact Sub.refl _ | assumption | (refine Sub.upd ?_ (by first | assumption | (simp only [*]; done) | exact Sub.isNone (by assumption) (by assumption) | exact Sub.isNone (by assumption) (by simp only [*]))))))) (FzL.refl _ _ _) ?_; try (simp only [go_sem, Int.reduceEq, Int.reduceAdd, Int.reduceSub, Int.reduceMul, Nat.reduceLT, Int.reduceLT, Int.reduceLE, Int.reduceToNat, Nat.reduceAdd, Nat.reduceSub, Nat.reduceMul, Nat.reduceLeDiff, reduceCtorEq, lastI_hit hlt hall g1]))
    · simp only [go_sem, Int.reduceEq, Int.reduceAdd, Int.reduceSub, Int.reduceMul, Nat.reduceLT, Int.reduceLT, Int.reduceLE, Int.reduceToNat, Nat.reduceAdd, Nat.reduceSub, Nat.reduceMul, Nat.reduceLeDiff, reduceCtorEq, g1, w2]
      refine hN k _ _ (by omega) ?_ ⟨by omega, by rw [hd]; exact decide_eq_true g1, rfl⟩
      simp only [go_sem, Int.reduceEq, Int.reduceAdd, Int.reduceSub, Int.reduceMul, Nat.reduceLT, Int.reduceLT, Int.reduceLE, Int.reduceToNat, Nat.reduceAdd, Nat.reduceSub, Nat.reduceMul, Nat.reduceLeDiff, reduceCtorEq, d66_0]

def nextI (l : List It) : Int := if idxP (fun x => decide (x.cl = 0)) l < 0 ∧ 0 < l.length then 0 else idxP (fun x => decide (x.cl = 0)) l

theorem qnext_spec {q : Nat} {n d : Int} {l : List It} {h0 H : AHeap} (i : QIn q n d l h0 H) (hn : l.length ≤ 1000000) : PureA Try.prog 41 [.ptr q 0] H (.int .i64 (nextI l)) := by
  obtain ⟨v, blk, g, w, hq⟩ := i.out
  have hlen := g.len
  (refine PureA.enter (ac := c41) (rs := r41) Try.func41 rfl (by decide) c41_ok r41_ok ?_; intro Q hQ; simp only [go_sem, Int.reduceEq, Int.reduceAdd, Int.reduceSub, Int.reduceMul, Nat.reduceLT, Int.reduceLT, Int.reduceLE, Int.reduceToNat, Nat.reduceAdd, Nat.reduceSub, Nat.reduceMul, Nat.reduceLeDiff, reduceCtorEq, c41, Try.ntmps41, blk, hlen])
  refine (Q__idxg (fun x => decide (x.cl = 0)) l v _ H g 69 [] hn (fun x hx => qnext1_spec x _)).use ?_
  by_cases g1 : idxP (fun x => decide (x.cl = 0)) l < 0
  · by_cases g2 : 0 < l.length
    · have g2' : decide ((0 : Int) < (l.length : Int)) = true := decide_eq_true (by omega)
      have e : nextI l = 0 := if_pos ⟨g1, g2⟩
      simp only [go_sem, Int.reduceEq, Int.reduceAdd, Int.reduceSub, Int.reduceMul, Nat.reduceLT, Int.reduceLT, Int.reduceLE, Int.reduceToNat, Nat.reduceAdd, Nat.reduceSub, Nat.reduceMul, Nat.reduceLeDiff, reduceCtorEq, g1, blk, hlen, g2']
      (refine hQ _ _ _ _ _ (by first | exact .inr rfl | exact .inl rfl) rfl (by first | exact FzH.refl _ | exact FzH.sub (by (repeat' (first | exact Sub.refl _ | assumption | (refine Sub.upd ?_ (by first | assumption | (simp only [*]; done) | exact Sub.isNone (by assumption) (by assumption) | exact Sub.isNone (by assumption) (by simp only [*]))))))) (FzL.refl _ _ _) ?_; try (simp only [go_sem, Int.reduceEq, Int.reduceAdd, Int.reduceSub, Int.reduceMul, Nat.reduceLT, Int.reduceLT, Int.reduceLE, Int.reduceToNat, Nat.reduceAdd, Nat.reduceSub, Nat.reduceMul, Nat.reduceLeDiff, reduceCtorEq, e]))
    · have g2' : decide ((0 : Int) < (l.length : Int)) = false := decide_eq_false (by omega)
      have e : nextI l = idxP (fun x => decide (x.cl = 0)) l := if_neg (by omega)
      simp only [go_sem, Int.reduceEq, Int.reduceAdd, Int.reduceSub, Int.reduceMul, Nat.reduceLT, Int.reduceLT, Int.reduceLE, Int.reduceToNat, Nat.reduceAdd, Nat.reduceSub, Nat.reduceMul, Nat.reduceLeDiff, reduceCtorEq, g1, blk, hlen, g2']
      (refine hQ _ _ _ _ _ (by first | exact .inr rfl | exact .inl rfl) rfl (by first | exact FzH.refl _ | exact FzH.sub (by (repeat' (first | exact Sub.refl _ | assumption | (refine Sub.upd ?_ (by first | assumption | (simp only [*]; done) | exact Sub.isNone (by assumption) (by assumption) | exact Sub.isNone (by assumption) (by simp only [*]))))))) (FzL.refl _ _ _) ?_; try (simp only [go_sem, Int.reduceEq, Int.reduceAdd, Int.reduceSub, Int.reduceMul, Nat.reduceLT, Int.reduceLT, Int.reduceLE, Int.reduceToNat, Nat.reduceAdd, Nat.reduceSub, Nat.reduceMul, Nat.reduceLeDiff, reduceCtorEq, e]))
  · have e : nextI l = idxP (fun x => decide (x.cl = 0)) l := if_neg (by omega)
    simp only [go_sem, Int.reduceEq, Int.reduceAdd, Int.reduceSub, Int.reduceMul, Nat.reduceLT, Int.reduceLT, Int.reduceLE, Int.reduceToNat, Nat.reduceAdd, Nat.reduceSub, Nat.reduceMul, Nat.reduceLeDiff, reduceCtorEq, g1]
    (refine hQ _ _ _ _ _ (by first | exact .inr rfl | exact .inl rfl) rfl (by first | exact FzH.refl _ | exact FzH.sub (by (repeat' (first | exact Sub.refl _ | assumption | (refine Sub.upd ?_ (by first | assumption | (simp only [*]; done) | exact Sub.isNone (by assumption) (by assumption) | exact Sub.isNone (by assumption) (by simp only [*]))))))) (FzL.refl _ _ _) ?_; try (simp only [go_sem, Int.reduceEq, Int.reduceAdd, Int.reduceSub, Int.reduceMul, Nat.reduceLT, Int.reduceLT, Int.reduceLE, Int.reduceToNat, Nat.reduceAdd, Nat.reduceSub, Nat.reduceMul, Nat.reduceLeDiff, reduceCtorEq, e]))

theorem idxP_lt {α : Type} (p : α → Bool) (l : List α) : idxP p l < l.length ∧ -1 ≤ idxP p l := by
  unfold idxP
  cases e : l.findIdx? p with
  | none => simp; omega
  | some k =>
    obtain ⟨h1, _⟩ := List.findIdx?_eq_some_iff_getElem.1 e
    simp; omega

theorem nextI_lt (l : List It) : nextI l < l.length ∧ (nextI l < 0 ↔ l.length = 0) := by
  have := idxP_lt (fun x : It => decide (x.cl = 0)) l
  unfold nextI; split <;> omega

/-- One thrown out. -/
def cutI (l : List It) (i : Nat) : List It := l.take i ++ l.drop (i + 1)

def putQ (n : Int) (st : Int × List It) (x : It) : (Int × List It) × Bool :=
  if (st.2.length : Int) < n then ((st.1, st.2 ++ [x]), false)
  else if x.cl = 1 ∨ lastI st.2 < 0 then ((min (st.1 + 1) 1099511627776, st.2), true)
  else ((min (st.1 + 1) 1099511627776, cutI st.2 (lastI st.2).toNat ++ [x]), true)

theorem qput_spec {q : Nat} {n d : Int} {l : List It} {h0 H : AHeap} (i : QIn q n d l h0 H) (hn : l.length ≤ 100000) (hd : 0 ≤ d) (hd2 : d ≤ 1099511627776) (x : It) (hx : x.b.length ≤ 1000000) :
    CallsA Try.prog 40 [.ptr q 0, .agg (encIt x)] H (fun r H' => r = .bool (putQ n (d, l) x).2 ∧ QIn q n (putQ n (d, l) x).1.1 (putQ n (d, l) x).1.2 h0 H') := by
  obtain ⟨v, blk, g, w, hq⟩ := i.out
  have hlen := g.len
  have fin : ∀ {v2 : AV} {l2 : List It} {d2 : Int} {H2 : AHeap} (K : AV → AHeap → Prop), l2.length ≤ 100000 → Grow (upd h0 q (.cells [.int .i64 d2, .int .i64 n, v2] 3)) 3 v2 (cat encIt l2) l2.length H2 → Wr v2 →
      (∀ v' H3, cellsOf v' = some [v'] → scalar v' = true → H3 q = some (.cells [.int .i64 d2, .int .i64 n, v2] 3) → QIn q n d2 (l2 ++ [x]) h0 (upd H3 q (.cells [.int .i64 d2, .int .i64 n, v'] 3)) → K v' H3) → appendA H2 3 40 v2 (.ro (encIt x) 1 true) K := fun {v2 l2 d2 H2} K hl2 g2 w2 hK => by
    refine g2.add1W (x := encIt x) rfl rfl (by omega) fun v' H3 g3 w3 => hK v' H3 g3.box.1 g3.box.2 (g3.keep upd_same) ?_
    have e : cat encIt l2 ++ encIt x = cat encIt (l2 ++ [x]) := by rw [cat_append]; simp [cat]
    rw [e] at g3
    exact QIn.of hq (by rw [List.length_append]; exact g3) w3
  (refine CallsA.enterR (ac := c40) (rs := r40) Try.func40 rfl (by decide) c40_ok r40_ok ?_; intro Q hQ; simp only [go_sem, Int.reduceEq, Int.reduceAdd, Int.reduceSub, Int.reduceMul, Nat.reduceLT, Int.reduceLT, Int.reduceLE, Int.reduceToNat, Nat.reduceAdd, Nat.reduceSub, Nat.reduceMul, Nat.reduceLeDiff, reduceCtorEq, c40, Try.ntmps40, encIt, blk, hlen])
  by_cases gf : n ≤ (l.length : Int)
  · simp only [go_sem, Int.reduceEq, Int.reduceAdd, Int.reduceSub, Int.reduceMul, Nat.reduceLT, Int.reduceLT, Int.reduceLE, Int.reduceToNat, Nat.reduceAdd, Nat.reduceSub, Nat.reduceMul, Nat.reduceLeDiff, reduceCtorEq, gf]
    refine (qdrop_spec i hd hd2).use ?_
    rintro _ H2 ⟨rfl, i2⟩
    simp only [go_sem, Int.reduceEq, Int.reduceAdd, Int.reduceSub, Int.reduceMul, Nat.reduceLT, Int.reduceLT, Int.reduceLE, Int.reduceToNat, Nat.reduceAdd, Nat.reduceSub, Nat.reduceMul, Nat.reduceLeDiff, reduceCtorEq]
    refine (qlast_spec i2 (by omega)).use ?_
    by_cases g1 : x.cl = 1
    · have e : putQ n (d, l) x = ((min (d + 1) 1099511627776, l), true) := by unfold putQ; rw [if_neg (by simp; omega), if_pos (.inl g1)]
      rw [e] at hQ
      simp only [go_sem, Int.reduceEq, Int.reduceAdd, Int.reduceSub, Int.reduceMul, Nat.reduceLT, Int.reduceLT, Int.reduceLE, Int.reduceToNat, Nat.reduceAdd, Nat.reduceSub, Nat.reduceMul, Nat.reduceLeDiff, reduceCtorEq, g1]
      refine hQ _ _ _ _ _ _ (.inr rfl) rfl (FzH.refl _) (FzL.refl _ _ _) ⟨rfl, i2⟩
    by_cases g2 : lastI l < 0
    · have e : putQ n (d, l) x = ((min (d + 1) 1099511627776, l), true) := by unfold putQ; rw [if_neg (by simp; omega), if_pos (.inr g2)]
      rw [e] at hQ
      simp only [go_sem, Int.reduceEq, Int.reduceAdd, Int.reduceSub, Int.reduceMul, Nat.reduceLT, Int.reduceLT, Int.reduceLE, Int.reduceToNat, Nat.reduceAdd, Nat.reduceSub, Nat.reduceMul, Nat.reduceLeDiff, reduceCtorEq, g1, g2]
      refine hQ _ _ _ _ _ _ (.inr rfl) rfl (FzH.refl _) (FzL.refl _ _ _) ⟨rfl, i2⟩
    · have e : putQ n (d, l) x = ((min (d + 1) 1099511627776, cutI l (lastI l).toNat ++ [x]), true) := by unfold putQ; rw [if_neg (by simp; omega), if_neg (by simp; omega)]
      rw [e] at hQ
      obtain ⟨k, hk⟩ : ∃ k : Nat, lastI l = (k : Int) := ⟨(lastI l).toNat, by omega⟩
      have hk2 := (lastI_lt l).1
      rw [hk] at hk2 hQ g2 ⊢
      obtain ⟨v2, blk2, gr2, w2, _⟩ := i2.out
      have hadd := wadd1 (k := k) (by omega)
      simp only [go_sem, Int.reduceEq, Int.reduceAdd, Int.reduceSub, Int.reduceMul, Nat.reduceLT, Int.reduceLT, Int.reduceLE, Int.reduceToNat, Nat.reduceAdd, Nat.reduceSub, Nat.reduceMul, Nat.reduceLeDiff, reduceCtorEq, g1, g2, blk2, hadd]
      refine (Q__dele l v2 _ _ gr2 w2 k (by omega) (by omega)).use ?_
      rintro v3 H3 ⟨gr3, w3⟩
      have hb := gr3.box
      have i3 := QIn.of (q := q) (n := n) (d := min (d + 1) 1099511627776) (l := cutI l k) hq gr3 w3
      have hcl : (cutI l k).length ≤ 100000 := by unfold cutI; rw [List.length_append, List.length_take, List.length_drop]; omega
      obtain ⟨v4, blk4, gr4, w4, _⟩ := i3.out
      have hv : v4 = v3 := by
        rw [upd_same] at blk4
        injection blk4 with e; injection e with e _; injection e with _ e; injection e with _ e; injection e with e _; exact e.symm
      subst hv
      simp only [go_sem, Int.reduceEq, Int.reduceAdd, Int.reduceSub, Int.reduceMul, Nat.reduceLT, Int.reduceLT, Int.reduceLE, Int.reduceToNat, Nat.reduceAdd, Nat.reduceSub, Nat.reduceMul, Nat.reduceLeDiff, reduceCtorEq, gr3.keep upd_same, hb.1, hb.2]
      refine (qcopied_spec x _ hx).use ?_
      simp only [go_sem, Int.reduceEq, Int.reduceAdd, Int.reduceSub, Int.reduceMul, Nat.reduceLT, Int.reduceLT, Int.reduceLE, Int.reduceToNat, Nat.reduceAdd, Nat.reduceSub, Nat.reduceMul, Nat.reduceLeDiff, reduceCtorEq, encIt]
      refine fin _ hcl gr4 w4 fun v' H5 k1 k2 k3 k4 => ?_
      simp only [go_sem, Int.reduceEq, Int.reduceAdd, Int.reduceSub, Int.reduceMul, Nat.reduceLT, Int.reduceLT, Int.reduceLE, Int.reduceToNat, Nat.reduceAdd, Nat.reduceSub, Nat.reduceMul, Nat.reduceLeDiff, reduceCtorEq, k1, k2, k3]
      refine hQ _ _ _ _ _ _ (.inr rfl) rfl (FzH.refl _) (FzL.refl _ _ _) ⟨rfl, k4⟩
  · have e : putQ n (d, l) x = ((d, l ++ [x]), false) := by unfold putQ; rw [if_pos (by simp; omega)]
    rw [e] at hQ
    simp only [go_sem, Int.reduceEq, Int.reduceAdd, Int.reduceSub, Int.reduceMul, Nat.reduceLT, Int.reduceLT, Int.reduceLE, Int.reduceToNat, Nat.reduceAdd, Nat.reduceSub, Nat.reduceMul, Nat.reduceLeDiff, reduceCtorEq, gf, blk]
    refine (qcopied_spec x _ hx).use ?_
    simp only [go_sem, Int.reduceEq, Int.reduceAdd, Int.reduceSub, Int.reduceMul, Nat.reduceLT, Int.reduceLT, Int.reduceLE, Int.reduceToNat, Nat.reduceAdd, Nat.reduceSub, Nat.reduceMul, Nat.reduceLeDiff, reduceCtorEq, blk, encIt]
    refine fin _ hn g w fun v' H5 k1 k2 k3 k4 => ?_
    simp only [go_sem, Int.reduceEq, Int.reduceAdd, Int.reduceSub, Int.reduceMul, Nat.reduceLT, Int.reduceLT, Int.reduceLE, Int.reduceToNat, Nat.reduceAdd, Nat.reduceSub, Nat.reduceMul, Nat.reduceLeDiff, reduceCtorEq, k1, k2, k3]
    refine hQ _ _ _ _ _ _ (.inr rfl) rfl (FzH.refl _) (FzL.refl _ _ _) ⟨rfl, k4⟩

theorem qTake_spec {q : Nat} {n d : Int} {l : List It} {h0 H : AHeap} (i : QIn q n d l h0 H) (hn : l.length ≤ 100000) :
    CallsA Try.prog 9 [.ptr q 0] H (fun r H' => (l = [] ∧ r = .tup [.agg [.int .i64 0, .int .i64 0, .nils], .int .i64 4] ∧ QIn q n d l h0 H') ∨ ∃ (k : Nat) (hk : k < l.length), nextI l = k ∧ r = .tup [.agg (encIt l[k]), .int .i64 0] ∧ QIn q n d (cutI l k) h0 H') := by
  obtain ⟨v, blk, g, w, hq⟩ := i.out
  have hlen := g.len
  (refine CallsA.enterR (ac := c9) (rs := r9) Try.func9 rfl (by decide) c9_ok r9_ok ?_; intro Q hQ; simp only [go_sem, Int.reduceEq, Int.reduceAdd, Int.reduceSub, Int.reduceMul, Nat.reduceLT, Int.reduceLT, Int.reduceLE, Int.reduceToNat, Nat.reduceAdd, Nat.reduceSub, Nat.reduceMul, Nat.reduceLeDiff, reduceCtorEq, c9, Try.ntmps9, blk, hlen])
  intro p hp
  have hpq : p ≠ q := by rintro rfl; rw [blk] at hp; cases hp
  have i1 := QIn.more (c := .cells [.int .i64 0, .int .i64 0, .nils] 3) i hp
  refine (qnext_spec i1 (by omega)).use ?_
  obtain ⟨n1, n2⟩ := nextI_lt l
  have hp0 : h0 p = none := i.sub.isNone hp
  by_cases g1 : nextI l < 0
  · have hl : l = [] := List.length_eq_zero_iff.1 (n2.1 g1)
    simp only [go_sem, Int.reduceEq, Int.reduceAdd, Int.reduceSub, Int.reduceMul, Nat.reduceLT, Int.reduceLT, Int.reduceLE, Int.reduceToNat, Nat.reduceAdd, Nat.reduceSub, Nat.reduceMul, Nat.reduceLeDiff, reduceCtorEq, g1, upd_same]
    refine hQ _ _ _ _ _ _ (.inr rfl) (by first | rfl | (simp only [go_sem, Int.reduceEq, Int.reduceAdd, Int.reduceSub, Int.reduceMul, Nat.reduceLT, Int.reduceLT, Int.reduceLE, Int.reduceToNat, Nat.reduceAdd, Nat.reduceSub, Nat.reduceMul, Nat.reduceLeDiff, reduceCtorEq, r9]; rfl) | simp only [go_sem, Int.reduceEq, Int.reduceAdd, Int.reduceSub, Int.reduceMul, Nat.reduceLT, Int.reduceLT, Int.reduceLE, Int.reduceToNat, Nat.reduceAdd, Nat.reduceSub, Nat.reduceMul, Nat.reduceLeDiff, reduceCtorEq, r9]) (FzH.sub (Sub.upd (Sub.refl _) hp)) (FzL.refl _ _ _) (.inl ⟨hl, rfl, i⟩)
  · obtain ⟨k, hk⟩ : ∃ k : Nat, nextI l = (k : Int) := ⟨(nextI l).toNat, by omega⟩
    rw [hk] at n1 ⊢
    have hk2 : k < l.length := by omega
    obtain ⟨v1, blk1, gr1, w1, hq1⟩ := i1.out
    have hneg : decide ((k : Int) < 0) = false := decide_eq_false (by omega)
    simp only [go_sem, Int.reduceEq, Int.reduceAdd, Int.reduceSub, Int.reduceMul, Nat.reduceLT, Int.reduceLT, Int.reduceLE, Int.reduceToNat, Nat.reduceAdd, Nat.reduceSub, Nat.reduceMul, Nat.reduceLeDiff, reduceCtorEq, hneg, blk1]
    refine gr1.at w1 encIt_len hk2 fun id _ hrd => ?_
    simp only [go_sem, Int.reduceEq, Int.reduceAdd, Int.reduceSub, Int.reduceMul, Nat.reduceLT, Int.reduceLT, Int.reduceLE, Int.reduceToNat, Nat.reduceAdd, Nat.reduceSub, Nat.reduceMul, Nat.reduceLeDiff, reduceCtorEq, hrd, encIt_len, encIt_sca]
    intro p5 hp5
    have hadd := wadd1 (k := k) (by omega)
    simp only [go_sem, Int.reduceEq, Int.reduceAdd, Int.reduceSub, Int.reduceMul, Nat.reduceLT, Int.reduceLT, Int.reduceLE, Int.reduceToNat, Nat.reduceAdd, Nat.reduceSub, Nat.reduceMul, Nat.reduceLeDiff, reduceCtorEq, blk1, del_none hp5, del_same, hadd, encIt_len]
    refine (Q__dele l v1 _ _ gr1 w1 k hk2 (by omega)).use ?_
    rintro v3 H3 ⟨gr3, w3⟩
    have hb := gr3.box
    have i3 := QIn.of (q := q) (n := n) (d := d) (l := cutI l k) hq1 gr3 w3
    obtain ⟨H4, i4, i4p, i4q, e4⟩ := i3.less hp0
    have htk : List.take 3 (encIt l[k]) = encIt l[k] := rfl
    simp only [go_sem, Int.reduceEq, Int.reduceAdd, Int.reduceSub, Int.reduceMul, Nat.reduceLT, Int.reduceLT, Int.reduceLE, Int.reduceToNat, Nat.reduceAdd, Nat.reduceSub, Nat.reduceMul, Nat.reduceLeDiff, reduceCtorEq, gr3.keep upd_same, hb.1, hb.2, htk, i4q, encIt_len, encIt_sca, Nat.le_refl]
    rw [e4]
    refine hQ _ _ _ _ _ _ (.inr rfl) (by first | rfl | (simp only [go_sem, Int.reduceEq, Int.reduceAdd, Int.reduceSub, Int.reduceMul, Nat.reduceLT, Int.reduceLT, Int.reduceLE, Int.reduceToNat, Nat.reduceAdd, Nat.reduceSub, Nat.reduceMul, Nat.reduceLeDiff, reduceCtorEq, r9, encIt_len, Nat.le_refl, htk]; rfl) | simp only [go_sem, Int.reduceEq, Int.reduceAdd, Int.reduceSub, Int.reduceMul, Nat.reduceLT, Int.reduceLT, Int.reduceLE, Int.reduceToNat, Nat.reduceAdd, Nat.reduceSub, Nat.reduceMul, Nat.reduceLeDiff, reduceCtorEq, r9, encIt_len, Nat.le_refl, htk]) (FzH.sub (Sub.upd (Sub.refl _) i4p)) (FzL.refl _ _ _) (.inr ⟨k, hk2, hk, rfl, i4⟩)

def errI : List It → Int
  | [] => 0
  | x :: l => if chkI x = 0 then errI l else chkI x

def stepQ (n : Int) (st : (Int × List It) × Nat) (x : It) : (Int × List It) × Nat := ((putQ n st.1 x).1, st.2 + if (putQ n st.1 x).2 then 1 else 0)
def runQ (n : Int) (st : Int × List It) (xs : List It) : (Int × List It) × Nat := xs.foldl (stepQ n) (st, 0)

theorem putQ_ok {n : Int} {st : Int × List It} {x : It} (h1 : 0 ≤ st.1) (h2 : st.1 ≤ 1099511627776) : 0 ≤ (putQ n st x).1.1 ∧ (putQ n st x).1.1 ≤ 1099511627776 ∧ (putQ n st x).1.2.length ≤ st.2.length + 1 := by
  unfold putQ cutI
  (repeat' split) <;> simp <;> omega

theorem runQ_snoc {n : Int} {st : Int × List It} {xs : List It} {k : Nat} (hk : k < xs.length) : runQ n st (xs.take (k + 1)) = stepQ n (runQ n st (xs.take k)) xs[k] := by
  unfold runQ
  rw [List.take_succ_eq_append_getElem hk, List.foldl_append]; rfl

theorem runQ_ok {n : Int} {st : Int × List It} (h1 : 0 ≤ st.1) (h2 : st.1 ≤ 1099511627776) (xs : List It) : 0 ≤ (runQ n st xs).1.1 ∧ (runQ n st xs).1.1 ≤ 1099511627776 ∧ (runQ n st xs).1.2.length ≤ st.2.length + xs.length ∧ (runQ n st xs).2 ≤ xs.length := by
  induction xs using snocI with
  | h0 => simp [runQ]; omega
  | h1 xs x ih =>
    have e : runQ n st (xs ++ [x]) = stepQ n (runQ n st xs) x := by unfold runQ; rw [List.foldl_append]; rfl
    have := putQ_ok (n := n) (x := x) ih.1 ih.2.1
    rw [e]; unfold stepQ
    simp only [List.length_append, List.length_cons, List.length_nil]
    refine ⟨this.1, this.2.1, by omega, ?_⟩
    split <;> omega

theorem qPut_spec {q : Nat} {n d : Int} {l : List It} {h0 H : AHeap} (i : QIn q n d l h0 H) (hd : 0 ≤ d) (hd2 : d ≤ 1099511627776) (xs : List It) (ex : Bool) (hn : l.length + xs.length ≤ 100000) (hx : ∀ x ∈ xs, x.b.length ≤ 1000000) (he : errI xs = 0) :
    CallsA Try.prog 8 [.ptr q 0, .ro (cat encIt xs) xs.length ex] H (fun r H' => r = .tup [.int .i64 ((runQ n (d, l) xs).2 : Int), .int .i64 0] ∧ QIn q n (runQ n (d, l) xs).1.1 (runQ n (d, l) xs).1.2 h0 H') := by
  (refine CallsA.enterR (ac := c8) (rs := r8) Try.func8 rfl (by decide) c8_ok r8_ok ?_; intro Q hQ; simp only [go_sem, Int.reduceEq, Int.reduceAdd, Int.reduceSub, Int.reduceMul, Nat.reduceLT, Int.reduceLT, Int.reduceLE, Int.reduceToNat, Nat.reduceAdd, Nat.reduceSub, Nat.reduceMul, Nat.reduceLeDiff, reduceCtorEq, c8, Try.ntmps8])
  refine loop_st d8_0 (fun k : Nat => xs.length - k) (fun k s => s.set 16 (.int .i64 (k : Int))) (fun k H' => k ≤ xs.length ∧ errI (xs.drop k) = 0 ∧ H' = H) 0 ?_ ⟨Nat.zero_le _, by simpa using he, rfl⟩ ?_
  · (simp only [go_sem, Int.reduceEq, Int.reduceAdd, Int.reduceSub, Int.reduceMul, Nat.reduceLT, Int.reduceLT, Int.reduceLE, Int.reduceToNat, Nat.reduceAdd, Nat.reduceSub, Nat.reduceMul, Nat.reduceLeDiff, reduceCtorEq, d8_0] <;> rfl)
  rintro N k H' ⟨hk, hall, rfl⟩ hN
  simp only [go_sem, Int.reduceEq, Int.reduceAdd, Int.reduceSub, Int.reduceMul, Nat.reduceLT, Int.reduceLT, Int.reduceLE, Int.reduceToNat, Nat.reduceAdd, Nat.reduceSub, Nat.reduceMul, Nat.reduceLeDiff, reduceCtorEq, d8_0]
  have hadd := wadd1 (k := k) (by omega)
  by_cases hlt : k < xs.length
  · rw [List.drop_eq_getElem_cons hlt, errI] at hall
    have hc : chkI xs[k] = 0 := by
      by_cases hc : chkI xs[k] = 0
      · exact hc
      · rw [if_neg hc] at hall; exact hall
    rw [if_pos hc] at hall
    simp only [go_sem, Int.reduceEq, Int.reduceAdd, Int.reduceSub, Int.reduceMul, Nat.reduceLT, Int.reduceLT, Int.reduceLE, Int.reduceToNat, Nat.reduceAdd, Nat.reduceSub, Nat.reduceMul, Nat.reduceLeDiff, reduceCtorEq, hlt, rd_all encIt_len hlt, encIt_len, encIt_sca]
    intro p hp
    simp only [go_sem, Int.reduceEq, Int.reduceAdd, Int.reduceSub, Int.reduceMul, Nat.reduceLT, Int.reduceLT, Int.reduceLE, Int.reduceToNat, Nat.reduceAdd, Nat.reduceSub, Nat.reduceMul, Nat.reduceLeDiff, reduceCtorEq, del_same, del_none hp, encIt_len]
    refine (qcheck_spec xs[k] _).use ?_
    simp only [go_sem, Int.reduceEq, Int.reduceAdd, Int.reduceSub, Int.reduceMul, Nat.reduceLT, Int.reduceLT, Int.reduceLE, Int.reduceToNat, Nat.reduceAdd, Nat.reduceSub, Nat.reduceMul, Nat.reduceLeDiff, reduceCtorEq, hc, hadd, del_none hp]
    refine hN (k + 1) _ _ (by omega) ?_ ⟨hlt, hall, rfl⟩
    simp only [go_sem, Int.reduceEq, Int.reduceAdd, Int.reduceSub, Int.reduceMul, Nat.reduceLT, Int.reduceLT, Int.reduceLE, Int.reduceToNat, Nat.reduceAdd, Nat.reduceSub, Nat.reduceMul, Nat.reduceLeDiff, reduceCtorEq, d8_0]
  · simp only [go_sem, Int.reduceEq, Int.reduceAdd, Int.reduceSub, Int.reduceMul, Nat.reduceLT, Int.reduceLT, Int.reduceLE, Int.reduceToNat, Nat.reduceAdd, Nat.reduceSub, Nat.reduceMul, Nat.reduceLeDiff, reduceCtorEq, hlt]
    refine frz_id ?_
    simp only [go_sem, Int.reduceEq, Int.reduceAdd, Int.reduceSub, Int.reduceMul, Nat.reduceLT, Int.reduceLT, Int.reduceLE, Int.reduceToNat, Nat.reduceAdd, Nat.reduceSub, Nat.reduceMul, Nat.reduceLeDiff, reduceCtorEq]
    refine loop_st d8_1 (fun k : Nat => xs.length - k) (fun k s => (s.set 28 (.int .i64 (k : Int))).set 9 (.int .i64 ((runQ n (d, l) (xs.take k)).2 : Int))) (fun k H' => k ≤ xs.length ∧ QIn q n (runQ n (d, l) (xs.take k)).1.1 (runQ n (d, l) (xs.take k)).1.2 h0 H') 0 ?_ ⟨Nat.zero_le _, i⟩ ?_
    · (simp only [go_sem, Int.reduceEq, Int.reduceAdd, Int.reduceSub, Int.reduceMul, Nat.reduceLT, Int.reduceLT, Int.reduceLE, Int.reduceToNat, Nat.reduceAdd, Nat.reduceSub, Nat.reduceMul, Nat.reduceLeDiff, reduceCtorEq, d8_1] <;> rfl)
    rintro N k H2 ⟨hk, i2⟩ hN
    simp only [go_sem, Int.reduceEq, Int.reduceAdd, Int.reduceSub, Int.reduceMul, Nat.reduceLT, Int.reduceLT, Int.reduceLE, Int.reduceToNat, Nat.reduceAdd, Nat.reduceSub, Nat.reduceMul, Nat.reduceLeDiff, reduceCtorEq, d8_1]
    have hadd := wadd1 (k := k) (by omega)
    have ok := runQ_ok (n := n) (st := (d, l)) hd hd2 (xs.take k)
    rw [List.length_take] at ok
    simp only at ok
    by_cases hlt : k < xs.length
    · have hsn := runQ_snoc (n := n) (st := (d, l)) hlt
      generalize hR : runQ n (d, l) (xs.take k) = R at *
      simp only [go_sem, Int.reduceEq, Int.reduceAdd, Int.reduceSub, Int.reduceMul, Nat.reduceLT, Int.reduceLT, Int.reduceLE, Int.reduceToNat, Nat.reduceAdd, Nat.reduceSub, Nat.reduceMul, Nat.reduceLeDiff, reduceCtorEq, hlt, rd_all encIt_len hlt, encIt_len, encIt_sca]
      intro p hp
      simp only [go_sem, Int.reduceEq, Int.reduceAdd, Int.reduceSub, Int.reduceMul, Nat.reduceLT, Int.reduceLT, Int.reduceLE, Int.reduceToNat, Nat.reduceAdd, Nat.reduceSub, Nat.reduceMul, Nat.reduceLeDiff, reduceCtorEq, del_same, del_none hp, encIt_len]
      refine (qput_spec i2 (by omega) ok.1 ok.2.1 xs[k] (hx _ (List.getElem_mem hlt))).use ?_
      rintro _ H3 ⟨rfl, i3⟩
      have hadd2 := wadd1 (k := R.2) (by omega)
      unfold stepQ at hsn
      cases hb : (putQ n R.1 xs[k]).2
      · rw [hb] at hsn
        simp only [go_sem, Int.reduceEq, Int.reduceAdd, Int.reduceSub, Int.reduceMul, Nat.reduceLT, Int.reduceLT, Int.reduceLE, Int.reduceToNat, Nat.reduceAdd, Nat.reduceSub, Nat.reduceMul, Nat.reduceLeDiff, reduceCtorEq, hadd]
        refine hN (k + 1) _ _ (by omega) ?_ ⟨hlt, by rw [hsn]; exact i3⟩
        simp only [go_sem, Int.reduceEq, Int.reduceAdd, Int.reduceSub, Int.reduceMul, Nat.reduceLT, Int.reduceLT, Int.reduceLE, Int.reduceToNat, Nat.reduceAdd, Nat.reduceSub, Nat.reduceMul, Nat.reduceLeDiff, reduceCtorEq, d8_1, hsn, Nat.add_zero]
      · rw [hb] at hsn
        simp only [go_sem, Int.reduceEq, Int.reduceAdd, Int.reduceSub, Int.reduceMul, Nat.reduceLT, Int.reduceLT, Int.reduceLE, Int.reduceToNat, Nat.reduceAdd, Nat.reduceSub, Nat.reduceMul, Nat.reduceLeDiff, reduceCtorEq, hadd, hadd2]
        refine hN (k + 1) _ _ (by omega) ?_ ⟨hlt, by rw [hsn]; exact i3⟩
        simp only [go_sem, Int.reduceEq, Int.reduceAdd, Int.reduceSub, Int.reduceMul, Nat.reduceLT, Int.reduceLT, Int.reduceLE, Int.reduceToNat, Nat.reduceAdd, Nat.reduceSub, Nat.reduceMul, Nat.reduceLeDiff, reduceCtorEq, d8_1, hsn]
    · have hkl : k = xs.length := by omega
      subst hkl
      rw [List.take_length] at *
      simp only [go_sem, Int.reduceEq, Int.reduceAdd, Int.reduceSub, Int.reduceMul, Nat.reduceLT, Int.reduceLT, Int.reduceLE, Int.reduceToNat, Nat.reduceAdd, Nat.reduceSub, Nat.reduceMul, Nat.reduceLeDiff, reduceCtorEq, hlt]
      refine frz_id ?_
      simp only [go_sem, Int.reduceEq, Int.reduceAdd, Int.reduceSub, Int.reduceMul, Nat.reduceLT, Int.reduceLT, Int.reduceLE, Int.reduceToNat, Nat.reduceAdd, Nat.reduceSub, Nat.reduceMul, Nat.reduceLeDiff, reduceCtorEq]
      refine hQ _ _ _ _ _ _ (.inr rfl) rfl (FzH.refl _) (FzL.refl _ _ _) ⟨rfl, i2⟩

theorem qdropped_spec {q : Nat} {n d : Int} {l : List It} {h0 H : AHeap} (i : QIn q n d l h0 H) : PureA Try.prog 11 [.ptr q 0] H (.int .i64 d) := by
  obtain ⟨v, blk, g, w, hq⟩ := i.out
  (refine PureA.enter (ac := c11) (rs := r11) Try.func11 rfl (by decide) c11_ok r11_ok ?_; intro Q hQ; simp only [go_sem, Int.reduceEq, Int.reduceAdd, Int.reduceSub, Int.reduceMul, Nat.reduceLT, Int.reduceLT, Int.reduceLE, Int.reduceToNat, Nat.reduceAdd, Nat.reduceSub, Nat.reduceMul, Nat.reduceLeDiff, reduceCtorEq, c11, Try.ntmps11, blk])
  (refine hQ _ _ _ _ _ (by first | exact .inr rfl | exact .inl rfl) rfl (by first | exact FzH.refl _ | exact FzH.sub (by (repeat' (first | exact Sub.refl _ | assumption | (refine Sub.upd ?_ (by first | assumption | (simp only [*]; done) | exact Sub.isNone (by assumption) (by assumption) | exact Sub.isNone (by assumption) (by simp only [*]))))))) (FzL.refl _ _ _) ?_; try (simp only [go_sem, Int.reduceEq, Int.reduceAdd, Int.reduceSub, Int.reduceMul, Nat.reduceLT, Int.reduceLT, Int.reduceLE, Int.reduceToNat, Nat.reduceAdd, Nat.reduceSub, Nat.reduceMul, Nat.reduceLeDiff, reduceCtorEq]))

theorem qnew_spec (n : Int) (h1 : 1 ≤ n) (h2 : n ≤ 8) (h : AHeap) : CallsA Try.prog 7 [.int .i64 n] h (fun r H => ∃ q, r = .tup [.ptr q 0, .int .i64 0] ∧ QIn q n 0 [] h H) := by
  have g1 : ¬ n < 1 := by omega
  have g2 : ¬ 8 < n := by omega
  (refine CallsA.enterR (ac := c7) (rs := r7) Try.func7 rfl (by decide) c7_ok r7_ok ?_; intro Q hQ; simp only [go_sem, Int.reduceEq, Int.reduceAdd, Int.reduceSub, Int.reduceMul, Nat.reduceLT, Int.reduceLT, Int.reduceLE, Int.reduceToNat, Nat.reduceAdd, Nat.reduceSub, Nat.reduceMul, Nat.reduceLeDiff, reduceCtorEq, c7, Try.ntmps7])
  simp only [go_sem, Int.reduceEq, Int.reduceAdd, Int.reduceSub, Int.reduceMul, Nat.reduceLT, Int.reduceLT, Int.reduceLE, Int.reduceToNat, Nat.reduceAdd, Nat.reduceSub, Nat.reduceMul, Nat.reduceLeDiff, reduceCtorEq, g1, g2]
  intro q hq
  refine hQ _ _ _ _ _ _ (.inr rfl) rfl (FzH.refl _) (FzL.refl _ _ _) ⟨q, rfl, .nils, h, Grow.nil, Wr.nils, hq, rfl⟩
end Go.Proofs.Ytfgapneenpdnoaa
