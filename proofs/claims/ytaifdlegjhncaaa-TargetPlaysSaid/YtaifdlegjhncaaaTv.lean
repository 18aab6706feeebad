/-
  Targets: Forget, Expire, Lose, Clear.
-/
import Derived.Test.YtaifdlegjhncaaaTu
namespace Go.Proofs.Ytaifdlegjhncaaa
open Go E Go.Sort
set_option linter.unusedVariables false
set_option linter.unusedSimpArgs false
set_option linter.unusedSectionVars false
set_option maxRecDepth 100000

def ewR (r : Rt) : AV := .agg r.av

theorem sortI_spec {l : List Int} {v : AV} {h0 H : AHeap} (gr : Grow h0 1 v (cat i1 l) l.length H) (hw : Wr v) (hl : l.length ≤ 1000000) :
    CallsA Try.prog 43 [v] H (fun r H' => r = .tup [] ∧ Grow h0 1 v (cat i1 (l.mergeSort fun x y => decide (x ≤ y))) (l.mergeSort fun x y => decide (x ≤ y)).length H') := by
  rcases gr.how with ⟨rfl, e, rfl⟩ | ⟨rfl, _⟩ | ⟨id, cap, junk, tot, rfl, hcap, hT, hid, rfl⟩
  · refine CallsA.mono (sorti_none nsl (fn := Try.f43) Try.func43 (by decide) (by decide) _) ?_
    rintro r H' ⟨rfl, rfl⟩
    have : l = [] := List.length_eq_zero_iff.1 e
    subst this
    exact ⟨rfl, by simpa using gr⟩
  · exact absurd rfl (hw _ _ _)
  · refine CallsA.mono (sorti_any nsl (fn := Try.f43) Try.func43 (by decide) (by decide) upd_same (by omega)) ?_
    rintro r H' ⟨rfl, rfl⟩
    have hp := List.length_mergeSort (le := fun x y : Int => decide (x ≤ y)) l
    exact ⟨rfl, cat_len i1_len _, cat_sca i1_sca _, .inr (.inr ⟨id, cap, junk, tot, by rw [hp], by rw [hp]; exact hcap, hT, hid, upd_upd⟩)⟩

/-! ### Those that a function tells -/

def dropRF (f : Tr) (ns : List Int) : Tr := ns.foldl adel f
theorem dropRF_snoc (f : Tr) (ns : List Int) (n : Int) : dropRF f (ns ++ [n]) = adel (dropRF f ns) n := by simp [dropRF]
theorem dropRF_eq (f : Tr) : ∀ (ns : List Int), dropRF f ns = f.filter fun q => !ns.contains q.1 := by
  intro ns
  induction ns using snocI with
  | h0 => exact (List.filter_eq_self.2 (by simp)).symm
  | h1 ns n ih =>
    rw [dropRF_snoc, ih]
    unfold adel
    rw [List.filter_filter]
    refine List.filter_congr fun q _ => ?_
    rw [Bool.eq_iff_iff]
    simp
    constructor
    · rintro ⟨a, b⟩; exact ⟨b, a⟩
    · rintro ⟨a, b⟩; exact ⟨b, a⟩

/-- Their nodes, rising; what is left. -/
def goneN (f : Tr) (pr : Rt → Bool) : List Int := ((allR f).filter pr).map (·.node)
def leftF (f : Tr) (pr : Rt → Bool) : Tr := f.filter fun q => !pr q.2
theorem leftF_ok {f : Tr} (ok : trOk f) (pr : Rt → Bool) : trOk (leftF f pr) :=
  ⟨by unfold AKeys leftF; exact List.Pairwise.sublist (List.Sublist.map _ List.filter_sublist) ok.1, fun p hp => ok.2 p (List.mem_filter.1 hp).1⟩

theorem key_uniq {f : Tr} (ok : trOk f) {a b : Int × Rt} (ha : a ∈ f) (hb : b ∈ f) (e : a.1 = b.1) : a = b := by
  have h1 := look_of_mem ok.1 (k := a.1) (v := a.2) ha
  have h2 := look_of_mem ok.1 (k := b.1) (v := b.2) hb
  rw [← e, h1] at h2
  injection h2 with h2
  exact Prod.ext e h2

theorem drop_left {f : Tr} (ok : trOk f) {pr : Rt → Bool} {out : List Int} (hp : out.Perm (((valR f).filter pr).map (·.node))) : dropRF f out = leftF f pr := by
  rw [dropRF_eq]
  unfold leftF
  refine List.filter_congr fun q hq => ?_
  congr 1
  rw [Bool.eq_iff_iff]
  have e := ok.2 q hq
  constructor
  · intro h
    have hm : q.1 ∈ out := by simpa using h
    obtain ⟨r, hr, er⟩ := List.mem_map.1 (hp.mem_iff.1 hm)
    obtain ⟨h1, h2⟩ := List.mem_filter.1 hr
    obtain ⟨q2, hq2, rfl⟩ := List.mem_map.1 h1
    have e2 := ok.2 q2 hq2
    have := key_uniq ok hq hq2 (by rw [e2]; exact er.symm)
    rw [this]; exact h2
  · intro h
    have : q.1 ∈ out := hp.mem_iff.2 (List.mem_map.2 ⟨q.2, List.mem_filter.2 ⟨List.mem_map.2 ⟨q, hq, rfl⟩, h⟩, e.symm⟩)
    simpa using this

theorem sort_gone {f : Tr} (ok : trOk f) {pr : Rt → Bool} {out : List Int} (hp : out.Perm (((valR f).filter pr).map (·.node))) : (out.mergeSort fun x y => decide (x ≤ y)) = goneN f pr := by
  have h1 : (goneN f pr).Pairwise (· < ·) := by
    unfold goneN
    rw [List.pairwise_map]
    exact (allR_sort ok).filter _
  have hp2 : (out.mergeSort fun x y => decide (x ≤ y)).Perm (goneN f pr) := by
    refine (List.mergeSort_perm _ _).trans (hp.trans ?_)
    unfold goneN
    exact (((allR_perm f).filter pr).map _).symm
  have h2 : (out.mergeSort fun x y => decide (x ≤ y)).Pairwise (· < ·) := by
    have h3 := List.pairwise_mergeSort (le := fun x y : Int => decide (x ≤ y)) (fun a b c h1 h2 => by simp at *; omega) (fun a b => by simp; omega) out
    have h4 : (out.mergeSort fun x y => decide (x ≤ y)).Nodup := hp2.nodup_iff.2 (h1.imp fun h => by omega)
    exact (h3.and h4).imp fun {a b} h => by
      have := h.1
      have := h.2
      simp at *; omega
  exact sorted_eq (lt := fun a b : Int => a < b) (fun a b => by omega) hp2 h2 h1

theorem upd_self2 {H : AHeap} {q : Nat} {o : AObj} (h : H q = some o) : upd H q o = H := by
  funext x
  unfold upd
  split
  · rename_i e; rw [e, h]
  · rfl

set_option maxHeartbeats 4000000 in
theorem tdrop_spec {id c : Nat} {es : Ents} {f : Tr} {h : AHeap} (hid : h id = some (.map es c)) (hm : MapIs kI ewR es f) (ok : trOk f) (hn : f.length ≤ 1000) {pr : Rt → Bool} {tell : FuncId} {caps : List AV}
    (hp : ∀ (x : Rt) (H : AHeap), PureA Try.prog tell (.agg x.av :: caps) H (.bool (pr x))) :
    CallsA Try.prog 31 [.map id, .fn tell caps] h (fun r H' => r = .ro (cat i1 (goneN f pr)) (goneN f pr).length false ∧ ∃ es' c', MapIs kI ewR es' (leftF f pr) ∧ H' = upd h id (.map es' c')) := by
  have hvals := MapIs_valR hm
  obtain ⟨ps, hes, hfs, hps⟩ := ents_zip (ew := fun x : Rt => .agg x.av) hvals
  generalize hk : (fun p : Ent × Rt => p.1.2.2) = key
  (refine CallsA.enterR (ac := c31) (rs := r31) Try.func31 rfl (by decide) c31_ok r31_ok ?_; intro Q hQ; simp only [go_sem, Int.reduceEq, Int.reduceAdd, Int.reduceSub, Int.reduceMul, Nat.reduceLT, Int.reduceLT, Int.reduceLE, Int.reduceToNat, Nat.reduceAdd, Nat.reduceSub, Nat.reduceMul, Nat.reduceLeDiff, reduceCtorEq, c31, Try.ntmps31])
  refine ⟨_, c, hid, fun rid hr => ?_⟩
  have hne : id ≠ rid := by rintro rfl; rw [hid] at hr; cases hr
  have hidb : ∀ o, upd h rid o id = some (.map es c) := fun o => by rw [upd_ne hne]; exact hid
  refine loop_st d31_0 (fun x : Array Nat × List Rt × AV => ps.length - x.2.1.length) (fun x s => s.set 5 x.2.2) (fun x H => Grow (upd h rid (.raw (.mapIter (some id) c x.1 c))) 1 x.2.2 (cat i1 ((x.2.1.filter pr).map (·.node))) ((x.2.1.filter pr).map (·.node)).length H ∧ Wr x.2.2 ∧ ((seenL key x.1 ps).map (·.2)).Perm x.2.1) (#[], [], .nils) ?_
    ⟨Grow.nil, Wr.nils, by rw [seen_empty]; exact List.Perm.refl _⟩ ?_
  · (simp only [go_sem, Int.reduceEq, Int.reduceAdd, Int.reduceSub, Int.reduceMul, Nat.reduceLT, Int.reduceLT, Int.reduceLE, Int.reduceToNat, Nat.reduceAdd, Nat.reduceSub, Nat.reduceMul, Nat.reduceLeDiff, reduceCtorEq, d31_0] <;> rfl)
  rintro N ⟨seen, pre, v⟩ H1 ⟨gr, hw, hpm⟩ hN
  simp only at gr hw hpm hN
  have hplen : pre.length = (seenL key seen ps).length := by rw [← hpm.length_eq, List.length_map]
  have hpsl : ps.length = f.length := by
    have := congrArg List.length hfs
    simpa [valR] using this.symm
  simp only [go_sem, Int.reduceEq, Int.reduceAdd, Int.reduceSub, Int.reduceMul, Nat.reduceLT, Int.reduceLT, Int.reduceLE, Int.reduceToNat, Nat.reduceAdd, Nat.reduceSub, Nat.reduceMul, Nat.reduceLeDiff, reduceCtorEq, d31_0, gr.keep upd_same]
  refine ⟨_, c, gr.keep (hidb _), rfl, rfl, fun hbo => ⟨fun e he hn => ?_, fun ha => ?_⟩⟩
  · have hnd : (ps.map key).Nodup := by
      subst hk; subst hes
      have := hbo.1
      rw [List.map_map] at this
      exact this.imp (fun h => Nat.ne_of_lt h)
    rw [hes] at he
    obtain ⟨p, hpm2, rfl⟩ := List.mem_map.1 he
    have hkp : key p = p.1.2.2 := by subst hk; rfl
    have hv := hps p hpm2
    have gr2 := gr.poke (o := .raw (.mapIter (some id) c (seen.push p.1.2.2) c)) upd_same
    rw [upd_upd] at gr2
    have hpush := seen_push (key := key) hnd hpm2 (by rw [hkp]; exact hn)
    rw [hkp] at hpush
    have hpl := hpush.length_eq
    rw [List.length_append, List.length_cons, List.length_nil] at hpl
    have hsl := seen_len (key := key) (seen.push p.1.2.2) ps
    have hmem : p.1 ∈ es := by rw [hes]; exact List.mem_map_of_mem hpm2
    refine ⟨id, c, seen.push p.1.2.2, _, c, p.1, rfl, gr2.keep (hidb _), hmem, by simp, fun _ q hq => ?_⟩
    have hperm2 : ((seenL key (seen.push p.1.2.2) ps).map (·.2)).Perm (pre ++ [p.2]) := by
      refine (hpush.map (·.2)).trans ?_
      rw [List.map_append]
      exact hpm.append (List.Perm.refl _)
    have hflt : ((pre ++ [p.2]).filter pr).map (·.node) = ((pre.filter pr).map (·.node)) ++ if pr p.2 then [p.2.node] else [] := by
      rw [List.filter_append, List.map_append]
      congr 1
      cases g : pr p.2 <;> simp [List.filter_cons, g]
    have hlen1 : ((pre.filter pr).map (·.node)).length ≤ pre.length := by rw [List.length_map]; exact List.length_filter_le _ _
    have htk : List.take 4 p.2.av = p.2.av := rfl
    simp only [go_sem, Int.reduceEq, Int.reduceAdd, Int.reduceSub, Int.reduceMul, Nat.reduceLT, Int.reduceLT, Int.reduceLE, Int.reduceToNat, Nat.reduceAdd, Nat.reduceSub, Nat.reduceMul, Nat.reduceLeDiff, reduceCtorEq, hv, Rt.len, Rt.sca, del_none hq, Nat.le_refl, htk]
    refine (hp p.2 _).use ?_
    cases hpr : pr p.2
    · rw [hpr] at hflt
      simp only [Bool.false_eq_true, if_false, List.append_nil] at hflt
      simp only [go_sem, Int.reduceEq, Int.reduceAdd, Int.reduceSub, Int.reduceMul, Nat.reduceLT, Int.reduceLT, Int.reduceLE, Int.reduceToNat, Nat.reduceAdd, Nat.reduceSub, Nat.reduceMul, Nat.reduceLeDiff, reduceCtorEq]
      refine hN (seen.push p.1.2.2, pre ++ [p.2], v) _ _ (by simp only [List.length_append, List.length_cons, List.length_nil]; omega) ?_ ⟨by simp only [hflt]; exact gr2, hw, hperm2⟩
      simp only [go_sem, Int.reduceEq, Int.reduceAdd, Int.reduceSub, Int.reduceMul, Nat.reduceLT, Int.reduceLT, Int.reduceLE, Int.reduceToNat, Nat.reduceAdd, Nat.reduceSub, Nat.reduceMul, Nat.reduceLeDiff, reduceCtorEq, d31_0]
    · rw [hpr] at hflt
      simp only [if_true] at hflt
      simp only [go_sem, Int.reduceEq, Int.reduceAdd, Int.reduceSub, Int.reduceMul, Nat.reduceLT, Int.reduceLT, Int.reduceLE, Int.reduceToNat, Nat.reduceAdd, Nat.reduceSub, Nat.reduceMul, Nat.reduceLeDiff, reduceCtorEq, show p.2.av.head? = some (.int .i64 p.2.node) from rfl]
      refine gr2.add1W (x := i1 p.2.node) rfl rfl (by omega) fun v' H3 g3 w3 => ?_
      have e1 : cat i1 ((pre.filter pr).map (·.node)) ++ i1 p.2.node = cat i1 (((pre ++ [p.2]).filter pr).map (·.node)) := by rw [hflt, cat_append]; simp [cat]
      have e2 : ((pre.filter pr).map (·.node)).length + 1 = (((pre ++ [p.2]).filter pr).map (·.node)).length := by rw [hflt]; simp
      rw [e1, e2] at g3
      simp only [go_sem, Int.reduceEq, Int.reduceAdd, Int.reduceSub, Int.reduceMul, Nat.reduceLT, Int.reduceLT, Int.reduceLE, Int.reduceToNat, Nat.reduceAdd, Nat.reduceSub, Nat.reduceMul, Nat.reduceLeDiff, reduceCtorEq]
      refine hN (seen.push p.1.2.2, pre ++ [p.2], v') _ _ (by simp only [List.length_append, List.length_cons, List.length_nil]; omega) ?_ ⟨g3, w3, hperm2⟩
      simp only [go_sem, Int.reduceEq, Int.reduceAdd, Int.reduceSub, Int.reduceMul, Nat.reduceLT, Int.reduceLT, Int.reduceLE, Int.reduceToNat, Nat.reduceAdd, Nat.reduceSub, Nat.reduceMul, Nat.reduceLeDiff, reduceCtorEq, d31_0]
  · have hall : seenL key seen ps = ps := seen_all fun p hpm2 => by subst hk; subst hes; exact ha _ (List.mem_map_of_mem hpm2)
    rw [hall, ← hfs] at hpm
    have hout : ((pre.filter pr).map (·.node)).Perm (((valR f).filter pr).map (·.node)) := (hpm.symm.filter pr).map _
    have hol : ((pre.filter pr).map (·.node)).length ≤ 1000 := by
      rw [List.length_map]
      have := List.length_filter_le pr pre
      have := hpm.length_eq
      simp only [valR, List.length_map] at this
      omega
    have hdl := drop_left ok hout
    have hsg := sort_gone ok hout
    generalize (pre.filter pr).map (·.node) = out at *
    have hlen := gr.len
    refine frz_id ?_
    simp only [go_sem, Int.reduceEq, Int.reduceAdd, Int.reduceSub, Int.reduceMul, Nat.reduceLT, Int.reduceLT, Int.reduceLE, Int.reduceToNat, Nat.reduceAdd, Nat.reduceSub, Nat.reduceMul, Nat.reduceLeDiff, reduceCtorEq, hlen]
    refine loop_st d31_1 (fun k : Nat => out.length - k) (fun k s => s.set 26 (.int .i64 (k : Int))) (fun k H => k ≤ out.length ∧ ∃ es1 c1, MapIs kI ewR es1 (dropRF f (out.take k)) ∧ Grow (upd (upd h rid (.raw (.mapIter (some id) c seen c))) id (.map es1 c1)) 1 v (cat i1 out) out.length H) 0 ?_ ⟨Nat.zero_le _, es, c, hm, ?_⟩ ?_
    · (simp only [go_sem, Int.reduceEq, Int.reduceAdd, Int.reduceSub, Int.reduceMul, Nat.reduceLT, Int.reduceLT, Int.reduceLE, Int.reduceToNat, Nat.reduceAdd, Nat.reduceSub, Nat.reduceMul, Nat.reduceLeDiff, reduceCtorEq, d31_1] <;> rfl)
    · rw [upd_self2 (hidb _)]; exact gr
    rintro K1 k H4 ⟨hk2, es1, c1, hm1, g1⟩ hK1
    simp only [go_sem, Int.reduceEq, Int.reduceAdd, Int.reduceSub, Int.reduceMul, Nat.reduceLT, Int.reduceLT, Int.reduceLE, Int.reduceToNat, Nat.reduceAdd, Nat.reduceSub, Nat.reduceMul, Nat.reduceLeDiff, reduceCtorEq, d31_1]
    have hadd := wadd1 (k := k) (by omega)
    have okk : trOk (dropRF f (out.take k)) := by
      rw [dropRF_eq]
      exact ⟨by unfold AKeys; exact List.Pairwise.sublist (List.Sublist.map _ List.filter_sublist) ok.1, fun p hp => ok.2 p (List.mem_filter.1 hp).1⟩
    by_cases hlt : k < out.length
    · simp only [go_sem, Int.reduceEq, Int.reduceAdd, Int.reduceSub, Int.reduceMul, Nat.reduceLT, Int.reduceLT, Int.reduceLE, Int.reduceToNat, Nat.reduceAdd, Nat.reduceSub, Nat.reduceMul, Nat.reduceLeDiff, reduceCtorEq, hlt]
      refine g1.at hw i1_len hlt fun bid h1 _ => ?_
      have h1' := h1 0 (by omega)
      rw [Nat.mul_one, Nat.add_zero] at h1'
      have h1'' : aload H4 (.ptr bid k) = some (.int .i64 out[k]) := h1'
      rw [aload_ptr] at h1''
      simp only [go_sem, Int.reduceEq, Int.reduceAdd, Int.reduceSub, Int.reduceMul, Nat.reduceLT, Int.reduceLT, Int.reduceLE, Int.reduceToNat, Nat.reduceAdd, Nat.reduceSub, Nat.reduceMul, Nat.reduceLeDiff, reduceCtorEq, Nat.mul_one, h1'']
      refine map_del (ek := kI) (ew := ewR) (k := out[k]) kI_fit (g1.keep upd_same) hm1 okk.1 fun es2 hm2 => ?_
      have g2 := g1.poke (o := .map es2 c1) upd_same
      rw [upd_upd] at g2
      simp only [go_sem, Int.reduceEq, Int.reduceAdd, Int.reduceSub, Int.reduceMul, Nat.reduceLT, Int.reduceLT, Int.reduceLE, Int.reduceToNat, Nat.reduceAdd, Nat.reduceSub, Nat.reduceMul, Nat.reduceLeDiff, reduceCtorEq, hadd]
      refine hK1 (k + 1) _ _ (by omega) ?_ ⟨hlt, es2, c1, ?_, g2⟩
      · simp only [go_sem, Int.reduceEq, Int.reduceAdd, Int.reduceSub, Int.reduceMul, Nat.reduceLT, Int.reduceLT, Int.reduceLE, Int.reduceToNat, Nat.reduceAdd, Nat.reduceSub, Nat.reduceMul, Nat.reduceLeDiff, reduceCtorEq, d31_1]
      · rw [List.take_succ_eq_append_getElem hlt, dropRF_snoc]; exact hm2
    · have hke : k = out.length := by omega
      subst hke
      rw [List.take_length, hdl] at hm1
      simp only [go_sem, Int.reduceEq, Int.reduceAdd, Int.reduceSub, Int.reduceMul, Nat.reduceLT, Int.reduceLT, Int.reduceLE, Int.reduceToNat, Nat.reduceAdd, Nat.reduceSub, Nat.reduceMul, Nat.reduceLeDiff, reduceCtorEq, hlt]
      refine frz_id ?_
      simp only [go_sem, Int.reduceEq, Int.reduceAdd, Int.reduceSub, Int.reduceMul, Nat.reduceLT, Int.reduceLT, Int.reduceLE, Int.reduceToNat, Nat.reduceAdd, Nat.reduceSub, Nat.reduceMul, Nat.reduceLeDiff, reduceCtorEq]
      refine (sortI_spec g1 hw (by omega)).use ?_
      rintro r H5 ⟨rfl, g5⟩
      rw [hsg] at g5
      simp only [go_sem, Int.reduceEq, Int.reduceAdd, Int.reduceSub, Int.reduceMul, Nat.reduceLT, Int.reduceLT, Int.reduceLE, Int.reduceToNat, Nat.reduceAdd, Nat.reduceSub, Nat.reduceMul, Nat.reduceLeDiff, reduceCtorEq]
      have hsub : Sub (upd h id (.map es1 c1)) (upd (upd h rid (.raw (.mapIter (some id) c seen c))) id (.map es1 c1)) := fun x o e => by
        by_cases hx : x = id
        · subst hx; rw [upd_same] at e ⊢; exact e
        · rw [upd_ne hx] at e ⊢
          have : x ≠ rid := by rintro rfl; rw [hr] at e; cases e
          rw [upd_ne this]; exact e
      refine hQ _ _ _ _ (upd h id (.map es1 c1)) [.ro (cat i1 (goneN f pr)) (goneN f pr).length false] (.inr rfl) rfl (FzH.sub (Sub.trans hsub g5.sub)) (.cons (Fz_mono (Sub.refl _) hsub g5.fz) .nil) ⟨rfl, es1, c1, hm1, rfl⟩

theorem index_spec (l : List Int) (x : Int) (ex : Bool) (h : AHeap) (hn : l.length ≤ 1000000) : PureA Try.prog 44 [.ro (cat i1 l) l.length ex, .int .i64 x] h (.int .i64 (idxP (fun y => decide (x = y)) l)) := by
  (refine PureA.enter (ac := c44) (rs := r44) Try.func44 rfl (by decide) c44_ok r44_ok ?_; intro Q hQ; simp only [go_sem, Int.reduceEq, Int.reduceAdd, Int.reduceSub, Int.reduceMul, Nat.reduceLT, Int.reduceLT, Int.reduceLE, Int.reduceToNat, Nat.reduceAdd, Nat.reduceSub, Nat.reduceMul, Nat.reduceLeDiff, reduceCtorEq, c44, Try.ntmps44])
  refine loop_range d44_0 (l.length) (fun k s => s.set 8 (.int .i64 k)) (fun k h' => ((l.take k).any (fun y => decide (x = y)) = false) ∧ h' = h) ?_ ⟨rfl, rfl⟩ ?_
  · (simp only [go_sem, Int.reduceEq, Int.reduceAdd, Int.reduceSub, Int.reduceMul, Nat.reduceLT, Int.reduceLT, Int.reduceLE, Int.reduceToNat, Nat.reduceAdd, Nat.reduceSub, Nat.reduceMul, Nat.reduceLeDiff, reduceCtorEq, d44_0] <;> rfl)
  rintro N k h' hk ⟨hall, rfl⟩ hN
  simp only [go_sem, Int.reduceEq, Int.reduceAdd, Int.reduceSub, Int.reduceMul, Nat.reduceLT, Int.reduceLT, Int.reduceLE, Int.reduceToNat, Nat.reduceAdd, Nat.reduceSub, Nat.reduceMul, Nat.reduceLeDiff, reduceCtorEq, d44_0]
  have hadd := wadd1 (k := k) (by omega)
  by_cases hlt : k < l.length
  · have ht := take_any hlt hall
    have hh := idx_hit hlt hall
    simp only [go_sem, Int.reduceEq, Int.reduceAdd, Int.reduceSub, Int.reduceMul, Nat.reduceLT, Int.reduceLT, Int.reduceLE, Int.reduceToNat, Nat.reduceAdd, Nat.reduceSub, Nat.reduceMul, Nat.reduceLeDiff, reduceCtorEq, hlt, hadd, rdI hlt]
    cases e : decide (x = l[k])
    · simp only [go_sem, Int.reduceEq, Int.reduceAdd, Int.reduceSub, Int.reduceMul, Nat.reduceLT, Int.reduceLT, Int.reduceLE, Int.reduceToNat, Nat.reduceAdd, Nat.reduceSub, Nat.reduceMul, Nat.reduceLeDiff, reduceCtorEq, e]
      (refine hN _ _ hlt ?_ ⟨?_, rfl⟩; (simp only [go_sem, Int.reduceEq, Int.reduceAdd, Int.reduceSub, Int.reduceMul, Nat.reduceLT, Int.reduceLT, Int.reduceLE, Int.reduceToNat, Nat.reduceAdd, Nat.reduceSub, Nat.reduceMul, Nat.reduceLeDiff, reduceCtorEq, d44_0, hadd]))
      rw [ht]; exact e
    · simp only [go_sem, Int.reduceEq, Int.reduceAdd, Int.reduceSub, Int.reduceMul, Nat.reduceLT, Int.reduceLT, Int.reduceLE, Int.reduceToNat, Nat.reduceAdd, Nat.reduceSub, Nat.reduceMul, Nat.reduceLeDiff, reduceCtorEq, e]
      (refine hQ _ _ _ _ _ (by first | exact .inr rfl | exact .inl rfl) rfl (by first | exact FzH.refl _ | exact FzH.sub (by (repeat' (first | exact Sub.refl _ | assumption | (refine Sub.upd ?_ (by first | assumption | (simp only [*]; done) | exact Sub.isNone (by assumption) (by assumption) | exact Sub.isNone (by assumption) (by simp only [*]))))))) (FzL.refl _ _ _) ?_; try (simp only [go_sem, Int.reduceEq, Int.reduceAdd, Int.reduceSub, Int.reduceMul, Nat.reduceLT, Int.reduceLT, Int.reduceLE, Int.reduceToNat, Nat.reduceAdd, Nat.reduceSub, Nat.reduceMul, Nat.reduceLeDiff, reduceCtorEq, hh e]))
  · (simp only [go_sem, Int.reduceEq, Int.reduceAdd, Int.reduceSub, Int.reduceMul, Nat.reduceLT, Int.reduceLT, Int.reduceLE, Int.reduceToNat, Nat.reduceAdd, Nat.reduceSub, Nat.reduceMul, Nat.reduceLeDiff, reduceCtorEq, hlt]; refine frz_id ?_; simp only [go_sem, Int.reduceEq, Int.reduceAdd, Int.reduceSub, Int.reduceMul, Nat.reduceLT, Int.reduceLT, Int.reduceLE, Int.reduceToNat, Nat.reduceAdd, Nat.reduceSub, Nat.reduceMul, Nat.reduceLeDiff, reduceCtorEq])
    refine hQ _ _ _ _ _ (by first | exact .inr rfl | exact .inl rfl) rfl (by first | exact FzH.refl _ | exact FzH.sub (by (repeat' (first | exact Sub.refl _ | assumption | (refine Sub.upd ?_ (by first | assumption | (simp only [*]; done) | exact Sub.isNone (by assumption) (by assumption) | exact Sub.isNone (by assumption) (by simp only [*]))))))) (FzL.refl _ _ _) ?_
    rw [List.take_of_length_le (by omega)] at hall
    simp only [go_sem, Int.reduceEq, Int.reduceAdd, Int.reduceSub, Int.reduceMul, Nat.reduceLT, Int.reduceLT, Int.reduceLE, Int.reduceToNat, Nat.reduceAdd, Nat.reduceSub, Nat.reduceMul, Nat.reduceLeDiff, reduceCtorEq, idx_none hall]

theorem any_contains (x : Int) (l : List Int) : l.any (fun y => decide (x = y)) = l.contains x := by
  induction l with
  | nil => rfl
  | cons y l ih =>
    rw [List.any_cons, List.contains_cons, ih]
    congr 1

theorem cont_spec (l : List Int) (x : Int) (ex : Bool) (h : AHeap) (hn : l.length ≤ 1000000) : PureA Try.prog 34 [.ro (cat i1 l) l.length ex, .int .i64 x] h (.bool (l.contains x)) := by
  (refine PureA.enter (ac := c34) (rs := r34) Try.func34 rfl (by decide) c34_ok r34_ok ?_; intro Q hQ; simp only [go_sem, Int.reduceEq, Int.reduceAdd, Int.reduceSub, Int.reduceMul, Nat.reduceLT, Int.reduceLT, Int.reduceLE, Int.reduceToNat, Nat.reduceAdd, Nat.reduceSub, Nat.reduceMul, Nat.reduceLeDiff, reduceCtorEq, c34, Try.ntmps34])
  refine (index_spec l x ex h hn).use ?_
  simp only [go_sem, Int.reduceEq, Int.reduceAdd, Int.reduceSub, Int.reduceMul, Nat.reduceLT, Int.reduceLT, Int.reduceLE, Int.reduceToNat, Nat.reduceAdd, Nat.reduceSub, Nat.reduceMul, Nat.reduceLeDiff, reduceCtorEq]
  refine hQ _ _ _ _ _ (by first | exact .inr rfl | exact .inl rfl) rfl (by first | exact FzH.refl _ | exact FzH.sub (by (repeat' (first | exact Sub.refl _ | assumption | (refine Sub.upd ?_ (by first | assumption | (simp only [*]; done) | exact Sub.isNone (by assumption) (by assumption) | exact Sub.isNone (by assumption) (by simp only [*]))))))) (FzL.refl _ _ _) ?_
  simp only [go_sem, Int.reduceEq, Int.reduceAdd, Int.reduceSub, Int.reduceMul, Nat.reduceLT, Int.reduceLT, Int.reduceLE, Int.reduceToNat, Nat.reduceAdd, Nat.reduceSub, Nat.reduceMul, Nat.reduceLeDiff, reduceCtorEq, idxP_any, any_contains]

/-! ### The table's own -/

theorem texpire1_spec (now : Int) (r : Rt) (h : AHeap) : PureA Try.prog 32 [.agg r.av, .rp [.int .i64 now]] h (.bool (decide (r.til ≤ now))) := by
  (refine PureA.enter (ac := c32) (rs := r32) Try.func32 rfl (by decide) c32_ok r32_ok ?_; intro Q hQ; simp only [go_sem, Int.reduceEq, Int.reduceAdd, Int.reduceSub, Int.reduceMul, Nat.reduceLT, Int.reduceLT, Int.reduceLE, Int.reduceToNat, Nat.reduceAdd, Nat.reduceSub, Nat.reduceMul, Nat.reduceLeDiff, reduceCtorEq, c32, Try.ntmps32, Rt.av])
  (refine hQ _ _ _ _ _ (by first | exact .inr rfl | exact .inl rfl) rfl (by first | exact FzH.refl _ | exact FzH.sub (by (repeat' (first | exact Sub.refl _ | assumption | (refine Sub.upd ?_ (by first | assumption | (simp only [*]; done) | exact Sub.isNone (by assumption) (by assumption) | exact Sub.isNone (by assumption) (by simp only [*]))))))) (FzL.refl _ _ _) ?_; try (simp only [go_sem, Int.reduceEq, Int.reduceAdd, Int.reduceSub, Int.reduceMul, Nat.reduceLT, Int.reduceLT, Int.reduceLE, Int.reduceToNat, Nat.reduceAdd, Nat.reduceSub, Nat.reduceMul, Nat.reduceLeDiff, reduceCtorEq]))
theorem tlose1_spec (vias : List Int) (ex : Bool) (hn : vias.length ≤ 1000000) (r : Rt) (h : AHeap) : PureA Try.prog 33 [.agg r.av, .rp [.ro (cat i1 vias) vias.length ex]] h (.bool (vias.contains r.via)) := by
  (refine PureA.enter (ac := c33) (rs := r33) Try.func33 rfl (by decide) c33_ok r33_ok ?_; intro Q hQ; simp only [go_sem, Int.reduceEq, Int.reduceAdd, Int.reduceSub, Int.reduceMul, Nat.reduceLT, Int.reduceLT, Int.reduceLE, Int.reduceToNat, Nat.reduceAdd, Nat.reduceSub, Nat.reduceMul, Nat.reduceLeDiff, reduceCtorEq, c33, Try.ntmps33, Rt.av])
  refine (cont_spec vias r.via _ _ hn).use ?_
  simp only [go_sem, Int.reduceEq, Int.reduceAdd, Int.reduceSub, Int.reduceMul, Nat.reduceLT, Int.reduceLT, Int.reduceLE, Int.reduceToNat, Nat.reduceAdd, Nat.reduceSub, Nat.reduceMul, Nat.reduceLeDiff, reduceCtorEq]
  (refine hQ _ _ _ _ _ (by first | exact .inr rfl | exact .inl rfl) rfl (by first | exact FzH.refl _ | exact FzH.sub (by (repeat' (first | exact Sub.refl _ | assumption | (refine Sub.upd ?_ (by first | assumption | (simp only [*]; done) | exact Sub.isNone (by assumption) (by assumption) | exact Sub.isNone (by assumption) (by simp only [*]))))))) (FzL.refl _ _ _) ?_; try (simp only [go_sem, Int.reduceEq, Int.reduceAdd, Int.reduceSub, Int.reduceMul, Nat.reduceLT, Int.reduceLT, Int.reduceLE, Int.reduceToNat, Nat.reduceAdd, Nat.reduceSub, Nat.reduceMul, Nat.reduceLeDiff, reduceCtorEq]))

theorem texpire_spec {h H : AHeap} {p id : Nat} {most : Int} {f : Tr} (t : TB h p id most f H) (ok : trOk f) (hn : f.length ≤ 1000) (now : Int) :
    CallsA Try.prog 14 [.ptr p 0, .int .i64 now] H (fun r H' => r = .ro (cat i1 (goneN f fun r => decide (r.til ≤ now))) (goneN f fun r => decide (r.til ≤ now)).length false ∧ TB h p id most (leftF f fun r => decide (r.til ≤ now)) H') := by
  obtain ⟨es, c, hm, h1, h2⟩ := t.own
  (refine CallsA.enterR (ac := c14) (rs := r14) Try.func14 rfl (by decide) c14_ok r14_ok ?_; intro Q hQ; simp only [go_sem, Int.reduceEq, Int.reduceAdd, Int.reduceSub, Int.reduceMul, Nat.reduceLT, Int.reduceLT, Int.reduceLE, Int.reduceToNat, Nat.reduceAdd, Nat.reduceSub, Nat.reduceMul, Nat.reduceLeDiff, reduceCtorEq, c14, Try.ntmps14, h1])
  refine (tdrop_spec (pr := fun r => decide (r.til ≤ now)) (tell := 32) (caps := [.rp [.int .i64 now]]) h2 hm ok hn (fun x H => texpire1_spec now x H)).use ?_
  rintro _ H' ⟨rfl, es', c', hm', rfl⟩
  simp only [go_sem, Int.reduceEq, Int.reduceAdd, Int.reduceSub, Int.reduceMul, Nat.reduceLT, Int.reduceLT, Int.reduceLE, Int.reduceToNat, Nat.reduceAdd, Nat.reduceSub, Nat.reduceMul, Nat.reduceLeDiff, reduceCtorEq]
  refine hQ _ _ _ _ _ _ (.inr rfl) rfl (FzH.refl _) (FzL.refl _ _ _) ⟨rfl, t.put (leftF_ok ok _).1 hm'⟩

theorem tlose_spec {h H : AHeap} {p id : Nat} {most : Int} {f : Tr} (t : TB h p id most f H) (ok : trOk f) (hn : f.length ≤ 1000) (vias : List Int) (ex : Bool) (hv : vias.length ≤ 1000000) :
    CallsA Try.prog 16 [.ptr p 0, .ro (cat i1 vias) vias.length ex] H (fun r H' => r = .ro (cat i1 (goneN f fun r => vias.contains r.via)) (goneN f fun r => vias.contains r.via).length false ∧ TB h p id most (leftF f fun r => vias.contains r.via) H') := by
  obtain ⟨es, c, hm, h1, h2⟩ := t.own
  (refine CallsA.enterR (ac := c16) (rs := r16) Try.func16 rfl (by decide) c16_ok r16_ok ?_; intro Q hQ; simp only [go_sem, Int.reduceEq, Int.reduceAdd, Int.reduceSub, Int.reduceMul, Nat.reduceLT, Int.reduceLT, Int.reduceLE, Int.reduceToNat, Nat.reduceAdd, Nat.reduceSub, Nat.reduceMul, Nat.reduceLeDiff, reduceCtorEq, c16, Try.ntmps16, h1])
  refine (tdrop_spec (pr := fun r => vias.contains r.via) (tell := 33) (caps := [.rp [.ro (cat i1 vias) vias.length ex]]) h2 hm ok hn (fun x H => tlose1_spec vias ex hv x H)).use ?_
  rintro _ H' ⟨rfl, es', c', hm', rfl⟩
  simp only [go_sem, Int.reduceEq, Int.reduceAdd, Int.reduceSub, Int.reduceMul, Nat.reduceLT, Int.reduceLT, Int.reduceLE, Int.reduceToNat, Nat.reduceAdd, Nat.reduceSub, Nat.reduceMul, Nat.reduceLeDiff, reduceCtorEq]
  refine hQ _ _ _ _ _ _ (.inr rfl) rfl (FzH.refl _) (FzL.refl _ _ _) ⟨rfl, t.put (leftF_ok ok _).1 hm'⟩

theorem tclear_spec {h H : AHeap} {p id : Nat} {most : Int} {f : Tr} (t : TB h p id most f H) : CallsA Try.prog 17 [.ptr p 0] H (fun r H' => r = .tup [] ∧ TB h p id most [] H') := by
  obtain ⟨es, c, hm, h1, h2⟩ := t.own
  (refine CallsA.enterR (ac := c17) (rs := r17) Try.func17 rfl (by decide) c17_ok r17_ok ?_; intro Q hQ; simp only [go_sem, Int.reduceEq, Int.reduceAdd, Int.reduceSub, Int.reduceMul, Nat.reduceLT, Int.reduceLT, Int.reduceLE, Int.reduceToNat, Nat.reduceAdd, Nat.reduceSub, Nat.reduceMul, Nat.reduceLeDiff, reduceCtorEq, c17, Try.ntmps17, h1])
  refine map_clr h2 ?_
  simp only [go_sem, Int.reduceEq, Int.reduceAdd, Int.reduceSub, Int.reduceMul, Nat.reduceLT, Int.reduceLT, Int.reduceLE, Int.reduceToNat, Nat.reduceAdd, Nat.reduceSub, Nat.reduceMul, Nat.reduceLeDiff, reduceCtorEq]
  refine hQ _ _ _ _ _ _ (.inl rfl) rfl (FzH.refl _) (FzL.refl _ _ _) ⟨rfl, t.put AKeys_nil rfl⟩

def forgetN (f : Tr) (node via sq : Int) : Tr × Int :=
  if (isNode node && isNode via) && isCtr sq then
    (match alook f node with
      | none => (f, 8)
      | some old => if old.via = via then (if sq = old.sq ∨ newerB sq old.sq = true then (adel f node, 0) else (f, 9)) else (f, 1))
  else (f, 1)

theorem tforget_spec {h H : AHeap} {p id : Nat} {most : Int} {f : Tr} (t : TB h p id most f H) (node via sq : Int) :
    CallsA Try.prog 11 [.ptr p 0, .int .i64 node, .int .i64 via, .int .i64 sq] H (fun r H' => r = .int .i64 (forgetN f node via sq).2 ∧ TB h p id most (forgetN f node via sq).1 H') := by
  obtain ⟨es, c, hm, h1, h2⟩ := t.own
  (refine CallsA.enterR (ac := c11) (rs := r11) Try.func11 rfl (by decide) c11_ok r11_ok ?_; intro Q hQ; simp only [go_sem, Int.reduceEq, Int.reduceAdd, Int.reduceSub, Int.reduceMul, Nat.reduceLT, Int.reduceLT, Int.reduceLE, Int.reduceToNat, Nat.reduceAdd, Nat.reduceSub, Nat.reduceMul, Nat.reduceLeDiff, reduceCtorEq, c11, Try.ntmps11])
  refine (nodes2 node via true _).use ?_
  cases g1 : isNode node && isNode via
  · have e : forgetN f node via sq = (f, 1) := by unfold forgetN; rw [g1]; rfl
    rw [e] at hQ
    simp only [go_sem, Int.reduceEq, Int.reduceAdd, Int.reduceSub, Int.reduceMul, Nat.reduceLT, Int.reduceLT, Int.reduceLE, Int.reduceToNat, Nat.reduceAdd, Nat.reduceSub, Nat.reduceMul, Nat.reduceLeDiff, reduceCtorEq]
    refine hQ _ _ _ _ _ _ (.inr rfl) rfl (FzH.refl _) (FzL.refl _ _ _) ⟨rfl, t⟩
  simp only [go_sem, Int.reduceEq, Int.reduceAdd, Int.reduceSub, Int.reduceMul, Nat.reduceLT, Int.reduceLT, Int.reduceLE, Int.reduceToNat, Nat.reduceAdd, Nat.reduceSub, Nat.reduceMul, Nat.reduceLeDiff, reduceCtorEq]
  refine (valid1 sq true _).use ?_
  cases g2 : isCtr sq
  · have e : forgetN f node via sq = (f, 1) := by unfold forgetN; rw [g1, g2]; rfl
    rw [e] at hQ
    simp only [go_sem, Int.reduceEq, Int.reduceAdd, Int.reduceSub, Int.reduceMul, Nat.reduceLT, Int.reduceLT, Int.reduceLE, Int.reduceToNat, Nat.reduceAdd, Nat.reduceSub, Nat.reduceMul, Nat.reduceLeDiff, reduceCtorEq]
    refine hQ _ _ _ _ _ _ (.inr rfl) rfl (FzH.refl _) (FzL.refl _ _ _) ⟨rfl, t⟩
  simp only [go_sem, Int.reduceEq, Int.reduceAdd, Int.reduceSub, Int.reduceMul, Nat.reduceLT, Int.reduceLT, Int.reduceLE, Int.reduceToNat, Nat.reduceAdd, Nat.reduceSub, Nat.reduceMul, Nat.reduceLeDiff, reduceCtorEq, h1]
  refine map_get (f := f) (ew := fun r : Rt => .agg r.av) (k := node) kI_fit h2 hm ?_
  cases e0 : alook f node with
  | none =>
    have e : forgetN f node via sq = (f, 8) := by unfold forgetN; rw [g1, g2, e0]; rfl
    rw [e] at hQ
    simp only [go_sem, Int.reduceEq, Int.reduceAdd, Int.reduceSub, Int.reduceMul, Nat.reduceLT, Int.reduceLT, Int.reduceLE, Int.reduceToNat, Nat.reduceAdd, Nat.reduceSub, Nat.reduceMul, Nat.reduceLeDiff, reduceCtorEq, mres]
    intro u hu
    simp only [go_sem, Int.reduceEq, Int.reduceAdd, Int.reduceSub, Int.reduceMul, Nat.reduceLT, Int.reduceLT, Int.reduceLE, Int.reduceToNat, Nat.reduceAdd, Nat.reduceSub, Nat.reduceMul, Nat.reduceLeDiff, reduceCtorEq, del_same, del_none hu]
    refine hQ _ _ _ _ _ _ (.inr rfl) rfl (FzH.refl _) (FzL.refl _ _ _) ⟨rfl, t⟩
  | some old =>
    simp only [go_sem, Int.reduceEq, Int.reduceAdd, Int.reduceSub, Int.reduceMul, Nat.reduceLT, Int.reduceLT, Int.reduceLE, Int.reduceToNat, Nat.reduceAdd, Nat.reduceSub, Nat.reduceMul, Nat.reduceLeDiff, reduceCtorEq, mres, Rt.av]
    intro u hu
    simp only [go_sem, Int.reduceEq, Int.reduceAdd, Int.reduceSub, Int.reduceMul, Nat.reduceLT, Int.reduceLT, Int.reduceLE, Int.reduceToNat, Nat.reduceAdd, Nat.reduceSub, Nat.reduceMul, Nat.reduceLeDiff, reduceCtorEq, del_same, del_none hu]
    by_cases g3 : old.via = via
    · have g3' : decide (old.via = via) = true := decide_eq_true g3
      by_cases g4 : sq = old.sq
      · have e : forgetN f node via sq = (adel f node, 0) := by unfold forgetN; rw [g1, g2, e0]; simp [g3, g4]
        rw [e] at hQ
        have g4' : decide (sq = old.sq) = true := decide_eq_true g4
        simp only [go_sem, Int.reduceEq, Int.reduceAdd, Int.reduceSub, Int.reduceMul, Nat.reduceLT, Int.reduceLT, Int.reduceLE, Int.reduceToNat, Nat.reduceAdd, Nat.reduceSub, Nat.reduceMul, Nat.reduceLeDiff, reduceCtorEq, g3', g4', h1]
        refine map_del (ek := kI) (ew := fun r : Rt => .agg r.av) (k := node) kI_fit h2 hm t.keys fun es2 hm2 => ?_
        simp only [go_sem, Int.reduceEq, Int.reduceAdd, Int.reduceSub, Int.reduceMul, Nat.reduceLT, Int.reduceLT, Int.reduceLE, Int.reduceToNat, Nat.reduceAdd, Nat.reduceSub, Nat.reduceMul, Nat.reduceLeDiff, reduceCtorEq]
        refine hQ _ _ _ _ _ _ (.inr rfl) rfl (FzH.refl _) (FzL.refl _ _ _) ⟨rfl, t.put (AKeys_del t.keys) hm2⟩
      · have g4' : decide (sq = old.sq) = false := decide_eq_false g4
        simp only [go_sem, Int.reduceEq, Int.reduceAdd, Int.reduceSub, Int.reduceMul, Nat.reduceLT, Int.reduceLT, Int.reduceLE, Int.reduceToNat, Nat.reduceAdd, Nat.reduceSub, Nat.reduceMul, Nat.reduceLeDiff, reduceCtorEq, g3', g4']
        refine (newer_spec sq old.sq _).use ?_
        cases g5 : newerB sq old.sq
        · have e : forgetN f node via sq = (f, 9) := by unfold forgetN; rw [g1, g2, e0]; simp [g3, g4, g5]
          rw [e] at hQ
          simp only [go_sem, Int.reduceEq, Int.reduceAdd, Int.reduceSub, Int.reduceMul, Nat.reduceLT, Int.reduceLT, Int.reduceLE, Int.reduceToNat, Nat.reduceAdd, Nat.reduceSub, Nat.reduceMul, Nat.reduceLeDiff, reduceCtorEq]
          refine hQ _ _ _ _ _ _ (.inr rfl) rfl (FzH.refl _) (FzL.refl _ _ _) ⟨rfl, t⟩
        · have e : forgetN f node via sq = (adel f node, 0) := by unfold forgetN; rw [g1, g2, e0]; simp [g3, g5]
          rw [e] at hQ
          simp only [go_sem, Int.reduceEq, Int.reduceAdd, Int.reduceSub, Int.reduceMul, Nat.reduceLT, Int.reduceLT, Int.reduceLE, Int.reduceToNat, Nat.reduceAdd, Nat.reduceSub, Nat.reduceMul, Nat.reduceLeDiff, reduceCtorEq, h1]
          refine map_del (ek := kI) (ew := fun r : Rt => .agg r.av) (k := node) kI_fit h2 hm t.keys fun es2 hm2 => ?_
          simp only [go_sem, Int.reduceEq, Int.reduceAdd, Int.reduceSub, Int.reduceMul, Nat.reduceLT, Int.reduceLT, Int.reduceLE, Int.reduceToNat, Nat.reduceAdd, Nat.reduceSub, Nat.reduceMul, Nat.reduceLeDiff, reduceCtorEq]
          refine hQ _ _ _ _ _ _ (.inr rfl) rfl (FzH.refl _) (FzL.refl _ _ _) ⟨rfl, t.put (AKeys_del t.keys) hm2⟩
    · have g3' : decide (old.via = via) = false := decide_eq_false g3
      have e : forgetN f node via sq = (f, 1) := by unfold forgetN; rw [g1, g2, e0]; simp [g3]
      rw [e] at hQ
      simp only [go_sem, Int.reduceEq, Int.reduceAdd, Int.reduceSub, Int.reduceMul, Nat.reduceLT, Int.reduceLT, Int.reduceLE, Int.reduceToNat, Nat.reduceAdd, Nat.reduceSub, Nat.reduceMul, Nat.reduceLeDiff, reduceCtorEq, g3']
      refine hQ _ _ _ _ _ _ (.inr rfl) rfl (FzH.refl _) (FzL.refl _ _ _) ⟨rfl, t⟩

end Go.Proofs.Ytaifdlegjhncaaa
