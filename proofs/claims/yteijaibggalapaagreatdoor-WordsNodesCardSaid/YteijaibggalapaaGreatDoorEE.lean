/-
  Regions that draw their order: the machine's run.
-/
import Derived.Test.YteijaibggalapaaGreatDoorED
namespace Go.Proofs.YteijaibggalapaaGreatDoor.E
open Go
set_option linter.unusedVariables false
set_option linter.unusedSimpArgs false

section
variable {P : Program} {W0 : World} {F : List Nat} {b : Nat}

theorem wp_false {o : Oper} {a : Act} {w : World} (h : o.wp P a w (fun _ _ => False) (fun _ _ _ => False)) : False := by
  unfold Oper.wp Oper.upon at h
  split at h
  · exact h
  · exact h
  · exact h
  · obtain ⟨e, w', fr, h1, _⟩ := h []
    cases e with
    | returned v => exact h1
    | panicked c => exact h1
    | outgrown => obtain ⟨_, _, h2⟩ := h1; exact h2
  · obtain ⟨v, w', h1, _⟩ := h default []
    exact h1
  · exact h
  · exact h

theorem step_real {ops : Array Oper} {o : Oper} {ao : AOper} (hc : cOper P F ops o = some ao) {K : List AV → AHeap → Prop} {s : List AV} {h : AHeap} {a : Act} {w : World} (hl : L b W0 s h a w) (hk : awOper P ao K s h) :
    ∃ W1 u h' a' w', K (put s ao.dst u) h' ∧ L b W1 (put s ao.dst u) h' a' w' := by
  obtain ⟨ao0, hop, hfz, hdst, hg⟩ := guard_spec hc
  rw [awOper_iff] at hk
  rcases hk with ⟨k1, k2⟩ | ⟨k1, k2⟩
  · refine Classical.byContradiction fun hno => ?_
    refine wp_false (P := P) (o := o) (a := a) (w := w) ?_
    rw [hfz] at k2
    refine aw_soundF hop hl.slots hl.rel k2 fun W1 v u h' w' hu hr hf kk => ?_
    rw [← hdst] at hu
    exact hno ⟨W1, v, h', _, w', kk, hu, by rw [put_defers]; exact hl.defers.fr hf, hr⟩
  · exact ⟨W0, _, h, _, w, k2, hl.skip ao.dst⟩

/-- One operation of a region that draws its order. -/
theorem oper_sound {ops : Array Oper} {Q : Exit → Act → World → Prop} {i : Nat} {o : Oper} {ao : AOper} (hi : ops[i]? = some o) (hc : cOper P F ops o = some ao) {K : List AV → AHeap → Prop} {s : List AV} {h : AHeap} {a : Act} {w : World}
    (hl : L b W0 s h a w) (hk : awOper P ao K s h) {next : Act → World → Prop} (hn : ∀ W1 s' h' a' w', L b W1 s' h' a' w' → Fr W0 h w W1 h' w' → K s' h' → next a' w') : wpOp P ops Q i next a w := by
  obtain ⟨ao0, hop, hfz, hdst, hg⟩ := guard_spec hc
  unfold wpOp
  simp only [hi]
  rw [awOper_iff] at hk
  have hwant : ∀ b, active ao s = some b → Region.wanted o (yielded ops a.tmps) = b ∧ (b = false → ao.dst = o.dst) := by
    intro b hb
    rcases hg with ⟨g1, g2⟩ | ⟨j, want, t, g1, ht, gd, g2⟩
    · unfold active at hb; rw [g2] at hb; cases hb
      exact ⟨by simp [Region.wanted, g1], by simp⟩
    · unfold active at hb; rw [g2] at hb
      simp only at hb
      split at hb <;> cases hb
      · rename_i b' hb'
        have hy := yielded_of hl.slots ht hb'
        exact ⟨by simp [Region.wanted, g1, hy], fun _ => gd⟩
      · rename_i hb'
        have hy := yielded_no hl.slots ht hb'
        exact ⟨by simp [Region.wanted, g1, hy], fun _ => gd⟩
  rcases hk with ⟨k1, k2⟩ | ⟨k1, k2⟩
  · rw [if_pos (hwant _ k1).1]
    rw [hfz] at k2
    refine .inl (aw_soundF hop hl.slots hl.rel k2 fun W1 v u h' w' hu hr hf kk => ?_)
    rw [← hdst] at hu
    exact hn _ _ _ _ _ ⟨hu, by rw [put_defers]; exact hl.defers.fr hf, hr⟩ hf kk
  · rw [if_neg (by rw [(hwant _ k1).1]; simp)]
    have := hl.skip o.dst
    exact hn _ _ _ _ _ this (Fr.refl _ _ _) (by rw [(hwant _ k1).2 rfl] at k2; exact k2)

/-- What the list promises of one operation in it that stands apart of all ahead of it: it goes as it should. -/
theorem extract {ops : Array Oper} {i : DOper} {post : List DOper} {K : List AV → AHeap → Prop} : ∀ (l : List DOper) (pre : List RF) (W0 : World) (s : List AV) (h : AHeap) (a : Act) (w : World), (∀ k ∈ l, apartS k.op i.op = true) → (∀ k ∈ l, ∃ o, cOper P F ops o = some k.op) →
    L b W0 s h a w → awD P (l ++ i :: post) pre K s h → ∃ K' h', awOper P i.op K' s h'
  | [], pre, W0, s, h, a, w, ha, hc, hl, hk => by
    simp only [List.nil_append] at hk
    unfold awD at hk
    split at hk <;> exact ⟨_, _, hk⟩
  | k :: l, pre, W0, s, h, a, w, ha, hc, hl, hk => by
    obtain ⟨o, ho⟩ := hc k (by simp)
    have hba := apartS_symm (ha k (by simp))
    have e1 := apartS_spec hba
    simp only [List.cons_append] at hk
    have key : ∃ W1 u h' pre' a' w', awD P (l ++ i :: post) pre' K (put s k.op.dst u) h' ∧ L b W1 (put s k.op.dst u) h' a' w' := by
      unfold awD at hk
      split at hk
      · obtain ⟨W1, u, h', a', w', k1, l1⟩ := step_real ho hl hk; exact ⟨W1, u, h', _, a', w', k1, l1⟩
      · obtain ⟨W1, u, h', a', w', k1, l1⟩ := step_real ho hl hk; exact ⟨W1, u, h', _, a', w', k1.2, l1⟩
      · obtain ⟨W1, u, h', a', w', k1, l1⟩ := step_real ho hl hk; exact ⟨W1, u, h', _, a', w', k1, l1⟩
    obtain ⟨W1, u, h', pre', a', w', k1, l1⟩ := key
    obtain ⟨K', h2, k2⟩ := extract l pre' W1 _ h' a' w' (fun q hq => ha q (by simp [hq])) (fun q hq => hc q (by simp [hq])) l1 k1
    rw [← awOper_put hba] at k2
    exact ⟨_, _, k2⟩

/-- Any operation that may be first, taken first. -/
theorem pull {ops : Array Oper} {i : DOper} {post l : List DOper} {K : List AV → AHeap → Prop} {pre : List RF} {s : List AV} {h : AHeap} {a : Act} {w : World} (ha : ∀ k ∈ l, swapOK k i = true) (hc : ∀ k ∈ l, ∃ o, cOper P F ops o = some k.op)
    (hl : L b W0 s h a w) (hk : awD P (l ++ i :: post) pre K s h) : awOper P i.op (awD P (l ++ post) pre K) s h := by
  have hap : ∀ k ∈ l, apartS k.op i.op = true := fun k hk => by
    have := ha k hk; simp only [swapOK, Bool.and_eq_true] at this; exact this.1
  cases hi : kindOf i.op.op with
  | pure =>
    obtain ⟨K', h', k'⟩ := extract l pre W0 s h a w hap hc hl hk
    rw [quiet_iff (.inl hi)] at k' ⊢
    obtain ⟨u, k1, _⟩ := k'
    have hy : Yields P i.op s u := by
      rcases k1 with ⟨y1, (⟨y2, y3⟩ | ⟨g, n, x, y2, y3⟩)⟩ | ⟨y1, y2⟩
      · exact .inl ⟨y1, y2, y3⟩
      · rw [y2] at hi; cases hi
      · exact .inr ⟨y1, y2⟩
    refine ⟨u, ?_, pull_yields l pre s h hap hy hk⟩
    rcases hy with ⟨y1, y2, y3⟩ | ⟨y1, y2⟩
    · exact .inl ⟨y1, .inl ⟨y2, y3⟩⟩
    · exact .inr ⟨y1, y2⟩
  | read =>
    obtain ⟨v, h1, h2⟩ := pull_read hi l pre s h ha hk
    rw [quiet_iff (.inr hi)]
    exact ⟨v, h1, h2⟩
  | alloc =>
    obtain ⟨K', h', k'⟩ := extract l pre W0 s h a w hap hc hl hk
    rw [awOper_iff] at k' ⊢
    rcases k' with ⟨k1, k2⟩ | ⟨k1, k2⟩
    · obtain ⟨c, f, ob, hA⟩ := aw_alloc' (P := P) hi s
      refine .inl ⟨k1, ?_⟩
      rw [hA] at k2 ⊢
      exact ⟨k2.1, pull_alloc hi f ob l pre s h ha k1 (fun K h hh => ((hA K h).1 hh).2) hk⟩
    · exact .inr ⟨k1, pull_yields l pre s h hap (.inr ⟨k1, rfl⟩) hk⟩
  | eff => exact awOper_mono (fun s' h' k => k.2) (pull_eff hi l pre s h ha hk)

/-! ### Which operations have to be behind which -/

def ancOf (T : List Nat) (o : Oper) : Nat := o.after.toList.foldl (fun m e => if Region.binds .any e then m ||| 2 ^ e.on ||| T.getD e.on 0 else m) 0
def ancT (l : List Oper) : List Nat := l.foldl (fun T o => T ++ [ancOf T o]) []

theorem anc_fold (T : List Nat) (k : Nat) : ∀ (l : List Edge) (m : Nat), (l.foldl (fun m e => if Region.binds .any e then m ||| 2 ^ e.on ||| T.getD e.on 0 else m) m).testBit k = true →
    m.testBit k = true ∨ ∃ e ∈ l, Region.binds .any e = true ∧ (e.on = k ∨ (T.getD e.on 0).testBit k = true)
  | [], m, h => .inl h
  | e :: l, m, h => by
    simp only [List.foldl_cons] at h
    rcases anc_fold T k l _ h with h1 | ⟨e', he', h2⟩
    · by_cases hb : Region.binds .any e = true
      · rw [if_pos hb] at h1
        simp only [Nat.testBit_or, Bool.or_eq_true, Nat.testBit_two_pow, decide_eq_true_eq] at h1
        rcases h1 with (h1 | h1) | h1
        · exact .inl h1
        · exact .inr ⟨e, by simp, hb, .inl h1⟩
        · exact .inr ⟨e, by simp, hb, .inr h1⟩
      · rw [if_neg hb] at h1; exact .inl h1
    · exact .inr ⟨e', by simp [he'], h2⟩

theorem anc_listed {ops : Array Oper} {listed : Array Bool} (hd : ∀ i o, ops[i]? = some o → listed.getD i false = true → ∀ e ∈ o.after, Region.binds .any e = true → listed.getD e.on false = true) :
    ∀ (l done : List Oper) (T : List Nat), done ++ l = ops.toList → T.length = done.length →
    (∀ j o, ops[j]? = some o → (∀ e ∈ o.after, Region.binds .any e = true → listed.getD e.on false = true) → ∀ k, (T.getD j 0).testBit k = true → listed.getD k false = true) →
    (∀ j o, ops[j]? = some o → (∀ e ∈ o.after, Region.binds .any e = true → listed.getD e.on false = true) → ∀ k, ((l.foldl (fun T o => T ++ [ancOf T o]) T).getD j 0).testBit k = true → listed.getD k false = true)
  | [], done, T, h1, h2, h3 => h3
  | x :: l, done, T, h1, h2, h3 => by
    simp only [List.foldl_cons]
    refine anc_listed hd l (done ++ [x]) _ (by simp [h1]) (by simp [h2]) ?_
    intro j o hj hall k hk
    by_cases hlt : j < T.length
    · refine h3 j o hj hall k ?_
      simpa [List.getElem?_append_left hlt] using hk
    · by_cases hj2 : j = T.length
      · subst hj2
        have ho : o = x := by
          have : ops.toList[done.length]? = some o := by rw [← h2]; simpa using hj
          rw [← h1] at this; simp at this; exact this.symm
        subst ho
        simp at hk
        rcases anc_fold T k _ _ hk with hk | ⟨e, he, hb, hk⟩
        · simp at hk
        · have hel := hall e (by simpa using he) hb
          rcases hk with rfl | hk
          · exact hel
          · cases hx : ops[e.on]? with
            | none =>
              have hsz : ops.size ≤ e.on := by simpa using hx
              have hle : done.length ≤ ops.size := by
                have := congrArg List.length h1; simp at this; omega
              have : T.length ≤ e.on := by omega
              simp [List.getElem?_eq_none this] at hk
            | some oe => exact h3 e.on oe hx (hd e.on oe hx hel) k hk
      · have : (T ++ [ancOf T x]).length ≤ j := by simp; omega
        simp [List.getElem?_eq_none this] at hk

theorem ancT_listed {ops : Array Oper} {listed : Array Bool} (hd : ∀ i o, ops[i]? = some o → listed.getD i false = true → ∀ e ∈ o.after, Region.binds .any e = true → listed.getD e.on false = true)
    {j : Nat} (hj : j ∈ Region.ready .any ops listed) {k : Nat} (hk : ((ancT ops.toList).getD j 0).testBit k = true) : listed.getD k false = true := by
  obtain ⟨h0, o, ho, hall⟩ := mem_ready.1 hj
  exact anc_listed hd ops.toList [] [] rfl rfl (fun j o hj hall k hk => by simp at hk) j o ho hall k hk

/-! ### The canonical order -/

def pairOK (T : List Nat) (k i : DOper) : Bool := (T.getD i.tag 0).testBit k.tag || swapOK k i
def pairsOK (T : List Nat) : List DOper → Bool
  | [] => true
  | k :: l => l.all (fun i => pairOK T k i) && pairsOK T l

theorem pairsOK_mid (T : List Nat) : ∀ (l : List DOper) {i : DOper} {post : List DOper}, pairsOK T (l ++ i :: post) = true → (∀ k ∈ l, pairOK T k i = true) ∧ pairsOK T (l ++ post) = true
  | [], i, post, h => by
    simp only [List.nil_append, pairsOK, Bool.and_eq_true] at h
    exact ⟨by simp, h.2⟩
  | k :: l, i, post, h => by
    simp only [List.cons_append, pairsOK, Bool.and_eq_true, List.all_eq_true] at h ⊢
    obtain ⟨h1, h2⟩ := pairsOK_mid T l h.2
    refine ⟨fun q hq => ?_, fun q hq => ?_, h2⟩
    · rcases List.mem_cons.1 hq with rfl | hq
      · exact h.1 i (by simp)
      · exact h1 q hq
    · refine h.1 q ?_
      rcases List.mem_append.1 hq with hq | hq
      · exact List.mem_append.2 (.inl hq)
      · exact List.mem_append.2 (.inr (List.mem_cons.2 (.inr hq)))

def okD (P : Program) (ops : Array Oper) (al : List AOper) (D : List DOper) : Bool :=
  D.length == ops.size && (D.map (·.tag)).all (· < ops.size) && nodupB (D.map (·.tag)) && pairsOK (ancT ops.toList) D
where
  nodupB : List Nat → Bool
    | [] => true
    | x :: l => !l.contains x && nodupB l

theorem nodupB_spec : ∀ {l : List Nat}, okD.nodupB l = true → l.Nodup
  | [], _ => List.nodup_nil
  | x :: l, h => by
    simp only [okD.nodupB, Bool.and_eq_true, Bool.not_eq_true'] at h
    exact List.nodup_cons.2 ⟨by simpa using h.1, nodupB_spec h.2⟩

structure Inv (P : Program) (F : List Nat) (ops : Array Oper) (D : List DOper) (listed : Array Bool) : Prop where
  size : listed.size = ops.size
  nodup : (D.map (·.tag)).Nodup
  all : ∀ j, j < ops.size → listed.getD j true = false → ∃ o ∈ D, o.tag = j
  unl : ∀ o ∈ D, listed.getD o.tag false = false
  real : ∀ o ∈ D, ∃ r, ops[o.tag]? = some r ∧ cOper P F ops r = some o.op
  back : ∀ i o, ops[i]? = some o → ∀ e ∈ o.after, Region.binds .any e = true → e.on < i
  down : ∀ i o, ops[i]? = some o → listed.getD i false = true → ∀ e ∈ o.after, Region.binds .any e = true → listed.getD e.on false = true
  pairs : pairsOK (ancT ops.toList) D = true

theorem Inv.some_ready {ops : Array Oper} {D : List DOper} {listed : Array Bool} (inv : Inv P F ops D listed) : ∀ (n j : Nat), j < n → j < ops.size → listed.getD j false = false → ∃ i, i ∈ Region.ready .any ops listed
  | n + 1, j, hn, hj, hu => by
    obtain ⟨o, ho⟩ : ∃ o, ops[j]? = some o := ⟨ops[j], by simp [hj]⟩
    by_cases hall : ∀ e ∈ o.after, Region.binds .any e = true → listed.getD e.on false = true
    · have hlt : j < listed.size := by rw [inv.size]; exact hj
      exact ⟨j, mem_ready.2 ⟨by simp [hlt] at hu ⊢; exact hu, o, ho, hall⟩⟩
    · simp only [Classical.not_forall] at hall
      obtain ⟨e, he, hb, hne⟩ := hall
      have := inv.back j o ho e he hb
      exact inv.some_ready n e.on (by omega) (by omega) (by simpa using hne)

theorem any_sound {ops : Array Oper} {K : List AV → AHeap → Prop} {Q : Exit → Act → World → Prop} : ∀ (fuel : Nat) (D : List DOper) (listed : Array Bool) (W0 : World) (s : List AV) (h : AHeap) (a : Act) (w : World), D.length = fuel → Inv P F ops D listed →
    awD P D [] K s h → L b W0 s h a w → (∀ W1 s' h' a' w', L b W1 s' h' a' w' → Fr W0 h w W1 h' w' → K s' h' → Q .normal a' w') → wpAny P .any ops Q fuel listed a w
  | 0, D, listed, W0, s, h, a, w, hf, inv, hk, hl, hq => by
    obtain rfl : D = [] := List.length_eq_zero_iff.1 hf
    refine ⟨?_, hq W0 s h a w hl (Fr.refl _ _ _) hk⟩
    refine List.eq_nil_iff_forall_not_mem.2 fun j hj => ?_
    obtain ⟨h0, o, ho, hall⟩ := mem_ready.1 hj
    obtain ⟨o, ho, _⟩ := inv.all j (Array.getElem?_eq_some_iff.1 ho).1 h0
    cases ho
  | fuel + 1, D, listed, W0, s, h, a, w, hf, inv, hk, hl, hq => by
    refine ⟨fun hr => ?_, fun j hj => ?_⟩
    · -- the canonical order's head is ready, so 'ready' is not empty: the lowest unlisted one is
      exfalso
      obtain ⟨o, D', rfl⟩ : ∃ o D', D = o :: D' := by
        cases D with
        | nil => simp at hf
        | cons o D' => exact ⟨o, D', rfl⟩
      obtain ⟨r, ho, _⟩ := inv.real o (by simp)
      obtain ⟨i, hi⟩ := inv.some_ready (o.tag + 1) o.tag (by omega) (Array.getElem?_eq_some_iff.1 ho).1 (inv.unl o (by simp))
      rw [hr] at hi; cases hi
    · obtain ⟨h0, r, hr, hall⟩ := mem_ready.1 hj
      obtain ⟨i, hi, rfl⟩ := inv.all j (Array.getElem?_eq_some_iff.1 hr).1 h0
      obtain ⟨l, post, rfl⟩ := List.append_of_mem hi
      obtain ⟨r', hr', hc⟩ := inv.real i hi
      rw [hr] at hr'; cases hr'
      obtain ⟨p1, p2⟩ := pairsOK_mid _ l inv.pairs
      have hsw : ∀ k ∈ l, swapOK k i = true := fun k hkl => by
        have := p1 k hkl
        simp only [pairOK, Bool.or_eq_true] at this
        rcases this with this | this
        · have h1 := ancT_listed inv.down hj this
          rw [inv.unl k (List.mem_append.2 (.inl hkl))] at h1; cases h1
        · exact this
      have hk' := pull (ops := ops) hsw (fun k hkl => by
        obtain ⟨r, _, h2⟩ := inv.real k (List.mem_append.2 (.inl hkl)); exact ⟨r, h2⟩) hl hk
      have hlt : i.tag < listed.size := by rw [inv.size]; exact (Array.getElem?_eq_some_iff.1 hr).1
      have hnd := inv.nodup
      simp only [List.map_append, List.map_cons] at hnd
      have hnd2 : (i.tag :: (l ++ post).map (·.tag)).Nodup := by
        rw [List.map_append]; exact (List.perm_middle.nodup_iff).1 hnd
      have hne : ∀ o ∈ l ++ post, o.tag ≠ i.tag := fun o ho e => (List.nodup_cons.1 hnd2).1 (by rw [← e]; exact List.mem_map_of_mem ho)
      have hsub : ∀ o ∈ l ++ post, o ∈ l ++ i :: post := fun o ho => by
        rcases List.mem_append.1 ho with ho | ho
        · exact List.mem_append.2 (.inl ho)
        · exact List.mem_append.2 (.inr (List.mem_cons.2 (.inr ho)))
      have inv' : Inv P F ops (l ++ post) (listed.setIfInBounds i.tag true) := by
        refine ⟨by simp [inv.size], (List.nodup_cons.1 hnd2).2, fun j hj hu => ?_, fun o ho => ?_, fun o ho => inv.real o (hsub o ho), inv.back, fun j o hjo hlj e he hb => ?_, p2⟩
        · by_cases hji : i.tag = j
          · subst hji; simp [hlt] at hu
          · rw [getD_set_ne true hji] at hu
            obtain ⟨o, ho, rfl⟩ := inv.all j hj hu
            rcases List.mem_append.1 ho with ho | ho
            · exact ⟨o, List.mem_append.2 (.inl ho), rfl⟩
            · rcases List.mem_cons.1 ho with rfl | ho
              · exact absurd rfl hji
              · exact ⟨o, List.mem_append.2 (.inr ho), rfl⟩
        · rw [getD_set_ne false (fun e => hne o ho e.symm)]; exact inv.unl o (hsub o ho)
        · by_cases hji : i.tag = j
          · subst hji
            rw [hr] at hjo; cases hjo
            exact getD_set_true (hall e he hb)
          · rw [getD_set_ne false hji] at hlj
            exact getD_set_true (inv.down j o hjo hlj e he hb)
      refine oper_sound hr hc hl hk' fun W1 s' h' a' w' l' f' k' => ?_
      exact any_sound fuel (l ++ post) _ W1 s' h' a' w' (by simp at hf ⊢; omega) inv' k' l' fun W2 s2 h2 a2 w2 l2 f2 k2 => hq W2 s2 h2 a2 w2 l2 (f'.trans f2) k2

/-- Effects in the text's order; ahead of each what it has to be behind, and all that is pure or reads and may go. -/
structure Placed where
  mask : Nat
  rev : List Nat

def Placed.add (p : Placed) (i : Nat) : Placed := if p.mask.testBit i then p else ⟨p.mask ||| 2 ^ i, i :: p.rev⟩
def sweep (T : List Nat) (ks : List Kind) (n : Nat) (p : Placed) : Placed :=
  (List.range n).foldl (fun p i => if (match ks.getD i .eff with | .pure | .read => true | _ => false) && (T.getD i 0 &&& p.mask == T.getD i 0) then p.add i else p) p
def needs (T : List Nat) (n e : Nat) (p : Placed) : Placed := (List.range n).foldl (fun p i => if (T.getD e 0).testBit i then p.add i else p) p
def order (T : List Nat) (ks : List Kind) (n : Nat) : List Nat :=
  let p := (List.range n).foldl (fun p i => if ks.getD i .pure = .eff then ((sweep T ks n (needs T n i (sweep T ks n p))).add i) else p) ⟨0, []⟩
  ((List.range n).foldl Placed.add p).rev.reverse

/-- Readers ahead of an effect that may as well come behind it. -/
def unOf (T : List Nat) (ks : List Kind) (before : List Nat) (i : Nat) : List Nat :=
  if ks.getD i .pure = .eff then before.filter fun k => ks.getD k .pure = .read && !(T.getD i 0).testBit k else []

def mkD (al : List AOper) (T : List Nat) (ks : List Kind) : List Nat → List Nat → List DOper
  | _, [] => []
  | before, i :: l => match al[i]? with
    | some ao => ⟨i, ao, unOf T ks before i, false⟩ :: mkD al T ks (i :: before) l
    | none => []

def markD (D : List DOper) : List DOper := D.map fun o => { o with keep := D.any fun e => e.un.contains o.tag }

def backB : Nat → List Oper → Bool
  | _, [] => true
  | i, o :: l => o.after.all (fun e => !Region.binds .any e || decide (e.on < i)) && backB (i + 1) l

def cRegD (P : Program) (F : List Nat) (ops : Array Oper) : Option (List DOper) :=
  match cOpers P F ops ops.toList with
  | none => none
  | some al =>
    let T := ancT ops.toList
    let ks := al.map fun o => kindOf o.op
    let D := markD (mkD al T ks [] (order T ks ops.size))
    if okD P ops al D && backB 0 ops.toList then some D else none

theorem backB_spec (l : List Oper) : ∀ (i j : Nat) (o : Oper), backB i l = true → l[j]? = some o → ∀ e ∈ o.after, Region.binds .any e = true → e.on < i + j := by
  induction l with
  | nil => intro i j o h hj; simp at hj
  | cons x l ih =>
    intro i j o h hj e he hb
    rw [backB, Bool.and_eq_true] at h
    cases j with
    | zero =>
      rw [List.getElem?_cons_zero] at hj; cases hj
      have := Array.all_eq_true_iff_forall_mem.1 h.1 e he
      rw [hb] at this
      simpa using this
    | succ j =>
      rw [List.getElem?_cons_succ] at hj
      have := ih (i + 1) j o h.2 hj e he hb
      omega

theorem cOpers_get {ops : Array Oper} : ∀ {l : List Oper} {al : List AOper}, cOpers P F ops l = some al → ∀ {i : Nat} {ao : AOper}, al[i]? = some ao → ∃ o, l[i]? = some o ∧ cOper P F ops o = some ao
  | [], al, h, i, ao, hi => by simp [cOpers] at h; subst h; simp at hi
  | x :: l, al, h, i, ao, hi => by
    simp only [cOpers] at h
    split at h <;> cases h
    rename_i y ys h1 h2
    cases i with
    | zero => simp at hi; subst hi; exact ⟨x, rfl, h1⟩
    | succ i => simpa using cOpers_get h2 (by simpa using hi)

theorem mkD_mem {al : List AOper} {T : List Nat} {ks : List Kind} : ∀ {l before : List Nat} {o : DOper}, o ∈ mkD al T ks before l → al[o.tag]? = some o.op
  | [], before, o, h => by simp [mkD] at h
  | i :: l, before, o, h => by
    simp only [mkD] at h
    split at h
    · rename_i ao e
      rcases List.mem_cons.1 h with rfl | h
      · exact e
      · exact mkD_mem h
    · cases h

theorem len_le : ∀ (n : Nat) (l : List Nat), l.Nodup → (∀ x ∈ l, x < n) → l.length ≤ n
  | 0, [], _, _ => by simp
  | 0, x :: l, _, h => by have := h x (by simp); omega
  | n + 1, l, hn, hl => by
    by_cases hmem : n ∈ l
    · have := len_le n (l.erase n) (hn.erase n) (fun x hx => by
        have h2 := hl x (List.mem_of_mem_erase hx)
        have : x ≠ n := fun e => by subst e; exact (List.Nodup.not_mem_erase hn) hx
        omega)
      rw [List.length_erase_of_mem hmem] at this
      omega
    · have := len_le n l hn (fun x hx => by
        have h2 := hl x hx
        have : x ≠ n := fun e => hmem (e ▸ hx)
        omega)
      omega

theorem all_of_nodup : ∀ (n : Nat) (l : List Nat), l.Nodup → (∀ x ∈ l, x < n) → l.length = n → ∀ j, j < n → j ∈ l
  | 0, l, _, _, _, j, hj => by omega
  | n + 1, l, hn, hl, hlen, j, hj => by
    have hmem : n ∈ l := by
      refine Classical.byContradiction fun hno => ?_
      have : ∀ x ∈ l, x < n := fun x hx => by
        have := hl x hx
        have : x ≠ n := fun e => hno (e ▸ hx)
        omega
      have := len_le n l hn this
      omega
    by_cases e : j = n
    · rw [e]; exact hmem
    · have h1 : (l.erase n).Nodup := hn.erase n
      have := all_of_nodup n (l.erase n) h1 (fun x hx => by
        have h2 := hl x (List.mem_of_mem_erase hx)
        have : x ≠ n := fun e => by subst e; exact (List.Nodup.not_mem_erase hn) hx
        omega) (by rw [List.length_erase_of_mem hmem]; omega) j (by omega)
      exact List.mem_of_mem_erase this

theorem regD_sound {ops : Array Oper} {D : List DOper} (hc : cRegD P F ops = some D) {K : List AV → AHeap → Prop} {Q : Exit → Act → World → Prop} {s : List AV} {h : AHeap} {a : Act} {w : World} (hl : L b W0 s h a w)
    (hk : awD P D [] K s h) (hq : ∀ W1 s' h' a' w', L b W1 s' h' a' w' → Fr W0 h w W1 h' w' → K s' h' → Q .normal a' w') : wpAny P .any ops Q ops.size (Array.replicate ops.size false) a w := by
  unfold cRegD at hc
  split at hc
  · cases hc
  · rename_i al hal
    simp only at hc
    split at hc
    · rename_i hok
      cases hc
      simp only [okD, Bool.and_eq_true, beq_iff_eq, List.all_eq_true, decide_eq_true_eq] at hok
      obtain ⟨⟨⟨⟨o1, o2⟩, o3⟩, o4⟩, o5⟩ := hok
      have hnd := nodupB_spec o3
      refine any_sound (F := F) ops.size _ _ W0 s h a w o1 ⟨by simp, hnd, fun j hj _ => ?_, fun o ho => ?_, fun o ho => ?_, fun i o hi e he hb => ?_, fun i o hi hli => ?_, o4⟩ hk hl hq
      · have := all_of_nodup ops.size _ hnd o2 (by simpa using o1) j hj
        obtain ⟨o, ho, e⟩ := List.mem_map.1 this
        exact ⟨o, ho, e⟩
      · have := o2 o.tag (List.mem_map_of_mem ho)
        simp [this]
      · simp only [markD, List.mem_map] at ho
        obtain ⟨o', ho', rfl⟩ := ho
        obtain ⟨r, h1, h2⟩ := cOpers_get hal (mkD_mem ho')
        exact ⟨r, by simpa using h1, h2⟩
      · have := backB_spec _ 0 i o o5 (by simpa using hi) e he hb
        omega
      · have hlt := (Array.getElem?_eq_some_iff.1 hi).1
        simp [hlt] at hli
    · cases hc

end
end Go.Proofs.YteijaibggalapaaGreatDoor.E
