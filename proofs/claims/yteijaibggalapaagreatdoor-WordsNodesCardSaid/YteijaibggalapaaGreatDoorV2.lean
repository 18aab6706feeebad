/-
  What the evaluator does at the operations that look at no memory, and that the same holds of the abstract values that its values stand for.
-/
import Derived.Test.YteijaibggalapaaGreatDoorV1
namespace Go.Proofs.YteijaibggalapaaGreatDoor.E
open Go
set_option linter.unusedVariables false
set_option linter.unusedSimpArgs false

def fillG (e : AArg → AV) : List AV → List (Nat × Nat × AArg) → Option (List AV)
  | cs, [] => some cs
  | cs, (off, n, x) :: rest =>
    match cellsOf (e x) with
    | some l => if l.length = n ∧ off + n ≤ cs.length then fillG e (splice cs off l) rest else none
    | none => none

def catG (e : AArg → AV) (esz : Nat) : List AArg → Option (List AV)
  | [] => some []
  | x :: rest => match cellsOf (e x), catG e esz rest with
    | some l, some r => if l.length = esz then some (l ++ r) else none
    | _, _ => none

theorem fill_eq (s : List AV) : ∀ (ps : List (Nat × Nat × AArg)) (cs : List AV), fillA s cs ps = fillG (ev s) cs ps
  | [], cs => rfl
  | (o, n, x) :: ps, cs => by simp only [fillA, fillG, fill_eq s ps]; rfl
theorem cat_eq (s : List AV) (n : Nat) : ∀ ps : List AArg, catA s n ps = catG (ev s) n ps
  | [] => rfl
  | x :: ps => by simp only [catA, catG, cat_eq s n ps]; rfl

/-- 'pv' over any reading of the arguments. -/
def pvG (e : AArg → AV) : AOp → Option AV
  | .mv x => some (e x)
  | .pick c a b => match e c with
    | .bool t => some (if t then e a else e b)
    | _ => none
  | .build z ps => (fillG e z ps).map .agg
  | .nilCheck x => match e x with
    | .ptr a b => some (.ptr a b)
    | .gp a b => some (.gp a b)
    | .rp cs => some (.rp cs)
    | .fn f c => some (.fn f c)
    | .bd f c => some (.bd f c)
    | _ => none
  | .bin op x y => binA op (e x) (e y)
  | .s2b x => match e x with
    | .str b => some (.ro (bcells b) b.size false)
    | _ => none
  | .mki t x => some (.iface t (e x))
  | .eqi neg x => match e x with
    | .nili => some (.bool (!neg))
    | .iface _ _ => some (.bool neg)
    | _ => none
  | .eqb neg x y => match e x, e y with
    | .bool a, .bool b => some (.bool (neg ^^ (a == b)))
    | _, _ => none
  | .eqn k neg x y => (nilA k (e x) (e y)).map fun b => .bool (neg ^^ b)
  | .eqs neg ks x y => match e x, e y with
    | .agg a, .agg b => (eqCells ks a b).map fun b => .bool (neg ^^ b)
    | _, _ => none
  | .un op x => match op, e x with
    | .neg, .int k n => some (.int k (k.wrap (0 - n)))
    | .not, .bool b => some (.bool (!b))
    | _, _ => none
  | .conv k x => match e x with
    | .int _ n => some (.int k (k.wrap n))
    | _ => none
  | .makeFunc f caps => some (.fn f (caps.map e))
  | .bindF f first => some (.bd f (first.map e))
  | .field g off n x => match e x with
    | .agg cs => if g then (if off + n ≤ cs.length then some (.agg ((cs.drop off).take n)) else none) else cs[off]?
    | _ => none
  | .fieldAddr off x => match e x with
    | .ptr a o => some (.ptr a (o + off))
    | .gp a o => some (.gp a (o + off))
    | .rp cs => some (.rp (cs.drop off))
    | _ => none
  | .indexAddr esz x i => match e x, e i with
    | .sl id off len _, .int _ n => if 0 ≤ n ∧ n < (len : Int) then some (.ptr id (off + n.toNat * esz)) else none
    | .ro cs len _, .int _ n => if 0 ≤ n ∧ n < (len : Int) then some (.rp (cs.drop (n.toNat * esz))) else none
    | _, _ => none
  | .indexArr len esz x i => match e x, e i with
    | .ptr id off, .int _ n => if 0 ≤ n ∧ n < (len : Int) then some (.ptr id (off + n.toNat * esz)) else none
    | .gp id off, .int _ n => if 0 ≤ n ∧ n < (len : Int) then some (.gp id (off + n.toNat * esz)) else none
    | .rp cs, .int _ n => if 0 ≤ n ∧ n < (len : Int) then some (.rp (cs.drop (n.toNat * esz))) else none
    | _, _ => none
  | .extract x i => match e x with
    | .tup vs => vs[i]?
    | _ => none
  | .len g x => lenA g (e x)
  | .min xs => match xs.map e with
    | x :: r => minA x r
    | [] => none
  | .max xs => match xs.map e with
    | x :: r => maxA x r
    | [] => none
  | .lit esz ps => (catG e esz ps).map fun l => .ro l ps.length true
  | .idxS x i => match e x, e i with
    | .str b, .int _ n => if 0 ≤ n then (b[n.toNat]?).map fun c => .int .u8 c.toNat else none
    | _, _ => none
  | .idxV g m n x i => match e x, e i with
    | .agg cs, .int _ k => if 0 ≤ k ∧ k < (m : Int) then (if g then (if k.toNat * n + n ≤ cs.length then some (.agg ((cs.drop (k.toNat * n)).take n)) else none) else cs[k.toNat * n]?) else none
    | _, _ => none
  | .boxF x => (cellsOf (e x)).map .rp
  | .sap n x => match e x with
    | .sl id off len _ => if n ≤ len then some (.ptr id off) else none
    | .ro cs len _ => if n ≤ len ∧ 0 < len then some (.rp cs) else none
    | _ => none
  | .sliceS x lo hi => match e x with
    | .str b => strA b (lo.map e) (hi.map e)
    | _ => none
  | _ => none

/-- The operations that 'pvG' speaks of. -/
def plainP : AOp → Bool
  | .mv _ | .pick .. | .build .. | .nilCheck _ | .bin .. | .s2b _ | .mki .. | .eqi .. | .eqb .. | .eqn .. | .eqs .. | .un .. | .conv .. | .makeFunc .. | .bindF .. | .field .. | .fieldAddr .. | .indexAddr .. | .indexArr .. | .extract .. | .len .. | .min _ | .max _ | .lit .. | .idxS .. | .idxV .. | .boxF _ | .sap .. | .sliceS .. => true
  | _ => false

theorem pv_eq {s : List AV} {o : AOp} (h : plainP o = true) : pv s o = pvG (ev s) o := by
  cases o <;> first | (cases h; done) | rfl | skip
  case build z ps => simp only [pv, pvG, fill_eq]
  case lit n ps => simp only [pv, pvG, cat_eq]

def okArg : AArg → Bool
  | .c v => idF v
  | .t _ => true

/-- Nothing that stands in the code names a block. -/
def okOp (o : AOp) : Bool := (argsOf o).all okArg && (match o with
  | .alloc z | .build z _ | .makeSlice _ z _ _ | .appendN _ _ z _ _ | .clear z _ => idFs z
  | .mapOp (.get _ z _) _ => idF z
  | _ => true)

section
variable {E : List Blk} {e e' : AArg → AV}

theorem map_ren : ∀ {l : List AArg}, (∀ x ∈ l, Ren E (e x) (e' x)) → Rens E (l.map e) (l.map e')
  | [], _ => .nil
  | x :: l, h => .cons (h x (by simp)) (map_ren fun y hy => h y (by simp [hy]))

theorem fill_ren : ∀ {ps : List (Nat × Nat × AArg)} {cs cs' l : List AV}, (∀ x ∈ ps.map (·.2.2), Ren E (e x) (e' x)) → Rens E cs cs' → fillG e cs ps = some l → ∃ l', fillG e' cs' ps = some l' ∧ Rens E l l'
  | [], cs, cs', l, _, r, h => by simp [fillG] at h ⊢; subst h; exact r
  | (o, n, x) :: ps, cs, cs', l, hx, r, h => by
    simp only [fillG] at h ⊢
    split at h
    · rename_i c hc
      obtain ⟨c', h1, h2⟩ := (hx x (by simp)).co hc
      rw [h1]; simp only
      split at h
      · rename_i hh
        rw [if_pos (by rw [h2.length, r.length]; exact hh)]
        exact fill_ren (fun y hy => hx y (by simp at hy ⊢; exact .inr hy)) (r.spl o h2) h
      · cases h
    · cases h

theorem cat_ren {n : Nat} : ∀ {ps : List AArg} {l : List AV}, (∀ x ∈ ps, Ren E (e x) (e' x)) → catG e n ps = some l → ∃ l', catG e' n ps = some l' ∧ Rens E l l'
  | [], l, _, h => by simp [catG] at h ⊢; subst h; exact .nil
  | x :: ps, l, hx, h => by
    simp only [catG] at h ⊢
    split at h
    · rename_i c r hc hr
      obtain ⟨c', h1, h2⟩ := (hx x (by simp)).co hc
      obtain ⟨r', h3, h4⟩ := cat_ren (fun y hy => hx y (by simp [hy])) hr
      rw [h1, h3]; simp only
      split at h
      · rename_i hh
        cases h
        rw [if_pos (by rw [h2.length]; exact hh)]
        exact ⟨_, rfl, h2.append h4⟩
      · cases h
    · cases h

theorem binA_leaf {op : BinOp} {x y v : AV} (h : binA op x y = some v) : leafA x = true ∧ leafA y = true ∧ leafA v = true := by
  unfold binA at h
  split at h
  · refine ⟨rfl, rfl, ?_⟩
    repeat' (split at h)
    all_goals first | (cases h; rfl) | cases h
  · refine ⟨rfl, rfl, ?_⟩
    repeat' (split at h)
    all_goals first | (cases h; rfl) | cases h
  · cases h

theorem eqCells_ren : ∀ {ks : List CK} {a b a' b' : List AV} {t : Bool}, Rens E a a' → Rens E b b' → eqCells ks a b = some t → eqCells ks a' b' = some t
  | [], _, _, _, _, _, .nil, .nil, h => h
  | k :: ks, _, _, _, _, t, .cons (x := x) (y := x') r1 r2, .cons (x := y) (y := y') q1 q2, h => by
    simp only [eqCells] at h ⊢
    split at h
    · rename_i u w h1 h2
      have hx : leafA x = true ∧ leafA y = true := by
        cases k <;> cases x <;> first | (cases h1; done) | (cases y <;> first | (cases h1; done) | exact ⟨rfl, rfl⟩)
      rw [r1.leaf_eq hx.1, q1.leaf_eq hx.2, h1, eqCells_ren r2 q2 h2]
      exact h
    · cases h
  | [], _, _, _, _, _, .cons _ _, .nil, h => by simp [eqCells] at h
  | [], _, _, _, _, _, .cons _ _, .cons _ _, h => by simp [eqCells] at h
  | [], _, _, _, _, _, .nil, .cons _ _, h => by simp [eqCells] at h
  | _ :: _, _, _, _, _, _, .nil, .nil, h => by simp [eqCells] at h
  | _ :: _, _, _, _, _, _, .nil, .cons _ _, h => by simp [eqCells] at h
  | _ :: _, _, _, _, _, _, .cons _ _, .nil, h => by simp [eqCells] at h

/-- What holding a value against nil looks at. -/
def ncls : AV → Nat
  | .nilp => 1 | .ptr .. => 2 | .rp _ => 3 | .nils => 4 | .sl .. => 5 | .rz => 6 | .ro _ 0 _ => 7 | .ro _ (_ + 1) _ => 8
  | .nilf => 9 | .fn .. => 10 | .nilm => 11 | .map _ => 12 | _ => 0

def nclsA (k : NK) (x y : Nat) : Option Bool :=
  match k, x, y with
  | .p, 1, 1 | .s, 4, 4 | .f, 9, 9 | .m, 11, 11 => some true
  | .p, 2, 1 | .p, 1, 2 | .p, 3, 1 | .p, 1, 3 => some false
  | .s, 5, 4 | .s, 4, 5 | .s, 6, 4 | .s, 4, 6 => some false
  | .s, 8, 4 | .s, 4, 8 => some false
  | .f, 10, 9 | .f, 9, 10 => some false
  | .m, 12, 11 | .m, 11, 12 => some false
  | _, _, _ => none

theorem nilA_cls (k : NK) (x y : AV) : nilA k x y = nclsA k (ncls x) (ncls y) := by
  cases x with
  | ro cs n ex => cases n <;> cases y with
    | ro cs' n' ex' => cases n' <;> cases k <;> rfl
    | _ => cases k <;> rfl
  | _ => cases y with
    | ro cs' n' ex' => cases n' <;> cases k <;> rfl
    | _ => cases k <;> rfl

theorem ncls_ren {x y : AV} (r : Ren E x y) : ncls y = ncls x := by
  cases r with
  | ro h => rename_i n _; cases n <;> rfl
  | _ => rfl

theorem lenA_ren {g : Bool} {x y v : AV} (r : Ren E x y) (h : lenA g x = some v) : lenA g y = some v ∧ leafA v = true := by
  cases r with
  | leaf hx => exact ⟨h, by cases g <;> cases x <;> first | (cases h; done) | (cases h; rfl)⟩
  | _ => cases g <;> first | (cases h; done) | (cases h; exact ⟨rfl, rfl⟩)

theorem minA_ren : ∀ {r r' : List AV} {x y v : AV}, Ren E x y → Rens E r r' → minA x r = some v → ∃ v', minA y r' = some v' ∧ Ren E v v'
  | [], _, x, y, v, rx, .nil, h => by simp [minA] at h ⊢; subst h; exact rx
  | z :: r, _, x, y, v, rx, .cons rz rr, h => by
    cases x <;> try (simp [minA] at h; done)
    cases z <;> try (simp [minA] at h; done)
    rw [rx.leaf_eq rfl, rz.leaf_eq rfl]
    simp only [minA] at h ⊢
    exact minA_ren (.leaf rfl) rr h
theorem maxA_ren : ∀ {r r' : List AV} {x y v : AV}, Ren E x y → Rens E r r' → maxA x r = some v → ∃ v', maxA y r' = some v' ∧ Ren E v v'
  | [], _, x, y, v, rx, .nil, h => by simp [maxA] at h ⊢; subst h; exact rx
  | z :: r, _, x, y, v, rx, .cons rz rr, h => by
    cases x <;> try (simp [maxA] at h; done)
    cases z <;> try (simp [maxA] at h; done)
    rw [rx.leaf_eq rfl, rz.leaf_eq rfl]
    simp only [maxA] at h ⊢
    exact maxA_ren (.leaf rfl) rr h

theorem bnd_ren {o : Option AArg} (hx : ∀ x ∈ o.toList, Ren E (e x) (e' x)) {y d m : Nat} (h : bnd (o.map e) y d = some m) : bnd (o.map e') y d = some m := by
  cases o with
  | none => exact h
  | some x =>
    simp only [Option.map_some] at h ⊢
    have r := hx x (by simp)
    cases hv : e x <;> rw [hv] at h <;> try (simp [bnd] at h; done)
    rw [hv] at r
    rw [r.leaf_eq rfl]; exact h

theorem bcells_idF (b : ByteArray) : idFs (bcells b) = true := by
  unfold bcells
  generalize b.data.toList = l
  induction l with
  | nil => rfl
  | cons x l ih => simp only [List.map_cons, idFs, idF, ih, Bool.and_self]

theorem pvG_ren {o : AOp} {v : AV} (hs : plainP o = true) (hz : okOp o = true) (he : ∀ x ∈ argsOf o, Ren E (e x) (e' x)) (h : pvG e o = some v) : ∃ v', pvG e' o = some v' ∧ Ren E v v' := by
  cases o <;> first | (cases hs; done) | skip
  case mv x => simp only [pvG, Option.some.injEq] at h ⊢; subst h; exact ⟨_, rfl, he x (by simp [argsOf])⟩
  case pick c a b =>
    have hc := he c (by simp [argsOf]); have ha := he a (by simp [argsOf]); have hb := he b (by simp [argsOf])
    simp only [pvG] at h ⊢
    split at h
    · rename_i t ht
      rw [ht] at hc; rw [hc.leaf_eq rfl]; cases h
      cases t
      · exact ⟨_, rfl, hb⟩
      · exact ⟨_, rfl, ha⟩
    · cases h
  case build z ps =>
    simp only [pvG, Option.map_eq_some_iff] at h
    obtain ⟨l, h1, rfl⟩ := h
    have hz' : idFs z = true := by simp only [okOp, Bool.and_eq_true] at hz; exact hz.2
    obtain ⟨l', h2, h3⟩ := fill_ren (fun x hx => he x (by simpa [argsOf] using hx)) (idFs_ren z hz') h1
    exact ⟨_, by simp only [pvG, h2, Option.map_some], .agg h3⟩
  case nilCheck x =>
    have hx := he x (by simp [argsOf])
    simp only [pvG] at h ⊢
    revert hx h
    generalize e x = a; generalize e' x = a'
    intro h hx
    cases hx with
    | leaf hl => exact ⟨v, h, by cases a <;> first | (cases h; done) | (cases h; exact .leaf rfl) | cases hl⟩
    | ptr q => cases h; exact ⟨_, rfl, .ptr q⟩
    | rp q => cases h; exact ⟨_, rfl, .rp q⟩
    | fn q => cases h; exact ⟨_, rfl, .fn q⟩
    | bd q => cases h; exact ⟨_, rfl, .bd q⟩
    | _ => cases h
  case bin op x y =>
    have hx := he x (by simp [argsOf]); have hy := he y (by simp [argsOf])
    simp only [pvG] at h ⊢
    obtain ⟨l1, l2, l3⟩ := binA_leaf h
    rw [hx.leaf_eq l1, hy.leaf_eq l2]
    exact ⟨v, h, .leaf l3⟩
  case s2b x =>
    have hx := he x (by simp [argsOf])
    simp only [pvG] at h ⊢
    split at h
    · rename_i b hb
      rw [hb] at hx; rw [hx.leaf_eq rfl]; cases h
      exact ⟨_, rfl, .ro (idFs_ren _ (bcells_idF b))⟩
    · cases h
  case mki t x =>
    simp only [pvG, Option.some.injEq] at h ⊢; subst h
    exact ⟨_, rfl, .iface (he x (by simp [argsOf]))⟩
  case eqi neg x =>
    have hx := he x (by simp [argsOf])
    simp only [pvG] at h ⊢
    split at h
    · rename_i hb; rw [hb] at hx; rw [hx.leaf_eq rfl]; cases h; exact ⟨_, rfl, .leaf rfl⟩
    · rename_i t u hb; rw [hb] at hx
      cases h
      generalize e' x = a' at hx ⊢
      cases hx with
      | leaf hl => cases hl
      | iface q => exact ⟨_, rfl, .leaf rfl⟩
    · cases h
  case eqb neg x y =>
    have hx := he x (by simp [argsOf]); have hy := he y (by simp [argsOf])
    simp only [pvG] at h ⊢
    split at h
    · rename_i a b h1 h2
      rw [h1] at hx; rw [h2] at hy
      rw [hx.leaf_eq rfl, hy.leaf_eq rfl]; cases h
      exact ⟨_, rfl, .leaf rfl⟩
    · cases h
  case eqn k neg x y =>
    have hx := he x (by simp [argsOf]); have hy := he y (by simp [argsOf])
    simp only [pvG, nilA_cls, ncls_ren hx, ncls_ren hy] at h ⊢
    simp only [Option.map_eq_some_iff] at h ⊢
    obtain ⟨b, h1, rfl⟩ := h
    exact ⟨_, ⟨b, h1, rfl⟩, .leaf rfl⟩
  case eqs neg ks x y =>
    have hx := he x (by simp [argsOf]); have hy := he y (by simp [argsOf])
    simp only [pvG] at h ⊢
    split at h
    · rename_i a b h1 h2
      rw [h1] at hx; rw [h2] at hy
      simp only [Option.map_eq_some_iff] at h
      obtain ⟨t, h3, rfl⟩ := h
      generalize e' x = a' at hx ⊢
      generalize e' y = b' at hy ⊢
      cases hx with
      | leaf hl => cases hl
      | agg q =>
        cases hy with
        | leaf hl => cases hl
        | agg q2 => exact ⟨_, by simp only [eqCells_ren q q2 h3, Option.map_some], .leaf rfl⟩
    · cases h
  case un op x =>
    have hx := he x (by simp [argsOf])
    simp only [pvG] at h ⊢
    split at h
    · rename_i k n hb; rw [hb] at hx; rw [hx.leaf_eq rfl]; cases h; exact ⟨_, rfl, .leaf rfl⟩
    · rename_i b hb; rw [hb] at hx; rw [hx.leaf_eq rfl]; cases h; exact ⟨_, rfl, .leaf rfl⟩
    · cases h
  case conv k x =>
    have hx := he x (by simp [argsOf])
    simp only [pvG] at h ⊢
    split at h
    · rename_i k n hb; rw [hb] at hx; rw [hx.leaf_eq rfl]; cases h; exact ⟨_, rfl, .leaf rfl⟩
    · cases h
  case makeFunc f caps =>
    simp only [pvG, Option.some.injEq] at h ⊢; subst h
    exact ⟨_, rfl, .fn (map_ren fun x hx => he x (by simpa [argsOf] using hx))⟩
  case bindF f caps =>
    simp only [pvG, Option.some.injEq] at h ⊢; subst h
    exact ⟨_, rfl, .bd (map_ren fun x hx => he x (by simpa [argsOf] using hx))⟩
  case field g off n x =>
    have hx := he x (by simp [argsOf])
    simp only [pvG] at h ⊢
    split at h
    · rename_i cs hb; rw [hb] at hx
      generalize e' x = a' at hx ⊢
      cases hx with
      | leaf hl => cases hl
      | agg q =>
        simp only
        split at h
        · rename_i hg
          rw [if_pos hg, q.length]
          split at h
          · rename_i hh; cases h; rw [if_pos hh]; exact ⟨_, rfl, .agg ((q.drop _).take _)⟩
          · cases h
        · rename_i hg
          rw [if_neg hg]
          exact q.get off h
    · cases h
  case fieldAddr off x =>
    have hx := he x (by simp [argsOf])
    simp only [pvG] at h ⊢
    revert hx h
    generalize e x = a; generalize e' x = a'
    intro h hx
    cases hx with
    | leaf hl => exact ⟨v, h, by cases a <;> first | (cases h; done) | (cases h; exact .leaf rfl) | cases hl⟩
    | ptr q =>
      rename_i i o b
      cases h
      refine ⟨_, rfl, ?_⟩
      rw [show o + b.sh + off = (o + off) + b.sh by omega]
      exact .ptr q
    | rp q => cases h; exact ⟨_, rfl, .rp (q.drop _)⟩
    | _ => cases h
  case indexAddr esz x i =>
    have hx := he x (by simp [argsOf]); have hi := he i (by simp [argsOf])
    simp only [pvG] at h ⊢
    split at h
    · rename_i id off len c k n h1 h2
      rw [h1] at hx; rw [h2] at hi; rw [hi.leaf_eq rfl]
      generalize e' x = a' at hx ⊢
      cases hx with
      | leaf hl => cases hl
      | sl q1 q0 q2 q3 =>
        rename_i c' b
        simp only
        split at h
        · rename_i hh; cases h
          rw [if_pos hh]
          refine ⟨_, rfl, ?_⟩
          rw [show off + b.sh + n.toNat * esz = (off + n.toNat * esz) + b.sh by omega]
          exact .ptr q1
        · cases h
    · rename_i cs len ex k n h1 h2
      rw [h1] at hx; rw [h2] at hi; rw [hi.leaf_eq rfl]
      generalize e' x = a' at hx ⊢
      cases hx with
      | leaf hl => cases hl
      | ro q =>
        simp only
        split at h
        · rename_i hh; cases h; rw [if_pos hh]; exact ⟨_, rfl, .rp (q.drop _)⟩
        · cases h
    · cases h
  case indexArr len esz x i =>
    have hx := he x (by simp [argsOf]); have hi := he i (by simp [argsOf])
    simp only [pvG] at h ⊢
    split at h
    · rename_i id off k n h1 h2
      rw [h1] at hx; rw [h2] at hi; rw [hi.leaf_eq rfl]
      generalize e' x = a' at hx ⊢
      cases hx with
      | leaf hl => cases hl
      | ptr q =>
        rename_i b
        simp only
        split at h
        · rename_i hh; cases h
          rw [if_pos hh]
          refine ⟨_, rfl, ?_⟩
          rw [show off + b.sh + n.toNat * esz = (off + n.toNat * esz) + b.sh by omega]
          exact .ptr q
        · cases h
    · rename_i id off k n h1 h2
      rw [h1] at hx; rw [h2] at hi; rw [hi.leaf_eq rfl, hx.leaf_eq rfl]
      simp only
      split at h
      · rename_i hh; cases h; rw [if_pos hh]; exact ⟨_, rfl, .leaf rfl⟩
      · cases h
    · rename_i cs k n h1 h2
      rw [h1] at hx; rw [h2] at hi; rw [hi.leaf_eq rfl]
      generalize e' x = a' at hx ⊢
      cases hx with
      | leaf hl => cases hl
      | rp q =>
        simp only
        split at h
        · rename_i hh; cases h; rw [if_pos hh]; exact ⟨_, rfl, .rp (q.drop _)⟩
        · cases h
    · cases h
  case extract x i =>
    have hx := he x (by simp [argsOf])
    simp only [pvG] at h ⊢
    split at h
    · rename_i vs hb; rw [hb] at hx
      generalize e' x = a' at hx ⊢
      cases hx with
      | leaf hl => cases hl
      | tup q => exact q.get i h
    · cases h
  case len g x =>
    have hx := he x (by simp [argsOf])
    simp only [pvG] at h ⊢
    obtain ⟨h1, h2⟩ := lenA_ren hx h
    exact ⟨v, h1, .leaf h2⟩
  case min xs =>
    have hm := map_ren (E := E) (e := e) (e' := e') (l := xs) fun x hx => he x (by simpa [argsOf] using hx)
    simp only [pvG] at h ⊢
    cases xs with
    | nil => cases h
    | cons x r =>
      simp only [List.map_cons] at hm h ⊢
      cases hm with
      | cons a b => exact minA_ren a b h
  case max xs =>
    have hm := map_ren (E := E) (e := e) (e' := e') (l := xs) fun x hx => he x (by simpa [argsOf] using hx)
    simp only [pvG] at h ⊢
    cases xs with
    | nil => cases h
    | cons x r =>
      simp only [List.map_cons] at hm h ⊢
      cases hm with
      | cons a b => exact maxA_ren a b h
  case lit esz ps =>
    simp only [pvG, Option.map_eq_some_iff] at h
    obtain ⟨l, h1, rfl⟩ := h
    obtain ⟨l', h2, h3⟩ := cat_ren (fun x hx => he x (by simpa [argsOf] using hx)) h1
    exact ⟨_, by simp only [pvG, h2, Option.map_some], .ro h3⟩
  case idxS x i =>
    have hx := he x (by simp [argsOf]); have hi := he i (by simp [argsOf])
    simp only [pvG] at h ⊢
    split at h
    · rename_i b k n h1 h2
      rw [h1] at hx; rw [h2] at hi; rw [hx.leaf_eq rfl, hi.leaf_eq rfl]
      refine ⟨v, h, ?_⟩
      split at h
      · simp only [Option.map_eq_some_iff] at h
        obtain ⟨c, _, rfl⟩ := h
        exact .leaf rfl
      · cases h
    · cases h
  case idxV g m n x i =>
    have hx := he x (by simp [argsOf]); have hi := he i (by simp [argsOf])
    simp only [pvG] at h ⊢
    split at h
    · rename_i cs k' k h1 h2
      rw [h1] at hx; rw [h2] at hi; rw [hi.leaf_eq rfl]
      generalize e' x = a' at hx ⊢
      cases hx with
      | leaf hl => cases hl
      | agg q =>
        simp only
        split at h
        · rename_i hk
          rw [if_pos hk, q.length]
          split at h
          · rename_i hg
            rw [if_pos hg]
            split at h
            · rename_i hh; cases h; rw [if_pos hh]; exact ⟨_, rfl, .agg ((q.drop _).take _)⟩
            · cases h
          · rename_i hg
            rw [if_neg hg]
            exact q.get _ h
        · cases h
    · cases h
  case boxF x =>
    have hx := he x (by simp [argsOf])
    simp only [pvG, Option.map_eq_some_iff] at h
    obtain ⟨l, h1, rfl⟩ := h
    obtain ⟨l', h2, h3⟩ := hx.co h1
    exact ⟨_, by simp only [pvG, h2, Option.map_some], .rp h3⟩
  case sap n x =>
    have hx := he x (by simp [argsOf])
    simp only [pvG] at h ⊢
    split at h
    · rename_i id off len c h1
      rw [h1] at hx
      generalize e' x = a' at hx ⊢
      cases hx with
      | leaf hl => cases hl
      | sl q1 q0 q2 q3 =>
        simp only
        split at h
        · rename_i hh; cases h; rw [if_pos hh]; exact ⟨_, rfl, .ptr q1⟩
        · cases h
    · rename_i cs len ex h1
      rw [h1] at hx
      generalize e' x = a' at hx ⊢
      cases hx with
      | leaf hl => cases hl
      | ro q =>
        simp only
        split at h
        · rename_i hh; cases h; rw [if_pos hh]; exact ⟨_, rfl, .rp q⟩
        · cases h
    · cases h
  case sliceS x lo hi =>
    have hx := he x (by simp [argsOf])
    simp only [pvG] at h ⊢
    split at h
    · rename_i b h1
      rw [h1] at hx; rw [hx.leaf_eq rfl]
      simp only
      unfold strA at h ⊢
      split at h
      · cases h
      · rename_i m hm
        rw [bnd_ren (fun x hx => he x (by simp [argsOf] at hx ⊢; simp [hx])) hm]
        simp only
        split at h
        · cases h
        · rename_i l hl
          rw [bnd_ren (fun x hx => he x (by simp [argsOf] at hx ⊢; simp [hx])) hl]
          cases h
          exact ⟨_, rfl, .leaf rfl⟩
    · cases h
end
end Go.Proofs.YteijaibggalapaaGreatDoor.E
