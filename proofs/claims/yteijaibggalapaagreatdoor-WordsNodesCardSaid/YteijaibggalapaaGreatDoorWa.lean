/-
  The library's contracts on strings (strings.Join, strconv.Itoa), laid under the contracts on abstract values.
-/
import Derived.Test.YteijaibggalapaaGreatDoorEX
import Derived.Test.YteijaibggalapaaGreatDoorEQ
import Derived.Test.YteijaibggalapaaGreatDoorOw
import Derived.Test.YteijaibggalapaaGreatDoorV5
import Derived.Test.YteijaibggalapaaGreatDoorProg
import Derived.Shelf.Strings.OnBuilder
import Derived.Shelf.Strconv.Itoa3
namespace Go.Proofs.YteijaibggalapaaGreatDoor
open Go E Go.RowKit Go.Sort
set_option linter.unusedVariables false
set_option linter.unusedSimpArgs false
set_option linter.unusedSectionVars false
set_option maxRecDepth 100000

namespace E
def s1 (b : ByteArray) : List AV := [.str b]
theorem s1_len (b : ByteArray) : (s1 b).length = 1 := rfl
theorem lenA_str (s : ByteArray) : lenA true (.str s) = some (.int .i64 s.size) := rfl
theorem s1_sca (b : ByteArray) : (s1 b).all scalar = true := rfl

theorem s1_vals (W0 : World) : ∀ (xs : List ByteArray) (l : List Value), VRs W0 (cat s1 xs) l ↔ l = xs.map Value.string
  | [], l => by simp [cat, VRs]
  | x :: xs, l => by
    have e : cat s1 (x :: xs) = .str x :: cat s1 xs := rfl
    rw [e]
    simp only [VRs, VR, List.map_cons]
    constructor
    · rintro ⟨v, l', rfl, rfl, h⟩
      rw [(s1_vals W0 xs l').1 h]
    · rintro rfl
      exact ⟨_, _, rfl, rfl, (s1_vals W0 xs _).2 rfl⟩

theorem below_rel {W0 : World} {h : AHeap} {w w' : World} (hdr : ∀ a b : World, dr a ≤ dr b) (r : Rel W0 h w) (b : Below w.heap.size w w') : Rel W0 h w' ∧ Fr W0 h w W0 h w' := by
  have hb : ∀ p : Go.Addr, p.block < w.heap.size → w'.cell? p = w.cell? p := fun p hp => by
    simp only [World.cell?, b.block _ hp]
  refine ⟨⟨fun p v e => ?_, fun x o hx => ?_, r.glob, r.fix.kept fun k hk hn => ⟨b.block k hk, hn⟩⟩, ⟨b.os, b.tape, b.output, hdr _ _, b.size, fun k hk hn => ⟨b.block k hk, hn⟩, fun k hk hn => hn, fun p v e => e, fun p v e => .inl e⟩⟩
  · have e2 := r.base p v e
    rw [hb p (cell_lt e2)]; exact e2
  · obtain ⟨h1, obj, h2, h3⟩ := r.live x o hx
    exact ⟨h1, obj, by rw [b.block x (r.lt hx)]; exact h2, h3⟩

section
variable {P : Program} {ρ : Shelf.Ren}

theorem arg2 {W0 : World} {x y : AV} {u v : Value} {cargs : Array Value} (hx : ∀ a, VR W0 x a → a = u) (hy : ∀ a, VR W0 y a → a = v) (h : VRs W0 [x, y] cargs.toList) : cargs = #[u, v] := by
  simp only [VRs] at h
  obtain ⟨a, l, e, ha, b, l', rfl, hb, rfl⟩ := h
  rw [← Array.toArray_toList (xs := cargs), e, hx a ha, hy b hb]

theorem hrelcell {W0 : World} {h : AHeap} {w : World} (r : Rel W0 h w) {g : Nat} {l : List Value} (h4 : ∀ i : Nat, i < l.length → W0.cell? ⟨g, i, none⟩ = l[i]?) (i : Nat) (hi : i < l.length) : w.cell? ⟨g, i, none⟩ = l[i]? := by
  have := h4 i hi
  rw [List.getElem?_eq_getElem hi] at this ⊢
  exact r.base _ _ this

theorem join_none (L : Lays.n156 P ρ) (X : Builder.Extra P ρ) {fn : Func} (hf : P.funcs[ρ.f 156]? = some fn) (hb : fn.body.isSome = true) (hnm : (fn.name == "runtime.NumGoroutine") = false) (sep : ByteArray) (h : AHeap) :
    PureA P (ρ.f 156) [.nils, .str sep] h (.str ⟨#[]⟩) := by
  refine ⟨⟨fn, hf, hb, hnm⟩, fun W0 w cargs hrel hargs => ?_⟩
  obtain rfl := arg2 (u := .slice none 0 0) (v := .string sep) (fun a e => by simpa only [VR] using e) (fun a e => by simpa only [VR] using e) hargs
  refine (Any.strings_Join_none L X none 0 sep w).mono ?_
  rintro e w' ⟨he, rfl⟩
  exact ⟨W0, _, _, _, he, by simp only [VR], hrel, Fr.refl _ _ _, rfl, rfl⟩

/-- strings.Join of a slice whose cells are held. -/
theorem join_at (hdr : ∀ a b : World, dr a ≤ dr b) (L : Lays.n156 P ρ) (X : Builder.Extra P ρ) {fn : Func} (hf : P.funcs[ρ.f 156]? = some fn) (hb : fn.body.isSome = true) (hnm : (fn.name == "runtime.NumGoroutine") = false) (sep : ByteArray)
    {H : AHeap} {id off cap tot : Nat} {cs : List AV} {xs : List ByteArray} (hid : H id = some (.cells cs tot)) (hcs : (cs.drop off).take xs.length = cat s1 xs) (hN : xs.length ≤ 140737488355328)
    (hlen : (Lib.join (xs.map (·.data.toList)) sep.data.toList).length ≤ 140737488355328) :
    PureA P (ρ.f 156) [.sl id off xs.length cap, .str sep] H (.str ⟨(Lib.join (xs.map (·.data.toList)) sep.data.toList).toArray⟩) := by
  refine ⟨⟨fn, hf, hb, hnm⟩, fun W0 w cargs hrel hargs => ?_⟩
  have hcap : xs.length ≤ cap := by
    simp only [VRs, VR] at hargs
    obtain ⟨_, _, _, ⟨_, h⟩, _⟩ := hargs
    exact h
  obtain rfl := arg2 (u := .slice (some ⟨id, off, none⟩) xs.length cap) (v := .string sep) (fun a e => by simp only [VR] at e; exact e.1) (fun a e => by simpa only [VR] using e) hargs
  obtain ⟨cl, rest, t, ho, ht, hcl, hlt, hge⟩ := hrel.cells hid
  have hA := (s1_vals W0 xs _).1 (by rw [← hcs]; exact VRs_take (VRs_drop hcl off) xs.length)
  refine (Any.strings_Join L X id off cap xs sep w (fun j x hx => ?_) hlt hN hcap hlen).mono ?_
  · have hj := (List.getElem?_eq_some_iff.1 hx).1
    have e1 : ((cl.drop off).take xs.length)[j]? = some (.string x) := by rw [hA, List.getElem?_map, hx]; rfl
    rw [List.getElem?_take_of_lt hj, List.getElem?_drop] at e1
    have hl2 := (List.getElem?_eq_some_iff.1 e1).1
    rw [cell_of ho hl2, e1]
  · rintro e w' ⟨he, hbe⟩
    obtain ⟨r', f'⟩ := below_rel hdr hrel hbe
    exact ⟨W0, _, _, _, he, by simp only [VR], r', f', rfl, rfl⟩

/-- More blocks, that nobody holds. -/
theorem grow_rel {W0 : World} {h : AHeap} {w : World} (r : Rel W0 h w) (os : Array Obj) : Rel W0 h (grow w os) ∧ Fr W0 h w W0 h (grow w os) := by
  refine ⟨⟨fun p v e => ?_, fun x o hx => ?_, r.glob, r.fix.kept ?k⟩, ⟨rfl, rfl, rfl, Nat.le_refl _, by simp [grow], ?k, fun b hb hn => hn, fun p v e => e, fun p v e => .inl e⟩⟩
  · have e2 := r.base p v e
    have hlt := cell_lt e2
    rw [← e2]
    simp only [World.cell?, grow]
    rw [Array.getElem?_append_left hlt]
  · obtain ⟨h1, obj, h2, h3⟩ := r.live x o hx
    have hlt := r.lt hx
    exact ⟨h1, obj, by simp only [grow]; rw [Array.getElem?_append_left hlt]; exact h2, h3⟩
  · intro b hb hn
    refine ⟨?_, hn⟩
    simp only [grow]
    rw [Array.getElem?_append_left hb]

/-- The table of the powers of 10, as the library asks it. -/
theorem tab_is {W0 : World} {h : AHeap} {w : World} (r : Rel W0 h w) {nm : String} {g : Nat} {k : IntKind} {zs : List Int} (hg : P.globalNamed nm = some g) (hgl : globs g = some (zs.map (.int k))) (hfx : gFix g = some zs.length) : Lib.TabIs P w nm k zs := by
  obtain ⟨_, c, t, fr, h1, h2⟩ := r.fix g _ hfx
  obtain ⟨l, h3, h4⟩ := r.glob.tab g _ hgl
  have hl : ∀ (zs : List Int) (l : List Value), VRs W0 (zs.map (.int k)) l → l = zs.map (Value.int k) := by
    intro zs
    induction zs with
    | nil => intro l h; simpa only [List.map_nil, VRs] using h
    | cons z zs ih =>
      intro l h
      simp only [List.map_cons, VRs, VR] at h
      obtain ⟨v, l', rfl, rfl, h5⟩ := h
      rw [ih l' h5]; rfl
  have := hl zs l h3
  subst this
  unfold Lib.TabIs World.var?
  rw [hg]
  simp only [Option.bind_some, h1]
  congr 1
  apply Array.ext (by simp [h2])
  intro i hi1 hi2
  have := hrelcell r h4 i (by simpa using hi2)
  simp only [World.cell?, h1] at this
  simp at this hi2 ⊢
  have e9 : c[i]? = some (.int k (zs[i]'(by omega))) := by simpa [List.getElem?_eq_getElem (show i < zs.length by omega)] using this
  rw [Array.getElem?_eq_getElem hi1] at e9
  exact Option.some.inj e9

/-- strconv.Itoa. -/
theorem itoa_any (L : LaysM.n171 P ρ) {fn : Func} (hf : P.funcs[ρ.f 171]? = some fn) (hb : fn.body.isSome = true) (hnm : (fn.name == "runtime.NumGoroutine") = false) {g : Nat} (hg : P.globalNamed "internal/strconv.uint64pow10" = some g) (hgl : globs g = some (Lib.pow10Tab.map (.int .u64))) (hfx : gFix g = some Lib.pow10Tab.length)
    (n : Int) (h0 : -9223372036854775808 ≤ n) (h1 : n ≤ 9223372036854775807) (h : AHeap) :
    PureA P (ρ.f 171) [.int .i64 n] h (.str ⟨(Lib.itoa n).toArray⟩) := by
  refine ⟨⟨fn, hf, hb, hnm⟩, fun W0 w cargs hrel hargs => ?_⟩
  have hargs2 : cargs = #[.int .i64 n] := by
    simp only [VRs, VR] at hargs
    obtain ⟨_, _, e, rfl, rfl⟩ := hargs
    rw [← Array.toArray_toList (xs := cargs), e]
  subst hargs2
  refine (Any.strconv_Itoa L n h0 h1 w (tab_is hrel hg hgl hfx)).mono ?_
  rintro e w' ⟨he, k, os, rfl⟩
  obtain ⟨r1, f1⟩ := drew_rel (w' := w.drewN k) hrel rfl rfl rfl rfl (Nat.le_add_right _ _)
  obtain ⟨r2, f2⟩ := grow_rel r1 os
  exact ⟨W0, _, _, _, he, by simp only [VR], r2, f1.trans f2, rfl, rfl⟩
end
end E

def ljoin_ren : Go.Shelf.Ren := ⟨fun | 156 => 12 | 165 => 25 | 166 => 26 | 169 => 27 | 240 => 41 | 241 => 42 | 276 => 58 | 277 => 59 | n => n, fun | 31 => 22 | 9 => 9 | 3 => 3 | 4 => 4 | 0 => 0 | 20 => 20 | 72 => 76 | 76 => 80 | 70 => 74 | 37 => 60 | 75 => 79 | 127 => 93 | 164 => 117 | 5 => 5 | 80 => 52 | n => n, fun | n => n⟩
theorem ljoin : Go.Proofs.Lays.n156 Tryz.prog ljoin_ren := {
  mixed := by kernel_rfl,
  f156 := Tryz.func12.trans (congrArg some (by kernel_rfl)),
  f165 := Tryz.func25.trans (congrArg some (by kernel_rfl)),
  f166 := Tryz.func26.trans (congrArg some (by kernel_rfl)),
  f169 := Tryz.func27.trans (congrArg some (by kernel_rfl)),
  f240 := Tryz.func41.trans (congrArg some (by kernel_rfl)),
  f241 := Tryz.func42.trans (congrArg some (by kernel_rfl)),
  f276 := Tryz.func58.trans (congrArg some (by kernel_rfl)),
  f277 := Tryz.func59.trans (congrArg some (by kernel_rfl)),
  t0 := Tryz.underlying0,
  a0 := Tryz.isAgg0,
  z0 := Tryz.sizeOf0,
  v0 := Tryz.zeroValue0,
  t3 := Tryz.underlying3,
  a3 := Tryz.isAgg3,
  z3 := Tryz.sizeOf3,
  v3 := Tryz.zeroValue3,
  t4 := Tryz.underlying4,
  a4 := Tryz.isAgg4,
  z4 := Tryz.sizeOf4,
  v4 := Tryz.zeroValue4,
  t9 := Tryz.underlying9,
  a9 := Tryz.isAgg9,
  z9 := Tryz.sizeOf9,
  v9 := Tryz.zeroValue9,
  t20 := Tryz.underlying20,
  a20 := Tryz.isAgg20,
  z20 := Tryz.sizeOf20,
  v20 := Tryz.zeroValue20,
  t31 := Tryz.underlying22,
  a31 := Tryz.isAgg22,
  z31 := Tryz.sizeOf22,
  v31 := Tryz.zeroValue22,
  t37 := Tryz.underlying60,
  a37 := Tryz.isAgg60,
  z37 := Tryz.sizeOf60,
  v37 := Tryz.zeroValue60,
  t70 := Tryz.underlying74,
  a70 := Tryz.isAgg74,
  z70 := Tryz.sizeOf74,
  v70 := Tryz.zeroValue74,
  t72 := Tryz.underlying76,
  a72 := Tryz.isAgg76,
  z72 := Tryz.sizeOf76,
  v72 := Tryz.zeroValue76,
  t75 := Tryz.underlying79,
  a75 := Tryz.isAgg79,
  z75 := Tryz.sizeOf79,
  v75 := Tryz.zeroValue79,
  t76 := Tryz.underlying80,
  a76 := Tryz.isAgg80,
  z76 := Tryz.sizeOf80,
  v76 := Tryz.zeroValue80,
  t127 := Tryz.underlying93,
  a127 := Tryz.isAgg93,
  z127 := Tryz.sizeOf93,
  v127 := Tryz.zeroValue93,
  t164 := Tryz.underlying117,
  a164 := Tryz.isAgg117,
  z164 := Tryz.sizeOf117,
  v164 := Tryz.zeroValue117 }

def litoa_ren : Go.Shelf.Ren := ⟨fun | 171 => 23 | 243 => 39 | 246 => 57 | 283 => 74 | 284 => 75 | 285 => 76 | 286 => 77 | 129 => 91 | 317 => 90 | 318 => 92 | 319 => 93 | 320 => 94 | 337 => 103 | 338 => 104 | n => n, fun | 3 => 3 | 9 => 9 | 2 => 2 | 4 => 4 | 171 => 140 | 0 => 0 | 53 => 46 | 37 => 60 | 5 => 5 | 173 => 143 | 212 => 159 | 51 => 160 | 20 => 20 | 213 => 161 | 46 => 119 | 232 => 181 | 233 => 182 | n => n, fun | 17 => 1 | 18 => 2 | 19 => 3 | n => n⟩
theorem litoa : Go.Proofs.LaysM.n171 Tryz.prog litoa_ren := {
  mixed := by kernel_rfl,
  f129 := Tryz.func91.trans (congrArg some (by kernel_rfl)),
  f171 := Tryz.func23.trans (congrArg some (by kernel_rfl)),
  f243 := Tryz.func39.trans (congrArg some (by kernel_rfl)),
  f246 := Tryz.func57.trans (congrArg some (by kernel_rfl)),
  f283 := Tryz.func74.trans (congrArg some (by kernel_rfl)),
  f284 := Tryz.func75.trans (congrArg some (by kernel_rfl)),
  f285 := Tryz.func76.trans (congrArg some (by kernel_rfl)),
  f286 := Tryz.func77.trans (congrArg some (by kernel_rfl)),
  f317 := Tryz.func90.trans (congrArg some (by kernel_rfl)),
  f318 := Tryz.func92.trans (congrArg some (by kernel_rfl)),
  f319 := Tryz.func93.trans (congrArg some (by kernel_rfl)),
  f320 := Tryz.func94.trans (congrArg some (by kernel_rfl)),
  f337 := Tryz.func103.trans (congrArg some (by kernel_rfl)),
  f338 := Tryz.func104.trans (congrArg some (by kernel_rfl)),
  t0 := Tryz.underlying0,
  a0 := Tryz.isAgg0,
  z0 := Tryz.sizeOf0,
  v0 := Tryz.zeroValue0,
  t2 := Tryz.underlying2,
  a2 := Tryz.isAgg2,
  z2 := Tryz.sizeOf2,
  v2 := Tryz.zeroValue2,
  t3 := Tryz.underlying3,
  a3 := Tryz.isAgg3,
  z3 := Tryz.sizeOf3,
  v3 := Tryz.zeroValue3,
  t4 := Tryz.underlying4,
  a4 := Tryz.isAgg4,
  z4 := Tryz.sizeOf4,
  v4 := Tryz.zeroValue4,
  t5 := Tryz.underlying5,
  a5 := Tryz.isAgg5,
  z5 := Tryz.sizeOf5,
  v5 := Tryz.zeroValue5,
  t9 := Tryz.underlying9,
  a9 := Tryz.isAgg9,
  z9 := Tryz.sizeOf9,
  v9 := Tryz.zeroValue9,
  t20 := Tryz.underlying20,
  a20 := Tryz.isAgg20,
  z20 := Tryz.sizeOf20,
  v20 := Tryz.zeroValue20,
  t37 := Tryz.underlying60,
  a37 := Tryz.isAgg60,
  z37 := Tryz.sizeOf60,
  v37 := Tryz.zeroValue60,
  t46 := Tryz.underlying119,
  a46 := Tryz.isAgg119,
  z46 := Tryz.sizeOf119,
  v46 := Tryz.zeroValue119,
  t51 := Tryz.underlying160,
  a51 := Tryz.isAgg160,
  z51 := Tryz.sizeOf160,
  v51 := Tryz.zeroValue160,
  t53 := Tryz.underlying46,
  a53 := Tryz.isAgg46,
  z53 := Tryz.sizeOf46,
  v53 := Tryz.zeroValue46,
  t171 := Tryz.underlying140,
  a171 := Tryz.isAgg140,
  z171 := Tryz.sizeOf140,
  v171 := Tryz.zeroValue140,
  t173 := Tryz.underlying143,
  a173 := Tryz.isAgg143,
  z173 := Tryz.sizeOf143,
  v173 := Tryz.zeroValue143,
  t212 := Tryz.underlying159,
  a212 := Tryz.isAgg159,
  z212 := Tryz.sizeOf159,
  v212 := Tryz.zeroValue159,
  t213 := Tryz.underlying161,
  a213 := Tryz.isAgg161,
  z213 := Tryz.sizeOf161,
  t232 := Tryz.underlying181,
  a232 := Tryz.isAgg181,
  z232 := Tryz.sizeOf181,
  v232 := Tryz.zeroValue181,
  t233 := Tryz.underlying182,
  a233 := Tryz.isAgg182,
  z233 := Tryz.sizeOf182,
  v233 := Tryz.zeroValue182,
  g17 := by kernel_rfl,
  g18 := by kernel_rfl,
  g19 := by kernel_rfl,
  i0 := by kernel_rfl,
  i2 := by kernel_rfl,
  i3 := by kernel_rfl,
  i4 := by kernel_rfl,
  i5 := by kernel_rfl,
  i9 := by kernel_rfl,
  i20 := by kernel_rfl,
  i37 := by kernel_rfl,
  i46 := by kernel_rfl,
  i51 := by kernel_rfl,
  i53 := by kernel_rfl,
  i171 := by kernel_rfl,
  i173 := by kernel_rfl,
  i212 := by kernel_rfl,
  i232 := by kernel_rfl,
  i233 := by kernel_rfl,
  m17 := by kernel_rfl,
  m18 := by kernel_rfl,
  m19 := by kernel_rfl }


theorem bExtra : Builder.Extra Tryz.prog ljoin_ren where
  sizeBuilder := by kernel_rfl
  liesBuilder := by kernel_rfl
  t5 := by kernel_rfl
  a5 := Tryz.isAgg5
  z5 := Tryz.sizeOf5
  v5 := Tryz.zeroValue5
  infoByte := by kernel_rfl
  cellsByte := by kernel_rfl
  sizeByte := by kernel_rfl
  neB5 := by decide

theorem join_nil (sep : ByteArray) (h : AHeap) : PureA Tryz.prog 12 [.nils, .str sep] h (.str ⟨#[]⟩) :=
  join_none ljoin bExtra Tryz.func12 rfl (by decide) sep h

theorem join_spec (sep : ByteArray) {H h0 : AHeap} {v : AV} {xs : List ByteArray} (g : Grow h0 1 v (cat s1 xs) xs.length H) (hw : Wr v) (hN : xs.length ≤ 140737488355328)
    (hlen : (Lib.join (xs.map (·.data.toList)) sep.data.toList).length ≤ 140737488355328) :
    PureA Tryz.prog 12 [v, .str sep] H (.str ⟨(Lib.join (xs.map (·.data.toList)) sep.data.toList).toArray⟩) := by
  rcases g.how with ⟨rfl, hn, hH⟩ | ⟨rfl, _⟩ | ⟨id, cap, junk, tot, hv, hcap, _, hid, hH⟩
  · obtain rfl := List.length_eq_zero_iff.1 hn
    exact join_nil sep H
  · exact absurd rfl (hw _ _ _)
  · subst hv
    have hid : H id = some (.cells (cat s1 xs ++ junk) tot) := by rw [hH]; simp [upd]
    have hl : (cat s1 xs).length = xs.length := by simpa using cat_len s1_len (l := xs)
    exact join_at (fun a b => Nat.le_refl 0) ljoin bExtra Tryz.func12 rfl (by decide) sep hid (by rw [List.drop_zero, List.take_append_of_le_length (by omega), List.take_of_length_le (by omega)]) hN hlen

theorem itoa_spec (n : Int) (h0 : -9223372036854775808 ≤ n) (h1 : n ≤ 9223372036854775807) (h : AHeap) : PureA Tryz.prog 23 [.int .i64 n] h (.str ⟨(Lib.itoa n).toArray⟩) :=
  itoa_any litoa Tryz.func23 rfl (by decide) (g := 1) (by kernel_rfl) rfl rfl n h0 h1 h

end Go.Proofs.YteijaibggalapaaGreatDoor
