/-
  The library's contracts on strings (strings.Cut, strings.Split, strings.Join), laid under the contracts on abstract values.
-/
import Derived.Test.YtdlghfekgecjjaaDoorC1
import Derived.Test.YtdlghfekgecjjaaDoorEX
import Derived.Test.YtdlghfekgecjjaaDoorEQ
import Derived.Test.YtdlghfekgecjjaaDoorOw
import Derived.Shelf.Strings.Cut
import Derived.Shelf.Strings.Split
import Derived.Shelf.Strings.OnBuilder
import Derived.Shelf.Pu.ToError
namespace Go.Proofs.YtdlghfekgecjjaaDoor
open Go E Go.RowKit
set_option linter.unusedVariables false
set_option linter.unusedSimpArgs false
set_option linter.unusedSectionVars false
set_option maxRecDepth 100000

namespace E
def s1 (b : ByteArray) : List AV := [.str b]
theorem s1_len (b : ByteArray) : (s1 b).length = 1 := rfl
theorem lenA_str (s : ByteArray) : lenA true (.str s) = some (.int .i64 s.size) := rfl
theorem s1_sca (b : ByteArray) : (s1 b).all scalar = true := rfl

theorem s1_vals (W0 : World) : ∀ (xs : List ByteArray) (l : List Value), VRs W0 (cat s1 xs) l ↔ l = xs.map Value.string
  | [], l => by simp [cat, VRs]
  | x :: xs, l => by
    have e : cat s1 (x :: xs) = .str x :: cat s1 xs := rfl
    rw [e]
    simp only [VRs, VR, List.map_cons]
    constructor
    · rintro ⟨v, l', rfl, rfl, h⟩
      rw [(s1_vals W0 xs l').1 h]
    · rintro rfl
      exact ⟨_, _, rfl, rfl, (s1_vals W0 xs _).2 rfl⟩

theorem below_rel {W0 : World} {h : AHeap} {w w' : World} (hdr : ∀ a b : World, dr a ≤ dr b) (r : Rel W0 h w) (b : Below w.heap.size w w') : Rel W0 h w' ∧ Fr W0 h w W0 h w' := by
  have hb : ∀ p : Go.Addr, p.block < w.heap.size → w'.cell? p = w.cell? p := fun p hp => by
    simp only [World.cell?, b.block _ hp]
  refine ⟨⟨fun p v e => ?_, fun x o hx => ?_, r.glob⟩, ⟨b.os, b.tape, b.output, hdr _ _, b.size, fun k hk hn => ⟨b.block k hk, hn⟩, fun k hk hn => hn, fun p v e => e, fun p v e => .inl e⟩⟩
  · have e2 := r.base p v e
    rw [hb p (cell_lt e2)]; exact e2
  · obtain ⟨h1, obj, h2, h3⟩ := r.live x o hx
    exact ⟨h1, obj, by rw [b.block x (r.lt hx)]; exact h2, h3⟩

section
variable {P : Program} {ρ : Shelf.Ren}

theorem any_cell {W0 : World} {h : AHeap} {w : World} (r : Rel W0 h w) {g : Nat} {k : IntKind} (hg : gAny g = some k) : ∃ n, w.cell? ⟨g, 0, none⟩ = some (.int k n) := by
  obtain ⟨n, hn⟩ := r.glob.any g k hg
  exact ⟨n, r.cell hn⟩

theorem arg2 {W0 : World} {x y : AV} {u v : Value} {cargs : Array Value} (hx : ∀ a, VR W0 x a → a = u) (hy : ∀ a, VR W0 y a → a = v) (h : VRs W0 [x, y] cargs.toList) : cargs = #[u, v] := by
  simp only [VRs] at h
  obtain ⟨a, l, e, ha, b, l', rfl, hb, rfl⟩ := h
  rw [← Array.toArray_toList (xs := cargs), e, hx a ha, hy b hb]

theorem cut_any (L : Lays.n145 P ρ) {fn : Func} (hf : P.funcs[ρ.f 145]? = some fn) (hb : fn.body.isSome = true) (hnm : (fn.name == "runtime.NumGoroutine") = false) (hg : gAny (ρ.g 1) = some .i64)
    (s sep : ByteArray) (hs : s.size < 4294967281) (h : AHeap) : PureA P (ρ.f 145) [.str s, .str sep] h
      (.tup [.str ⟨(Lib.cut s.data.toList sep.data.toList).1.toArray⟩, .str ⟨(Lib.cut s.data.toList sep.data.toList).2.1.toArray⟩, .bool (Lib.cut s.data.toList sep.data.toList).2.2]) := by
  refine ⟨⟨fn, hf, hb, hnm⟩, fun W0 w cargs hrel hargs => ?_⟩
  obtain rfl := arg2 (u := .string s) (v := .string sep) (fun a e => by simpa only [VR] using e) (fun a e => by simpa only [VR] using e) hargs
  obtain ⟨m, hm⟩ := any_cell hrel hg
  refine (Any.strings_Cut L s sep m w hs hm).mono ?_
  rintro e w' ⟨he, n, rfl⟩
  obtain ⟨r', f'⟩ := drew_rel (w' := w.drewN n) hrel rfl rfl rfl rfl (Nat.le_add_right _ _)
  refine ⟨W0, _, _, _, he, ?_, r', f', rfl, rfl⟩
  simp only [VR]
  exact ⟨[_, _, _], rfl, VRs_cons (by simp only [VR]) (VRs_cons (by simp only [VR]) (VRs_cons (by simp only [VR]) VRs_nil))⟩

theorem split_any (L : Lays.n146 P ρ) (hi9 : (P.info? (ρ.t 9)).map (fun i => (i.zero, i.size, i.bytes)) = some (some (.string ByteArray.empty), 1, 16)) {fn : Func} (hf : P.funcs[ρ.f 146]? = some fn) (hb : fn.body.isSome = true) (hnm : (fn.name == "runtime.NumGoroutine") = false)
    (hg : gAny (ρ.g 1) = some .i64) (s sep : ByteArray) (hs : s.size < 4294967281) (h1 : 1 ≤ sep.size) (h : AHeap) : PureA P (ρ.f 146) [.str s, .str sep] h
      (.ro (cat s1 (Lib.splitB sep 0 (Lib.countB s sep) s)) (Lib.splitB sep 0 (Lib.countB s sep) s).length true) := by
  refine ⟨⟨fn, hf, hb, hnm⟩, fun W0 w cargs hrel hargs => ?_⟩
  obtain rfl := arg2 (u := .string s) (v := .string sep) (fun a e => by simpa only [VR] using e) (fun a e => by simpa only [VR] using e) hargs
  obtain ⟨m, hm⟩ := any_cell hrel hg
  have hlen := Lib.splitB_all sep h1 0 _ s rfl
  refine (Any.strings_Split L hi9 s sep m w hs hm h1).mono ?_
  rintro e w' ⟨he, hw⟩
  rw [← hlen] at he
  generalize Lib.splitB sep 0 (Lib.countB s sep) s = l at *
  have hA : w.alloc (.cells (l.map Value.string).toArray (ρ.t 9)) = { w with heap := w.heap.push (.cells (l.map Value.string).toArray (ρ.t 9)) } := rfl
  rw [hA] at hw; subst hw
  have hl : VRs W0 (cat s1 l) (l.map Value.string) := (s1_vals W0 l _).2 rfl
  obtain ⟨r1, f1⟩ := alloc_rel hrel (OR_new hl (ρ.t 9))
  have hfr := fresh_ok hrel
  obtain ⟨r2, f2⟩ := r1.still (h' := h) (FzH.sub (upd_new hfr))
  refine ⟨_, _, .ro (cat s1 l) l.length true, h, he, ?_, r2, f1.trans f2, rfl, rfl⟩
  refine Fz_sound r1 (.sl (id := w.heap.size) (off := 0) (len := l.length) (cap := l.length) (cs := cat s1 l) (tot := (cat s1 l).length) (cat s1 l).length (by simp [upd]) hfr (by simp) ?_ (fun _ => rfl)) _ (by simp only [VR]; exact ⟨trivial, Nat.le_refl _⟩)
  simp only [List.drop_zero, List.take_length]
  exact FzL.refl _ _ _

/-- strings.Join of nothing. -/
theorem join_none (L : Lays.n156 P ρ) (X : Builder.Extra P ρ) {fn : Func} (hf : P.funcs[ρ.f 156]? = some fn) (hb : fn.body.isSome = true) (hnm : (fn.name == "runtime.NumGoroutine") = false) (sep : ByteArray) (h : AHeap) :
    PureA P (ρ.f 156) [.nils, .str sep] h (.str ⟨#[]⟩) := by
  refine ⟨⟨fn, hf, hb, hnm⟩, fun W0 w cargs hrel hargs => ?_⟩
  obtain rfl := arg2 (u := .slice none 0 0) (v := .string sep) (fun a e => by simpa only [VR] using e) (fun a e => by simpa only [VR] using e) hargs
  refine (Any.strings_Join_none L X none 0 sep w).mono ?_
  rintro e w' ⟨he, rfl⟩
  exact ⟨W0, _, _, _, he, by simp only [VR], hrel, Fr.refl _ _ _, rfl, rfl⟩

/-- strings.Join of one's own slice. -/
theorem join_own (hdr : ∀ a b : World, dr a ≤ dr b) (L : Lays.n156 P ρ) (X : Builder.Extra P ρ) {fn : Func} (hf : P.funcs[ρ.f 156]? = some fn) (hb : fn.body.isSome = true) (hnm : (fn.name == "runtime.NumGoroutine") = false) (sep : ByteArray)
    {H : AHeap} {id cap tot : Nat} {xs : List ByteArray} {junk : List AV} (hid : H id = some (.cells (cat s1 xs ++ junk) tot)) (hN : xs.length ≤ 140737488355328)
    (hlen : (Lib.join (xs.map (·.data.toList)) sep.data.toList).length ≤ 140737488355328) :
    PureA P (ρ.f 156) [.sl id 0 xs.length cap, .str sep] H (.str ⟨(Lib.join (xs.map (·.data.toList)) sep.data.toList).toArray⟩) := by
  refine ⟨⟨fn, hf, hb, hnm⟩, fun W0 w cargs hrel hargs => ?_⟩
  have hcap : xs.length ≤ cap := by
    simp only [VRs, VR] at hargs
    obtain ⟨_, _, _, ⟨_, h⟩, _⟩ := hargs
    exact h
  obtain rfl := arg2 (u := .slice (some ⟨id, 0, none⟩) xs.length cap) (v := .string sep) (fun a e => by simp only [VR] at e; exact e.1) (fun a e => by simpa only [VR] using e) hargs
  obtain ⟨cl, rest, t, ho, ht, hcl, hlt, hge⟩ := hrel.cells hid
  obtain ⟨a, b, rfl, ha, hjunk⟩ := VRs_split hcl
  have hA := (s1_vals W0 xs a).1 ha
  subst hA
  refine (Any.strings_Join L X id 0 cap xs sep w (fun j x hx => ?_) hlt hN hcap hlen).mono ?_
  · rw [Nat.zero_add, cell_of ho (by have := (List.getElem?_eq_some_iff.1 hx).1; simp; omega), List.getElem?_append_left (by have := (List.getElem?_eq_some_iff.1 hx).1; simpa using this), List.getElem?_map, hx]; rfl
  · rintro e w' ⟨he, hbe⟩
    obtain ⟨r', f'⟩ := below_rel hdr hrel hbe
    exact ⟨W0, _, _, _, he, by simp only [VR], r', f', rfl, rfl⟩
/-- strconv.toError of a fault of syntax: an error that is not nil. -/
theorem toErr_any (hdr : ∀ a b : World, dr a ≤ dr b) (L : LaysPu.n17 P ρ) {fn : Func} (hf : P.funcs[ρ.f 17]? = some fn) (hb : fn.body.isSome = true) (hnm : (fn.name == "runtime.NumGoroutine") = false) {te : TypeId} (hg : globs (ρ.g 0) = some [.iface te .undef])
    (nm s : ByteArray) (base bits : Int) (hs : s.size ≤ 1000000) (h : AHeap) :
    PureA P (ρ.f 17) [.str nm, .str s, .int .i64 base, .int .i64 bits, .iface (ρ.t 34) (.int .i64 2)] h (.iface (ρ.t 39) .undef) := by
  refine ⟨⟨fn, hf, hb, hnm⟩, fun W0 w cargs hrel hargs => ?_⟩
  have hargs2 : cargs = #[.string nm, .string s, .int .i64 base, .int .i64 bits, .iface (ρ.t 34) (.int .i64 2)] := by
    simp only [VRs, VR] at hargs
    obtain ⟨_, _, e, rfl, _, _, rfl, rfl, _, _, rfl, rfl, _, _, rfl, rfl, _, _, rfl, ⟨_, rfl, rfl⟩, rfl⟩ := hargs
    rw [← Array.toArray_toList (xs := cargs), e]
  subst hargs2
  obtain ⟨l, hl, hc⟩ := hrel.glob.tab _ _ hg
  simp only [VRs, VR] at hl
  obtain ⟨ev, _, rfl, ⟨u, rfl, _⟩, rfl⟩ := hl
  have hcell := hrel.cell (hc 0 (by simp))
  refine (AnyPu.strconv_toError_syntax L nm s base bits (.iface te u) w (by omega) (by simpa using hcell) (.inr ⟨_, _, rfl⟩)).mono ?_
  rintro e w' ⟨N, rfl, _, _, hbe⟩
  obtain ⟨r', f'⟩ := below_rel hdr hrel hbe
  exact ⟨W0, _, _, _, rfl, by simp only [VR]; exact ⟨_, rfl, trivial⟩, r', f', rfl, rfl⟩
end
end E

def ltoe_ren : Go.Shelf.Ren := ⟨fun | 17 => 59 | 21 => 73 | 22 => 74 | 23 => 75 | 24 => 76 | 25 => 85 | 27 => 87 | 26 => 86 | 28 => 90 | 29 => 47 | 30 => 60 | 31 => 61 | 32 => 62 | 33 => 63 | 35 => 78 | 34 => 77 | 36 => 79 | 37 => 80 | 38 => 81 | 39 => 88 | 40 => 89 | n => n, fun | 9 => 9 | 3 => 3 | 24 => 88 | 34 => 114 | 4 => 4 | 39 => 117 | 44 => 129 | 37 => 75 | 0 => 0 | 47 => 107 | 50 => 138 | 48 => 136 | 2 => 2 | 52 => 102 | 22 => 38 | 5 => 5 | 55 => 105 | 59 => 121 | 60 => 108 | 20 => 20 | 61 => 122 | 36 => 63 | 65 => 139 | 66 => 140 | 67 => 97 | n => n, fun | 0 => 2 | 1 => 3 | 2 => 1 | 3 => 6 | 4 => 7 | n => n⟩
theorem ltoe : Go.Proofs.LaysPu.n17 Tryd.prog ltoe_ren := {
  mixed := by kernel_rfl,
  f17 := Tryd.func59.trans (congrArg some (by kernel_rfl)),
  f21 := Tryd.func73.trans (congrArg some (by kernel_rfl)),
  f22 := Tryd.func74.trans (congrArg some (by kernel_rfl)),
  f23 := Tryd.func75.trans (congrArg some (by kernel_rfl)),
  f24 := Tryd.func76.trans (congrArg some (by kernel_rfl)),
  f25 := Tryd.func85.trans (congrArg some (by kernel_rfl)),
  f26 := Tryd.func86.trans (congrArg some (by kernel_rfl)),
  f27 := Tryd.func87.trans (congrArg some (by kernel_rfl)),
  f28 := Tryd.func90.trans (congrArg some (by kernel_rfl)),
  f29 := Tryd.func47.trans (congrArg some (by kernel_rfl)),
  f30 := Tryd.func60.trans (congrArg some (by kernel_rfl)),
  f31 := Tryd.func61.trans (congrArg some (by kernel_rfl)),
  f32 := Tryd.func62.trans (congrArg some (by kernel_rfl)),
  f33 := Tryd.func63.trans (congrArg some (by kernel_rfl)),
  f34 := Tryd.func77.trans (congrArg some (by kernel_rfl)),
  f35 := Tryd.func78.trans (congrArg some (by kernel_rfl)),
  f36 := Tryd.func79.trans (congrArg some (by kernel_rfl)),
  f37 := Tryd.func80.trans (congrArg some (by kernel_rfl)),
  f38 := Tryd.func81.trans (congrArg some (by kernel_rfl)),
  f39 := Tryd.func88.trans (congrArg some (by kernel_rfl)),
  f40 := Tryd.func89.trans (congrArg some (by kernel_rfl)),
  t0 := Tryd.underlying0,
  a0 := Tryd.isAgg0,
  z0 := Tryd.sizeOf0,
  v0 := Tryd.zeroValue0,
  i0 := by kernel_rfl,
  t2 := Tryd.underlying2,
  a2 := Tryd.isAgg2,
  z2 := Tryd.sizeOf2,
  v2 := Tryd.zeroValue2,
  i2 := by kernel_rfl,
  t3 := Tryd.underlying3,
  a3 := Tryd.isAgg3,
  z3 := Tryd.sizeOf3,
  v3 := Tryd.zeroValue3,
  i3 := by kernel_rfl,
  t4 := Tryd.underlying4,
  a4 := Tryd.isAgg4,
  z4 := Tryd.sizeOf4,
  v4 := Tryd.zeroValue4,
  i4 := by kernel_rfl,
  t5 := Tryd.underlying5,
  a5 := Tryd.isAgg5,
  z5 := Tryd.sizeOf5,
  v5 := Tryd.zeroValue5,
  i5 := by kernel_rfl,
  t9 := Tryd.underlying9,
  a9 := Tryd.isAgg9,
  z9 := Tryd.sizeOf9,
  v9 := Tryd.zeroValue9,
  i9 := by kernel_rfl,
  t20 := Tryd.underlying20,
  a20 := Tryd.isAgg20,
  z20 := Tryd.sizeOf20,
  v20 := Tryd.zeroValue20,
  i20 := by kernel_rfl,
  t22 := Tryd.underlying38,
  a22 := Tryd.isAgg38,
  z22 := Tryd.sizeOf38,
  v22 := Tryd.zeroValue38,
  i22 := by kernel_rfl,
  t24 := Tryd.underlying88,
  a24 := Tryd.isAgg88,
  z24 := Tryd.sizeOf88,
  v24 := Tryd.zeroValue88,
  i24 := by kernel_rfl,
  t34 := Tryd.underlying114,
  a34 := Tryd.isAgg114,
  z34 := Tryd.sizeOf114,
  v34 := Tryd.zeroValue114,
  i34 := by kernel_rfl,
  c34 := by kernel_rfl,
  t36 := Tryd.underlying63,
  a36 := Tryd.isAgg63,
  z36 := Tryd.sizeOf63,
  v36 := Tryd.zeroValue63,
  i36 := by kernel_rfl,
  t37 := Tryd.underlying75,
  a37 := Tryd.isAgg75,
  z37 := Tryd.sizeOf75,
  v37 := Tryd.zeroValue75,
  i37 := by kernel_rfl,
  t39 := Tryd.underlying117,
  a39 := Tryd.isAgg117,
  z39 := Tryd.sizeOf117,
  v39 := Tryd.zeroValue117,
  i39 := by kernel_rfl,
  t44 := Tryd.underlying129,
  a44 := Tryd.isAgg129,
  z44 := Tryd.sizeOf129,
  v44 := Tryd.zeroValue129,
  i44 := by kernel_rfl,
  t47 := Tryd.underlying107,
  a47 := Tryd.isAgg107,
  z47 := Tryd.sizeOf107,
  v47 := Tryd.zeroValue107,
  i47 := by kernel_rfl,
  t48 := Tryd.underlying136,
  a48 := Tryd.isAgg136,
  z48 := Tryd.sizeOf136,
  v48 := Tryd.zeroValue136,
  i48 := by kernel_rfl,
  t50 := Tryd.underlying138,
  a50 := Tryd.isAgg138,
  z50 := Tryd.sizeOf138,
  v50 := Tryd.zeroValue138,
  i50 := by kernel_rfl,
  t52 := Tryd.underlying102,
  a52 := Tryd.isAgg102,
  z52 := Tryd.sizeOf102,
  v52 := Tryd.zeroValue102,
  i52 := by kernel_rfl,
  t55 := Tryd.underlying105,
  a55 := Tryd.isAgg105,
  z55 := Tryd.sizeOf105,
  v55 := Tryd.zeroValue105,
  i55 := by kernel_rfl,
  t59 := Tryd.underlying121,
  a59 := Tryd.isAgg121,
  z59 := Tryd.sizeOf121,
  v59 := Tryd.zeroValue121,
  i59 := by kernel_rfl,
  t60 := Tryd.underlying108,
  a60 := Tryd.isAgg108,
  z60 := Tryd.sizeOf108,
  v60 := Tryd.zeroValue108,
  i60 := by kernel_rfl,
  t61 := Tryd.underlying122,
  a61 := Tryd.isAgg122,
  z61 := Tryd.sizeOf122,
  t65 := Tryd.underlying139,
  a65 := Tryd.isAgg139,
  z65 := Tryd.sizeOf139,
  v65 := Tryd.zeroValue139,
  i65 := by kernel_rfl,
  t66 := Tryd.underlying140,
  a66 := Tryd.isAgg140,
  z66 := Tryd.sizeOf140,
  v66 := Tryd.zeroValue140,
  i66 := by kernel_rfl,
  t67 := Tryd.underlying97,
  a67 := Tryd.isAgg97,
  z67 := Tryd.sizeOf97,
  v67 := Tryd.zeroValue97,
  i67 := by kernel_rfl,
  g0 := by kernel_rfl,
  m0 := by kernel_rfl,
  g1 := by kernel_rfl,
  m1 := by kernel_rfl,
  g2 := by kernel_rfl,
  m2 := by kernel_rfl,
  g3 := by kernel_rfl,
  m3 := by kernel_rfl,
  g4 := by kernel_rfl,
  m4 := by kernel_rfl }

def lcut_ren : Go.Shelf.Ren := ⟨fun | 145 => 29 | 220 => 39 | 219 => 44 | 217 => 51 | 225 => 52 | 224 => 53 | 267 => 54 | 266 => 66 | 314 => 67 | n => n, fun | 9 => 9 | 4 => 4 | 59 => 64 | 3 => 3 | 5 => 5 | 46 => 63 | 146 => 109 | 51 => 108 | n => n, fun | 1 => 0 | n => n⟩
theorem lcut : Go.Proofs.Lays.n145 Tryd.prog lcut_ren := {
  mixed := by kernel_rfl,
  f145 := Tryd.func29.trans (congrArg some (by kernel_rfl)),
  f217 := Tryd.func51.trans (congrArg some (by kernel_rfl)),
  f219 := Tryd.func44.trans (congrArg some (by kernel_rfl)),
  f220 := Tryd.func39.trans (congrArg some (by kernel_rfl)),
  f224 := Tryd.func53.trans (congrArg some (by kernel_rfl)),
  f225 := Tryd.func52.trans (congrArg some (by kernel_rfl)),
  f266 := Tryd.func66.trans (congrArg some (by kernel_rfl)),
  f267 := Tryd.func54.trans (congrArg some (by kernel_rfl)),
  f314 := Tryd.func67.trans (congrArg some (by kernel_rfl)),
  t3 := Tryd.underlying3,
  a3 := Tryd.isAgg3,
  z3 := Tryd.sizeOf3,
  v3 := Tryd.zeroValue3,
  t4 := Tryd.underlying4,
  a4 := Tryd.isAgg4,
  z4 := Tryd.sizeOf4,
  v4 := Tryd.zeroValue4,
  t5 := Tryd.underlying5,
  a5 := Tryd.isAgg5,
  z5 := Tryd.sizeOf5,
  v5 := Tryd.zeroValue5,
  t9 := Tryd.underlying9,
  a9 := Tryd.isAgg9,
  z9 := Tryd.sizeOf9,
  v9 := Tryd.zeroValue9,
  t46 := Tryd.underlying63,
  a46 := Tryd.isAgg63,
  z46 := Tryd.sizeOf63,
  v46 := Tryd.zeroValue63,
  t51 := Tryd.underlying108,
  a51 := Tryd.isAgg108,
  z51 := Tryd.sizeOf108,
  v51 := Tryd.zeroValue108,
  t59 := Tryd.underlying64,
  a59 := Tryd.isAgg64,
  z59 := Tryd.sizeOf64,
  v59 := Tryd.zeroValue64,
  t146 := Tryd.underlying109,
  a146 := Tryd.isAgg109,
  z146 := Tryd.sizeOf109,
  v146 := Tryd.zeroValue109,
  g1 := by kernel_rfl }

def lspl_ren : Go.Shelf.Ren := ⟨fun | 146 => 40 | 221 => 45 | 268 => 55 | 138 => 56 | 143 => 57 | 195 => 68 | 197 => 69 | 218 => 70 | 219 => 44 | 260 => 84 | 217 => 51 | 225 => 52 | 224 => 53 | 267 => 54 | 266 => 66 | 314 => 67 | n => n, fun | 9 => 9 | 31 => 79 | 3 => 3 | 4 => 4 | 0 => 0 | 105 => 112 | 21 => 21 | 5 => 5 | 46 => 63 | 119 => 132 | 139 => 135 | 138 => 134 | 146 => 109 | 51 => 108 | n => n, fun | 1 => 0 | 3 => 4 | 4 => 5 | n => n⟩
theorem lspl : Go.Proofs.Lays.n146 Tryd.prog lspl_ren := {
  mixed := by kernel_rfl,
  f138 := Tryd.func56.trans (congrArg some (by kernel_rfl)),
  f143 := Tryd.func57.trans (congrArg some (by kernel_rfl)),
  f146 := Tryd.func40.trans (congrArg some (by kernel_rfl)),
  f195 := Tryd.func68.trans (congrArg some (by kernel_rfl)),
  f197 := Tryd.func69.trans (congrArg some (by kernel_rfl)),
  f217 := Tryd.func51.trans (congrArg some (by kernel_rfl)),
  f218 := Tryd.func70.trans (congrArg some (by kernel_rfl)),
  f219 := Tryd.func44.trans (congrArg some (by kernel_rfl)),
  f221 := Tryd.func45.trans (congrArg some (by kernel_rfl)),
  f224 := Tryd.func53.trans (congrArg some (by kernel_rfl)),
  f225 := Tryd.func52.trans (congrArg some (by kernel_rfl)),
  f260 := Tryd.func84.trans (congrArg some (by kernel_rfl)),
  f266 := Tryd.func66.trans (congrArg some (by kernel_rfl)),
  f267 := Tryd.func54.trans (congrArg some (by kernel_rfl)),
  f268 := Tryd.func55.trans (congrArg some (by kernel_rfl)),
  f314 := Tryd.func67.trans (congrArg some (by kernel_rfl)),
  t0 := Tryd.underlying0,
  a0 := Tryd.isAgg0,
  z0 := Tryd.sizeOf0,
  v0 := Tryd.zeroValue0,
  t3 := Tryd.underlying3,
  a3 := Tryd.isAgg3,
  z3 := Tryd.sizeOf3,
  v3 := Tryd.zeroValue3,
  t4 := Tryd.underlying4,
  a4 := Tryd.isAgg4,
  z4 := Tryd.sizeOf4,
  v4 := Tryd.zeroValue4,
  t5 := Tryd.underlying5,
  a5 := Tryd.isAgg5,
  z5 := Tryd.sizeOf5,
  v5 := Tryd.zeroValue5,
  t9 := Tryd.underlying9,
  a9 := Tryd.isAgg9,
  z9 := Tryd.sizeOf9,
  v9 := Tryd.zeroValue9,
  t21 := Tryd.underlying21,
  a21 := Tryd.isAgg21,
  z21 := Tryd.sizeOf21,
  v21 := Tryd.zeroValue21,
  t31 := Tryd.underlying79,
  a31 := Tryd.isAgg79,
  z31 := Tryd.sizeOf79,
  v31 := Tryd.zeroValue79,
  t46 := Tryd.underlying63,
  a46 := Tryd.isAgg63,
  z46 := Tryd.sizeOf63,
  v46 := Tryd.zeroValue63,
  t51 := Tryd.underlying108,
  a51 := Tryd.isAgg108,
  z51 := Tryd.sizeOf108,
  v51 := Tryd.zeroValue108,
  t105 := Tryd.underlying112,
  a105 := Tryd.isAgg112,
  z105 := Tryd.sizeOf112,
  v105 := Tryd.zeroValue112,
  t119 := Tryd.underlying132,
  a119 := Tryd.isAgg132,
  z119 := Tryd.sizeOf132,
  t138 := Tryd.underlying134,
  a138 := Tryd.isAgg134,
  z138 := Tryd.sizeOf134,
  v138 := Tryd.zeroValue134,
  t139 := Tryd.underlying135,
  a139 := Tryd.isAgg135,
  z139 := Tryd.sizeOf135,
  v139 := Tryd.zeroValue135,
  t146 := Tryd.underlying109,
  a146 := Tryd.isAgg109,
  z146 := Tryd.sizeOf109,
  v146 := Tryd.zeroValue109,
  g1 := by kernel_rfl,
  g3 := by kernel_rfl,
  g4 := by kernel_rfl }

def ljoin_ren : Go.Shelf.Ren := ⟨fun | 156 => 43 | 165 => 48 | 166 => 49 | 169 => 50 | 240 => 64 | 241 => 65 | 276 => 82 | 277 => 83 | n => n, fun | 31 => 79 | 9 => 9 | 3 => 3 | 4 => 4 | 0 => 0 | 20 => 20 | 72 => 93 | 76 => 95 | 70 => 91 | 37 => 75 | 75 => 88 | 127 => 107 | 164 => 124 | 5 => 5 | 80 => 97 | n => n, fun | n => n⟩
theorem ljoin : Go.Proofs.Lays.n156 Tryd.prog ljoin_ren := {
  mixed := by kernel_rfl,
  f156 := Tryd.func43.trans (congrArg some (by kernel_rfl)),
  f165 := Tryd.func48.trans (congrArg some (by kernel_rfl)),
  f166 := Tryd.func49.trans (congrArg some (by kernel_rfl)),
  f169 := Tryd.func50.trans (congrArg some (by kernel_rfl)),
  f240 := Tryd.func64.trans (congrArg some (by kernel_rfl)),
  f241 := Tryd.func65.trans (congrArg some (by kernel_rfl)),
  f276 := Tryd.func82.trans (congrArg some (by kernel_rfl)),
  f277 := Tryd.func83.trans (congrArg some (by kernel_rfl)),
  t0 := Tryd.underlying0,
  a0 := Tryd.isAgg0,
  z0 := Tryd.sizeOf0,
  v0 := Tryd.zeroValue0,
  t3 := Tryd.underlying3,
  a3 := Tryd.isAgg3,
  z3 := Tryd.sizeOf3,
  v3 := Tryd.zeroValue3,
  t4 := Tryd.underlying4,
  a4 := Tryd.isAgg4,
  z4 := Tryd.sizeOf4,
  v4 := Tryd.zeroValue4,
  t9 := Tryd.underlying9,
  a9 := Tryd.isAgg9,
  z9 := Tryd.sizeOf9,
  v9 := Tryd.zeroValue9,
  t20 := Tryd.underlying20,
  a20 := Tryd.isAgg20,
  z20 := Tryd.sizeOf20,
  v20 := Tryd.zeroValue20,
  t31 := Tryd.underlying79,
  a31 := Tryd.isAgg79,
  z31 := Tryd.sizeOf79,
  v31 := Tryd.zeroValue79,
  t37 := Tryd.underlying75,
  a37 := Tryd.isAgg75,
  z37 := Tryd.sizeOf75,
  v37 := Tryd.zeroValue75,
  t70 := Tryd.underlying91,
  a70 := Tryd.isAgg91,
  z70 := Tryd.sizeOf91,
  v70 := Tryd.zeroValue91,
  t72 := Tryd.underlying93,
  a72 := Tryd.isAgg93,
  z72 := Tryd.sizeOf93,
  v72 := Tryd.zeroValue93,
  t75 := Tryd.underlying88,
  a75 := Tryd.isAgg88,
  z75 := Tryd.sizeOf88,
  v75 := Tryd.zeroValue88,
  t76 := Tryd.underlying95,
  a76 := Tryd.isAgg95,
  z76 := Tryd.sizeOf95,
  v76 := Tryd.zeroValue95,
  t127 := Tryd.underlying107,
  a127 := Tryd.isAgg107,
  z127 := Tryd.sizeOf107,
  v127 := Tryd.zeroValue107,
  t164 := Tryd.underlying124,
  a164 := Tryd.isAgg124,
  z164 := Tryd.sizeOf124,
  v164 := Tryd.zeroValue124 }


theorem bExtra : Builder.Extra Tryd.prog ljoin_ren where
  sizeBuilder := by kernel_rfl
  liesBuilder := by kernel_rfl
  t5 := by kernel_rfl
  a5 := Tryd.isAgg5
  z5 := Tryd.sizeOf5
  v5 := Tryd.zeroValue5
  infoByte := by kernel_rfl
  cellsByte := by kernel_rfl
  sizeByte := by kernel_rfl
  neB5 := by decide

theorem cut_spec (s sep : ByteArray) (hs : s.size < 4294967281) (h : AHeap) : PureA Tryd.prog 29 [.str s, .str sep] h
    (.tup [.str ⟨(Lib.cut s.data.toList sep.data.toList).1.toArray⟩, .str ⟨(Lib.cut s.data.toList sep.data.toList).2.1.toArray⟩, .bool (Lib.cut s.data.toList sep.data.toList).2.2]) :=
  cut_any lcut Tryd.func29 rfl (by decide) rfl s sep hs h

theorem split_spec (s sep : ByteArray) (hs : s.size < 4294967281) (h1 : 1 ≤ sep.size) (h : AHeap) : PureA Tryd.prog 40 [.str s, .str sep] h
    (.ro (cat s1 (Lib.splitB sep 0 (Lib.countB s sep) s)) (Lib.splitB sep 0 (Lib.countB s sep) s).length true) :=
  split_any lspl (by kernel_rfl) Tryd.func40 rfl (by decide) rfl s sep hs h1 h

theorem toErr_spec (nm s : ByteArray) (base bits : Int) (hs : s.size ≤ 1000000) (h : AHeap) : PureA Tryd.prog 59 [.str nm, .str s, .int .i64 base, .int .i64 bits, .iface 114 (.int .i64 2)] h (.iface 117 .undef) :=
  toErr_any (fun a b => Nat.le_refl 0) ltoe Tryd.func59 rfl (by decide) rfl nm s base bits hs h

theorem join_nil (sep : ByteArray) (h : AHeap) : PureA Tryd.prog 43 [.nils, .str sep] h (.str ⟨#[]⟩) :=
  join_none ljoin bExtra Tryd.func43 rfl (by decide) sep h

theorem join_spec (sep : ByteArray) {H h0 : AHeap} {v : AV} {xs : List ByteArray} (g : Grow h0 1 v (cat s1 xs) xs.length H) (hw : Wr v) (hN : xs.length ≤ 140737488355328)
    (hlen : (Lib.join (xs.map (·.data.toList)) sep.data.toList).length ≤ 140737488355328) :
    PureA Tryd.prog 43 [v, .str sep] H (.str ⟨(Lib.join (xs.map (·.data.toList)) sep.data.toList).toArray⟩) := by
  rcases g.how with ⟨rfl, hn, hH⟩ | ⟨rfl, _⟩ | ⟨id, cap, junk, tot, hv, hcap, _, hid, hH⟩
  · obtain rfl := List.length_eq_zero_iff.1 hn
    exact join_nil sep H
  · exact absurd rfl (hw _ _ _)
  · subst hv
    have hid : H id = some (.cells (cat s1 xs ++ junk) tot) := by rw [hH]; simp [upd]
    exact join_own (fun a b => Nat.le_refl 0) ljoin bExtra Tryd.func43 rfl (by decide) sep hid hN hlen

end Go.Proofs.YtdlghfekgecjjaaDoor
