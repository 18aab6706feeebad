/-
  What the package variables hold when the law is called, and one world in which they do.
-/
import Derived.Test.YtdlghfekgecjjaaDoorE12
import Derived.Test.YtdlghfekgecjjaaDoorRows
import Derived.Lib.LaidTab
import Derived.Shelf.Vars
import Derived.LaidLaws
import Derived.LaidHandle
import Derived.LaidSub
import Derived.Handed
import Derived.Stop.LaidErr
import Derived.KernelRfl
namespace Go.Proofs.YtdlghfekgecjjaaDoor
open Go E Go.RowKit
set_option linter.unusedVariables false
set_option linter.unusedSimpArgs false
set_option maxRecDepth 100000

def laidL : List (String × DataW Unit) := Rows.addrCutsRow.laid
theorem noHandle : (laidL.filter fun x => x.2.handleName?.isSome) = [] := by kernel_rfl
theorem only64 : (laidL.filter fun x => x.1 == "math/bits.deBruijn64tab") = [("math/bits.deBruijn64tab", Lib.tabData .u8 bru64)] := by kernel_rfl

theorem met_of {W : World} (h : laidMetH Tryd.prog laidL W) : laidMet Tryd.prog laidL W := by
  unfold laidMetH at h
  rw [noHandle] at h
  exact h

theorem tab64 {W : World} (h : laidMetH Tryd.prog laidL W) : Lib.TabIs Tryd.prog W "math/bits.deBruijn64tab" .u8 bru64 := by
  have := laidMet.filter (fun x => x.1 == "math/bits.deBruijn64tab") (met_of h)
  rw [only64] at this
  exact Lib.tabIs_of_head (g := 7) (t := 140) (e := 5) (n := 64) (by kernel_rfl) (by kernel_rfl) (by kernel_rfl) (by kernel_rfl) (by kernel_rfl) (by kernel_rfl) this

theorem nums_vrs (W : World) (k : IntKind) : ∀ zs : List Int, VRs W (zs.map (AV.int k)) (zs.map (Value.int k))
  | [] => VRs_nil
  | z :: zs => VRs_cons (by simp only [VR]) (nums_vrs W k zs)

theorem onlySyn : (laidL.filter fun x => x.1 == "strconv.ErrSyntax") = [("strconv.ErrSyntax", .iface "*errors.errorString" (.ptr (.agg [.lit (.string [105, 110, 118, 97, 108, 105, 100, 32, 115, 121, 110, 116, 97, 120])])))] := by kernel_rfl
theorem star_es : "*" ++ "errors.errorString" = "*errors.errorString" := by decide
theorem row_es (u : TypeId) (h : Tryd.prog.typeName? 3 u = some "*errors.errorString") : u = 136 :=
  typeName_ptr_named (nm := "errors.errorString") (by rw [star_es]; kernel_rfl) (by kernel_rfl) (by decide) u (by rw [star_es]; exact h)
theorem syn_cell {W : World} (h : laidMetH Tryd.prog laidL W) : ∃ v, W.cell? ⟨2, 0, none⟩ = some (.iface 136 v) := by
  have h2 := laidMet.filter (fun x => x.1 == "strconv.ErrSyntax") (met_of h)
  rw [onlySyn] at h2
  obtain ⟨a, s, hv, _⟩ := laid_sentinel (P := Tryd.prog) (g := 2) (ti := 88) (ts := 9) h2 (by kernel_rfl) (by kernel_rfl) Tryd.underlying88 row_es Tryd.underlying136 Tryd.underlying138 rfl rfl Tryd.underlying9 (by kernel_rfl) (by kernel_rfl)
  have := World.var?_cell (g := 2) (by kernel_rfl) hv 0
  exact ⟨_, by simpa using this⟩

theorem gl_ok {W : World} (h : laidMetH Tryd.prog laidL W) (hs : W.ShapedOpen Tryd.prog) : GlobsOk W where
  tab g cs e := by
    unfold globs at e
    split at e
    · cases e
      obtain ⟨v, hv⟩ := syn_cell h
      refine ⟨[.iface 136 v], VRs_cons (by simp only [VR]; exact ⟨v, rfl, trivial⟩) VRs_nil, fun i hi => ?_⟩
      obtain rfl : i = 0 := by simpa using hi
      exact hv
    · cases e
      refine ⟨bru64.map (Value.int .u8), nums_vrs W .u8 bru64, fun i hi => ?_⟩
      have hi' : i < bru64.length := by simpa using hi
      have := (tab64 h).cell (g := 7) (by kernel_rfl) i hi'
      rw [this, List.getElem?_map, List.getElem?_eq_getElem hi']
      simp [List.getD_eq_getElem?_getD, hi']
    · cases e
  any g k e := by
    unfold gAny at e
    split at e
    · cases e
      exact cell_of_shapedOpen_int (t := 3) (zero := #[.int .i64 0]) hs (of_decide_eq_true (by kernel_rfl)) (by kernel_rfl) (by kernel_rfl) (by kernel_rfl) (by kernel_rfl) (by kernel_rfl)
    · cases e

/-! ### One world that fits -/

def synS : ByteArray := ⟨#[105, 110, 118, 97, 108, 105, 100, 32, 115, 121, 110, 116, 97, 120]⟩
def rngS : ByteArray := ⟨#[118, 97, 108, 117, 101, 32, 111, 117, 116, 32, 111, 102, 32, 114, 97, 110, 103, 101]⟩
def litCells : DataW Unit → List Value
  | .lit (.int k n) => [.int k n]
  | _ => []
def tabCells : DataW Unit → List Value
  | .agg ps => ps.flatMap fun
    | .agg qs => qs.flatMap litCells
    | d => litCells d
  | _ => []
def setTab (cs : List Value) : Obj → Obj
  | .cells _ t frozen => .cells cs.toArray t frozen
  | o => o
noncomputable def low : Nat := (World.holding Tryd.prog default ⟨#[], #[], []⟩).heap.size
noncomputable def laidWorld (os : Os) : World :=
  let w0 := World.holding Tryd.prog os ⟨#[.cells #[.string synS] 138, .cells #[.string rngS] 138], #[], []⟩
  { w0 with heap := (((((((w0.heap.modify 1 (setTab (tabCells Rows.laid_internal_strconv_uint64pow10))).modify 2 (setTab [.iface 136 (.pointer (some ⟨low, 0, none⟩))])).modify 3 (setTab [.iface 136 (.pointer (some ⟨low + 1, 0, none⟩))])).modify 4 (setTab (tabCells Rows.laid_unicode_utf8_first))).modify 5 (setTab (tabCells Rows.laid_unicode_utf8_acceptRanges))).modify 6 (setTab (tabCells Rows.laid_math_bits_deBruijn32tab))).modify 7 (setTab (tabCells Rows.laid_math_bits_deBruijn64tab))) }
theorem laidWorld_met (os : Os) (args : Array Value) : laidMetH Tryd.prog laidL ((laidWorld os).forCall (fun _ _ => 0) ⟨#[], args, []⟩).memory := by
  have m : laidMet Tryd.prog laidL ((laidWorld os).forCall (fun _ _ => 0) ⟨#[], args, []⟩).memory := laidMet_of_run' 8 (by kernel_rfl) (by kernel_rfl)
  unfold laidMetH
  rw [noHandle]
  exact m

/-- A row's proof from its call's, the world's shape kept. -/
theorem handed_shaped {H : Type} {enc : TypeId × Value → H} {C : Checked} {os : Os} {f : FuncId} {fn : Func} {s : ChangeSpec} {conds : List PathCond} {apart fresh handsOn again : Bool} {X : World → Array Value → Prop}
    (hX : ∀ (w w' : World) (args : Array Value), w.heap = w'.heap → X w args → X w' args)
    (own : ownKnob C.prog.godebug = none) (started : os.Started) (noInit : C.prog.inits.idxOf? f = none) (hfn : C.prog.funcs[f]? = some fn)
    (witness : ∃ (w : World) (tape : Tape) (i : Input), w.os = os ∧ (w.forCall tape i).Shaped C.prog ∧ i.vars = [] ∧ Input.okWide C.prog (w.forCall tape i) .any w.heap.size f i ∧
      ((s.pre enc C.prog fn conds apart (w.forCall tape i).memory i.args ∧ X (w.forCall tape i).memory i.args) ∧ sizedMet enc C.prog fn (OpenSpec.ofChange s) apart (w.forCall tape i).memory i.args) ∧ ({} : Assume).holds C.prog (lone (Frame.enter C.prog f i.args .normal) [] (w.forCall tape i)))
    (contract : ∀ (W : World) (base : Nat) (args : Array Value) (ds gs : List (DataW H)) (before : List MemPlace),
      (∀ (j : Nat) t v, fn.params[j]? = some t → args[j]? = some v → Value.okWide C.prog W .any base t v) →
      DataW.Whole enc C.prog fn.params.toList s.vars apart W args.toList ds gs before → X W args → W.ShapedOpen C.prog →
      Calls C.prog f args W fun e W' => ∃ v, e = .returned v ∧ s.post enc C.prog fn apart fresh handsOn again W args v W') :
    ReturnsInHanded {} C os f .any (fun w args => (s.pre enc C.prog fn conds apart w args ∧ X w args) ∧ sizedMet enc C.prog fn (OpenSpec.ofChange s) apart w args) (s.post enc C.prog fn apart fresh handsOn again) := by
  refine returnsInHanded_of_calls own started noInit witness fun w tape i _ hsh _ hok hpre _ => ?_
  obtain ⟨_, _, _, fn', hfn', _, _, _, _, hval⟩ := hok
  obtain rfl : fn' = fn := Option.some.inj (hfn'.symm.trans hfn)
  obtain ⟨⟨⟨ds, gs, before, hw, _⟩, hx⟩, _⟩ := hpre
  refine (contract (w.forCall tape i) w.heap.size i.args ds gs before hval (DataW.Whole.of_heap (w' := w.forCall tape i) (by rfl) hw) (hX _ _ _ (by rfl) hx) hsh).mono fun e W' ⟨v, he, hp⟩ => ?_
  subst he
  exact ChangeSpec.post_blind hp

end Go.Proofs.YtdlghfekgecjjaaDoor
