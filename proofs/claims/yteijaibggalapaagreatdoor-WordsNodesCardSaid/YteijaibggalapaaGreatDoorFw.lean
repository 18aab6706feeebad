/-
  What the package variables hold when the law is called, and one world in which they do.
-/
import Derived.Test.YteijaibggalapaaGreatDoorE12
import Derived.Test.YteijaibggalapaaGreatDoorRows
import Derived.Lib.LaidTab
import Derived.Shelf.Vars
import Derived.LaidLaws
import Derived.LaidHandle
import Derived.LaidSub
import Derived.Handed
import Derived.Stop.LaidErr
import Derived.KernelRfl
namespace Go.Proofs.YteijaibggalapaaGreatDoor
open Go E Go.RowKit
set_option linter.unusedVariables false
set_option linter.unusedSimpArgs false
set_option maxRecDepth 100000

def laidL : List (String × DataW Unit) := Rows.wordsJoinRow.laid
theorem noHandle : (laidL.filter fun x => x.2.handleName?.isSome) = [] := by kernel_rfl
theorem only64 : (laidL.filter fun x => x.1 == "math/bits.deBruijn64tab") = [("math/bits.deBruijn64tab", Lib.tabData .u8 bru64)] := by kernel_rfl
theorem only10 : (laidL.filter fun x => x.1 == "internal/strconv.uint64pow10") = [("internal/strconv.uint64pow10", Lib.tabData .u64 pow10)] := by kernel_rfl

theorem met_of {W : World} (h : laidMetH Tryz.prog laidL W) : laidMet Tryz.prog laidL W := by
  unfold laidMetH at h
  rw [noHandle] at h
  exact h

theorem tab64 {W : World} (h : laidMetH Tryz.prog laidL W) : Lib.TabIs Tryz.prog W "math/bits.deBruijn64tab" .u8 bru64 := by
  have := laidMet.filter (fun x => x.1 == "math/bits.deBruijn64tab") (met_of h)
  rw [only64] at this
  exact Lib.tabIs_of_head (g := 3) (t := 182) (e := 5) (n := 64) (by kernel_rfl) (by kernel_rfl) (by kernel_rfl) (by kernel_rfl) (by kernel_rfl) (by kernel_rfl) this

theorem nums_vrs (W : World) (k : IntKind) : ∀ zs : List Int, VRs W (zs.map (AV.int k)) (zs.map (Value.int k))
  | [] => VRs_nil
  | z :: zs => VRs_cons (by simp only [VR]) (nums_vrs W k zs)

theorem tab10 {W : World} (h : laidMetH Tryz.prog laidL W) : Lib.TabIs Tryz.prog W "internal/strconv.uint64pow10" .u64 pow10 := by
  have := laidMet.filter (fun x => x.1 == "internal/strconv.uint64pow10") (met_of h)
  rw [only10] at this
  exact Lib.tabIs_of_head (g := 1) (t := 159) (e := 46) (n := 20) (by kernel_rfl) (by kernel_rfl) (by kernel_rfl) (by kernel_rfl) (by kernel_rfl) (by kernel_rfl) this

theorem tab_cells {W : World} {nm : String} {k : IntKind} {zs : List Int} {g : Nat} (h : Lib.TabIs Tryz.prog W nm k zs) (hg : Tryz.prog.globalNamed nm = some g) : ∃ l, VRs W (zs.map (AV.int k)) l ∧ ∀ i : Nat, i < l.length → W.cell? ⟨g, i, none⟩ = l[i]? := by
  refine ⟨zs.map (Value.int k), nums_vrs W k zs, fun i hi => ?_⟩
  have hi' : i < zs.length := by simpa using hi
  rw [h.cell hg i hi', List.getElem?_map, List.getElem?_eq_getElem hi']
  simp [List.getD_eq_getElem?_getD, hi']

theorem gl_ok {W : World} (h : laidMetH Tryz.prog laidL W) (hs : W.ShapedOpen Tryz.prog) : GlobsOk W where
  tab g cs e := by
    unfold globs at e
    split at e
    · cases e; exact tab_cells (tab10 h) (by kernel_rfl)
    · cases e; exact tab_cells (tab64 h) (by kernel_rfl)
    · cases e
  any g k e := by
    unfold gAny at e
    split at e
    · cases e
      exact cell_of_shapedOpen_int (t := 3) (zero := #[.int .i64 0]) hs (of_decide_eq_true (by kernel_rfl)) (by kernel_rfl) (by kernel_rfl) (by kernel_rfl) (by kernel_rfl) (by kernel_rfl)
    · cases e

theorem fix_ok {W : World} (h : laidMetH Tryz.prog laidL W) : FixOk emp W := fun g n e => by
  unfold gFix at e
  split at e
  · cases e
    have hv : W.var? Tryz.prog "internal/strconv.uint64pow10" = some (pow10.map (Value.int .u64)).toArray := tab10 h
    unfold World.var? at hv
    rw [show Tryz.prog.globalNamed "internal/strconv.uint64pow10" = some 1 by kernel_rfl] at hv
    simp only [Option.bind_some] at hv
    split at hv
    · rename_i cs t fr hc
      cases hv
      exact ⟨rfl, _, t, fr, hc, rfl⟩
    · cases hv
  · cases e

/-! ### One world that fits -/

def litCells : DataW Unit → List Value
  | .lit (.int k n) => [.int k n]
  | _ => []
def tabCells : DataW Unit → List Value
  | .agg ps => ps.flatMap fun
    | .agg qs => qs.flatMap litCells
    | d => litCells d
  | _ => []
def setTab (cs : List Value) : Obj → Obj
  | .cells _ t frozen => .cells cs.toArray t frozen
  | o => o
noncomputable def laidWorld (os : Os) : World :=
  let w0 := World.holding Tryz.prog os ⟨#[], #[], []⟩
  { w0 with heap := ((w0.heap.modify 1 (setTab (tabCells Rows.laid_internal_strconv_uint64pow10))).modify 2 (setTab (tabCells Rows.laid_math_bits_deBruijn32tab))).modify 3 (setTab (tabCells Rows.laid_math_bits_deBruijn64tab)) }
theorem laidWorld_met (os : Os) (args : Array Value) : laidMetH Tryz.prog laidL ((laidWorld os).forCall (fun _ _ => 0) ⟨#[], args, []⟩).memory := by
  have m : laidMet Tryz.prog laidL ((laidWorld os).forCall (fun _ _ => 0) ⟨#[], args, []⟩).memory := laidMet_of_run' 8 (by kernel_rfl) (by kernel_rfl)
  unfold laidMetH
  rw [noHandle]
  exact m

/-- A row's proof from its call's, the world's shape kept. -/
theorem handed_shaped {H : Type} {enc : TypeId × Value → H} {C : Checked} {os : Os} {f : FuncId} {fn : Func} {s : ChangeSpec} {conds : List PathCond} {apart fresh handsOn again : Bool} {X : World → Array Value → Prop}
    (hX : ∀ (w w' : World) (args : Array Value), w.heap = w'.heap → X w args → X w' args)
    (own : ownKnob C.prog.godebug = none) (started : os.Started) (noInit : C.prog.inits.idxOf? f = none) (hfn : C.prog.funcs[f]? = some fn)
    (witness : ∃ (w : World) (tape : Tape) (i : Input), w.os = os ∧ (w.forCall tape i).Shaped C.prog ∧ i.vars = [] ∧ Input.okWide C.prog (w.forCall tape i) .any w.heap.size f i ∧
      ((s.pre enc C.prog fn conds apart (w.forCall tape i).memory i.args ∧ X (w.forCall tape i).memory i.args) ∧ sizedMet enc C.prog fn (OpenSpec.ofChange s) apart (w.forCall tape i).memory i.args) ∧ ({} : Assume).holds C.prog (lone (Frame.enter C.prog f i.args .normal) [] (w.forCall tape i)))
    (contract : ∀ (W : World) (base : Nat) (args : Array Value) (ds gs : List (DataW H)) (before : List MemPlace),
      (∀ (j : Nat) t v, fn.params[j]? = some t → args[j]? = some v → Value.okWide C.prog W .any base t v) →
      DataW.Whole enc C.prog fn.params.toList s.vars apart W args.toList ds gs before → X W args → W.ShapedOpen C.prog →
      Calls C.prog f args W fun e W' => ∃ v, e = .returned v ∧ s.post enc C.prog fn apart fresh handsOn again W args v W') :
    ReturnsInHanded {} C os f .any (fun w args => (s.pre enc C.prog fn conds apart w args ∧ X w args) ∧ sizedMet enc C.prog fn (OpenSpec.ofChange s) apart w args) (s.post enc C.prog fn apart fresh handsOn again) := by
  refine returnsInHanded_of_calls own started noInit witness fun w tape i _ hsh _ hok hpre _ => ?_
  obtain ⟨_, _, _, fn', hfn', _, _, _, _, hval⟩ := hok
  obtain rfl : fn' = fn := Option.some.inj (hfn'.symm.trans hfn)
  obtain ⟨⟨⟨ds, gs, before, hw, _⟩, hx⟩, _⟩ := hpre
  refine (contract (w.forCall tape i) w.heap.size i.args ds gs before hval (DataW.Whole.of_heap (w' := w.forCall tape i) (by rfl) hw) (hX _ _ _ (by rfl) hx) hsh).mono fun e W' ⟨v, he, hp⟩ => ?_
  subst he
  exact ChangeSpec.post_blind hp

end Go.Proofs.YteijaibggalapaaGreatDoor
