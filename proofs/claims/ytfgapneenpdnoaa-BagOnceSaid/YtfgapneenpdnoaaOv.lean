/-
  slices.overlaps, which the model itself answers: what stands still, and a block of one's own.
-/
import Derived.Test.YtfgapneenpdnoaaOw
import Derived.Lib.Overlaps
namespace Go.Proofs.Ytfgapneenpdnoaa
open Go E
set_option linter.unusedVariables false
set_option linter.unusedSimpArgs false

theorem overlaps_ext {P : Program} {f : FuncId} {fn : Func} {tS tR e : TypeId} {size : Nat} (hf : P.funcs[f]? = some fn) (hname : (fn.name == "runtime.NumGoroutine") = false) (hb : fn.body.isNone = true) (hn : Extern.findNext fn = none)
    (he : Extern.find fn = some (Extern.SlicesOverlaps.overlaps #[tS, tS] #[tR])) (ht : tElem P tS = some e) (hz : tSize P e = some size)
    {cs cells : List AV} {n id off m cap tot : Nat} {ex : Bool} {h : AHeap} (hcs : cs ≠ []) (hid : h id = some (.cells cells tot)) (htot : tot ≠ 0) :
    ExtA P f [.ro cs n ex, .sl id off m cap] h (fun r h' => r = .bool false ∧ h' = h) := by
  refine ⟨fn, _, hf, hname, hb, hn, he, fun W0 w cargs hrel hargs => ?_⟩
  simp only [VRs] at hargs
  obtain ⟨u, l1, e1, hu, v, l2, e2, hv, e3⟩ := hargs
  subst e3; subst e2
  have hc : cargs = #[u, v] := by rw [← Array.toArray_toList (xs := cargs), e1]
  subst hc
  simp only [VR] at hu hv
  obtain ⟨rfl, hmc⟩ := hv
  rcases hu with ⟨p, cap1, l, rfl, hle, _, hcell, hl⟩ | ⟨_, h0, _⟩
  rotate_left
  · exact absurd h0 hcs
  obtain ⟨k1, obj, k2, k3⟩ := hrel.live id _ hid
  simp only [OR] at k3
  obtain ⟨lq, rq, tq, rfl, hlen, _⟩ := k3
  have hll := VRs_length hl
  have hl0 : 0 < l.length := by
    rw [hll]; exact List.length_pos_iff.2 hcs
  have hc0 := hcell 0 hl0
  rw [List.getElem?_eq_getElem hl0] at hc0
  have hblk : (p.add 0).block = p.block := by unfold Addr.add; split <;> rfl
  have hne : p.block ≠ id := fun e => by
    have := k1 (p.add 0) (by rw [hblk]; exact e)
    rw [this] at hc0; cases hc0
  have hw := hrel.base _ _ hc0
  obtain ⟨tA, kA, hsa⟩ : ∃ tA kA, w.shape? p.block = some (tA, kA + 1) := by
    simp only [World.cell?, hblk] at hw
    split at hw
    · rename_i c q z hh
      have hpos : 0 < c.size := by
        split at hw
        · cases hw
        · have := (Array.getElem?_eq_some_iff.1 hw).1; omega
      exact ⟨q, c.size - 1, by simp only [World.shape?, hh]; congr 2; omega⟩
    · cases hw
  have hsb : w.shape? id = some (tq, lq.length + rq.length) := by simp only [World.shape?, k2]; simp
  have hfb : ∀ o, w.frozen? ⟨id, o, none⟩ = false := fun o => by simp [World.frozen?, k2]
  refine ⟨W0, .bool false, .bool false, h, w, ?_, by simp only [VR], hrel, Fr.refl _ _ _, rfl, rfl⟩
  have hnb : (p.block != id) = true := by simpa using hne
  have hnb' : (p.block == id) = false := by simpa using hne
  obtain ⟨kB, hkB⟩ : ∃ kB, lq.length + rq.length = kB + 1 := ⟨lq.length + rq.length - 1, by omega⟩
  rw [hkB] at hsb
  change Sem.run P (α := Value) (do
    let some t := (#[tS, tS] : Array TypeId)[0]? | stuck "slices.overlaps: no parameter types"
    let .slice elem ← underlying t | stuck "slices.overlaps: slice type expected"
    let size ← sizeOf elem
    match (some p : Option Addr), (some (⟨id, off, none⟩ : Addr) : Option Addr) with
    | some a, some b =>
      if n = 0 ∨ m = 0 ∨ size = 0 then pure (Value.bool false)
      else if a.block != b.block && (← frozen a) && (← frozen b) then unsupported .addressObserved
      else do
        if a.block != b.block then do
          noView a; noView b
          if ← mayBeOne a b then return Value.bool ((← choose (.extern "sameAddr.stringBytes" 2)) == 1)
        pure (Value.bool (a.block == b.block && a.off < b.off + m * size && b.off < a.off + n * size))
    | _, _ => pure (Value.bool false)) w = _
  have hzz : ∀ w, (Go.sizeOf e).run P w = .ok size w := fun w => E.run_sizeOf hz w
  by_cases h0 : n = 0 ∨ m = 0 ∨ size = 0
  · simp [run_underlying (tElem_sound ht), hzz, h0]
  · cases f1 : w.frozen? p <;> cases f2 : w.frozen? { block := p.block, off := kA + 1 } <;>
    simp [run_underlying (tElem_sound ht), hzz, h0, hnb, hnb', frozen, noView, viewAt, mayBeOne, stringish, shape, Sem.run, hsa, hsb, hfb, f1, f2]

end Go.Proofs.Ytfgapneenpdnoaa
