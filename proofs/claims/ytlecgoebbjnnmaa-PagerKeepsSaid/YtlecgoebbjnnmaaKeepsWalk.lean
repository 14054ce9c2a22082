/- PagerKeeps's walk, out of a world at the start. -/
import Derived.Test.YtlecgoebbjnnmaaKeeps7
import Derived.WideShapes
set_option linter.unusedVariables false
set_option linter.unusedSimpArgs false
set_option linter.unusedSectionVars false
set_option linter.constructorNameAsVariable false
set_option maxRecDepth 100000
namespace Go.Proofs.Ytlecgoebbjnnmaa
open Go Go.RowKit
theorem keeps_walk {H : Type} {enc : TypeId × Value → H} {ps0 : List MemPlace} (w : World) {base : Nat} (v0 : Value) (o0 : Value.okWide Try.prog w .any base 54 v0) {d0 : DataW H} (h0 : DataW.Trod enc Try.prog w 0 (fun _ => true) true 54 v0 d0 ps0) :
    Calls Try.prog 6 #[v0] w (fun e w' => e = .returned (.bool true) ∧ Below w.heap.size w w') := by
  obtain ⟨a0, l0, c0, rfl⟩ := Go.WideShapes.okWide_slice Try.underlying54 o0
  obtain ⟨f0, g0⟩ := h0
  obtain ⟨v0, acts, e0, hA, hml⟩ := acts_in g0
  have e0' : [Value.slice a0 l0 c0] = [v0] := e0
  cases e0'
  letI : Ref := ⟨w⟩
  refine (keeps_calls (H := allRaw w) hA hml (sat_start w)).mono ?_
  rintro e w' ⟨rfl, hs⟩
  exact ⟨rfl, below_of_sat hs⟩
end Go.Proofs.Ytlecgoebbjnnmaa

