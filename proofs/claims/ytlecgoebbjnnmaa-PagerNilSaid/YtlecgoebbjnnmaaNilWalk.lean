/- PagerNil's walk, out of a world at the start. -/
import Derived.Test.YtlecgoebbjnnmaaLaw2
import Derived.Test.YtlecgoebbjnnmaaStart
import Derived.OpenShut
set_option linter.unusedVariables false
set_option linter.unusedSimpArgs false
set_option linter.unusedSectionVars false
set_option linter.constructorNameAsVariable false
set_option maxRecDepth 100000
namespace Go.Proofs.Ytlecgoebbjnnmaa
open Go Go.RowKit
theorem nil_walk {H : Type} {enc : TypeId × Value → H} {ps0 ps1 : List MemPlace} (w : World) {base : Nat} (v0 : Value) (o0 : Value.okWide Try.prog w .any base 3 v0) {d0 : DataW H} (h0 : DataW.Trod enc Try.prog w 0 (fun _ => true) true 3 v0 d0 ps0)
    (v1 : Value) (o1 : Value.okWide Try.prog w .any base 38 v1) {d1 : DataW H} (h1 : DataW.Trod enc Try.prog w 0 (fun _ => true) true 38 v1 d1 ps1) :
    Calls Try.prog 5 #[v0, v1] w (fun e w' => e = .returned (.bool true) ∧ Below w.heap.size w w') := by
  obtain ⟨a0, rfl, rfl, rfl, w0⟩ := Go.ChangeShapes.open_int Try.underlying3 o0 h0
  letI : Ref := ⟨w⟩
  refine (nil_calls (H := allRaw w) (sat_start w)).mono ?_
  rintro e w' ⟨rfl, hs⟩
  exact ⟨rfl, below_of_sat hs⟩
end Go.Proofs.Ytlecgoebbjnnmaa

