/- The world at the start as atoms; what is left of it. -/
import Derived.Test.YtlecgoebbjnnmaaOps9
import Derived.Below
namespace Go.Proofs.Ytlecgoebbjnnmaa
open Go Go.RowKit
set_option linter.unusedVariables false
set_option linter.unusedSectionVars false
set_option linter.unusedSimpArgs false

def rawAt (w : World) (b : Nat) : Atom := .raw b ((w.heap[b]?).getD (.cells #[] 0 (0, 0)))
def allRaw (w : World) : List Atom := (List.range w.heap.size).map (rawAt w)
theorem rawAt_mem {w : World} {b : Nat} (h : b < w.heap.size) : rawAt w b ∈ allRaw w := List.mem_map.2 ⟨b, List.mem_range.2 h, rfl⟩
theorem sat_start (w : World) : @Sat ⟨w⟩ w (allRaw w) := by
  letI : Ref := ⟨w⟩
  refine ⟨⟨fun x hx => ?_, ?_⟩, rfl, rfl, rfl⟩
  · obtain ⟨b, hb, rfl⟩ := List.mem_map.1 hx
    have hb' := List.mem_range.1 hb
    show w.heap[b]? = some _
    rw [Array.getElem?_eq_getElem hb']; rfl
  · unfold allRaw
    rw [List.pairwise_map]
    exact List.nodup_range.imp (fun h => h)
theorem below_of_sat {w w' : World} (hs : @Sat ⟨w⟩ w' (allRaw w)) : Below w.heap.size w w' := by
  letI : Ref := ⟨w⟩
  have key : ∀ b, b < w.heap.size → w'.heap[b]? = w.heap[b]? := by
    intro b hb
    have h := hs.holds _ (rawAt_mem hb)
    rw [show w'.heap[b]? = _ from h, Array.getElem?_eq_getElem hb]; rfl
  refine ⟨hs.os, hs.tape, hs.output, ?_, key⟩
  rcases Nat.lt_or_ge w'.heap.size w.heap.size with h | h
  · have h1 := key w'.heap.size h
    rw [Array.getElem?_eq_none (Nat.le_refl _), Array.getElem?_eq_getElem h] at h1
    cases h1
  · exact h
end Go.Proofs.Ytlecgoebbjnnmaa
