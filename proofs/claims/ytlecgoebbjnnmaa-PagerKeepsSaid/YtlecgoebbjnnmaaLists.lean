/- Plain laws on lists: elements of so many cells each. -/
import Derived.Test.YtlecgoebbjnnmaaOps5
set_option linter.unusedVariables false
set_option linter.unusedSectionVars false
set_option linter.unusedSimpArgs false
namespace Go.Proofs.Ytlecgoebbjnnmaa
open Go

theorem flat_length {α : Type} {enc : α → List Value} {m : Nat} : ∀ {l : List α}, (∀ p ∈ l, (enc p).length = m) → (l.flatMap enc).length = l.length * m
  | [], _ => by simp
  | p :: r, h => by
    rw [List.flatMap_cons, List.length_append, h p (by simp), flat_length (fun q hq => h q (by simp [hq])), List.length_cons, Nat.add_mul]
    omega
theorem flat_get {α : Type} {enc : α → List Value} {m : Nat} {extra : List Value} : ∀ {l : List α} {i : Nat} {p : α}, (∀ p ∈ l, (enc p).length = m) → l[i]? = some p →
    ((l.flatMap enc ++ extra).drop (i * m)).take m = enc p
  | [], i, p, _, h => by simp at h
  | q :: r, 0, p, hw, h => by
    have : q = p := by simpa using h
    subst this
    rw [List.flatMap_cons, List.append_assoc, Nat.zero_mul, List.drop_zero]
    exact List.take_left' (hw q (by simp))
  | q :: r, i + 1, p, hw, h => by
    have hl := hw q (by simp)
    have h' : r[i]? = some p := by simpa using h
    rw [List.flatMap_cons, List.append_assoc, Nat.add_mul, Nat.one_mul, Nat.add_comm, ← hl, List.drop_length_add_append, hl]
    exact flat_get (fun q hq => hw q (by simp [hq])) h'
theorem flat_get0 {α : Type} {enc : α → List Value} {m : Nat} {l : List α} {i : Nat} {p : α} (hw : ∀ p ∈ l, (enc p).length = m) (h : l[i]? = some p) :
    ((l.flatMap enc).drop (i * m)).take m = enc p := by
  have := flat_get (extra := []) hw h
  rwa [List.append_nil] at this
theorem drop_cons {α : Type} {l : List α} {i : Nat} {p : α} (h : l[i]? = some p) : l.drop i = p :: l.drop (i + 1) := by
  obtain ⟨hi, hp⟩ := List.getElem?_eq_some_iff.1 h
  rw [← hp]; exact List.drop_eq_getElem_cons hi
theorem get_lt {α : Type} {l : List α} {i : Nat} (h : i < l.length) : ∃ p, l[i]? = some p ∧ p ∈ l := ⟨l[i], by simp [h], List.getElem_mem h⟩
theorem flatMap_one {α : Type} {enc : α → List Value} {l : List α} (h : ∀ p, ∀ v ∈ enc p, v.oneCell' = true) : ∀ v ∈ l.flatMap enc, v.oneCell' = true := by
  intro v hv
  obtain ⟨p, _, hp⟩ := List.mem_flatMap.1 hv
  exact h p v hp
end Go.Proofs.Ytlecgoebbjnnmaa
