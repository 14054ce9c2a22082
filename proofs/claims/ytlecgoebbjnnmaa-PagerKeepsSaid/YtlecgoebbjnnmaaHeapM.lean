/- A list of numbers as a heap: plain. -/
import Derived.Test.YtlecgoebbjnnmaaOps6
set_option linter.unusedVariables false
set_option linter.unusedSimpArgs false
set_option linter.unusedSectionVars false
set_option linter.constructorNameAsVariable false
namespace Go.Proofs.Ytlecgoebbjnnmaa
open Go
variable [Ref]

/-- two places exchanged -/
def swapL (l : List Nat) (i j : Nat) : List Nat := (l.set i (l.getD j 0)).set j (l.getD i 0)
theorem swapL_length (l : List Nat) (i j : Nat) : (swapL l i j).length = l.length := by simp [swapL]
theorem swapL_perm {l : List Nat} {i j : Nat} (hi : i < l.length) (hj : j < l.length) : (swapL l i j).Perm l := by
  have := List.set_set_perm hi hj
  simpa [swapL, List.getD_eq_getElem?_getD, hi, hj] using this
theorem swapL_get {l : List Nat} {i j k : Nat} (hi : i < l.length) (hj : j < l.length) : (swapL l i j).getD k 0 = if k = j then l.getD i 0 else if k = i then l.getD j 0 else l.getD k 0 := by
  simp only [swapL, List.getD_eq_getElem?_getD, List.getElem?_set, List.length_set]
  by_cases h1 : k = j
  · subst h1; simp [hj]
  · have h1' : ¬ j = k := fun e => h1 e.symm
    by_cases h2 : k = i
    · subst h2; simp [h1, h1', hi]
    · have h2' : ¬ i = k := fun e => h2 e.symm
      simp [h1, h1', h2, h2']

/-- in order among the first n, but for what stands at j over its own parent -/
def HeapUp (l : List Nat) (n j : Nat) : Prop :=
  (∀ k, 0 < k → k < n → k ≠ j → l.getD ((k - 1) / 2) 0 ≤ l.getD k 0) ∧ (∀ c, c < n → 0 < j → 0 < c → (c - 1) / 2 = j → l.getD ((j - 1) / 2) 0 ≤ l.getD c 0)
/-- in order among the first n, but for what stands below i -/
def HeapDown (l : List Nat) (n i : Nat) : Prop :=
  (∀ k, 0 < k → k < n → (k - 1) / 2 ≠ i → l.getD ((k - 1) / 2) 0 ≤ l.getD k 0) ∧ (∀ c, c < n → 0 < i → 0 < c → (c - 1) / 2 = i → l.getD ((i - 1) / 2) 0 ≤ l.getD c 0)
def Heap (l : List Nat) (n : Nat) : Prop := ∀ k, 0 < k → k < n → l.getD ((k - 1) / 2) 0 ≤ l.getD k 0

theorem up_stop {l : List Nat} {n j : Nat} (h : HeapUp l n j) (hs : j = 0 ∨ l.getD ((j - 1) / 2) 0 ≤ l.getD j 0) : Heap l n := by
  intro k h0 hk
  by_cases e : k = j
  · subst e
    rcases hs with hs | hs
    · omega
    · exact hs
  · exact h.1 k h0 hk e
theorem up_go {l : List Nat} {n j : Nat} (hn : n = l.length) (h : HeapUp l n j) (h0 : 0 < j) (hj : j < n) (hlt : l.getD j 0 < l.getD ((j - 1) / 2) 0) : HeapUp (swapL l ((j - 1) / 2) j) n ((j - 1) / 2) := by
  subst hn
  have hi : (j - 1) / 2 < l.length := by omega
  constructor
  · intro k hk0 hk hne
    rw [swapL_get hi hj, swapL_get hi hj]
    by_cases e1 : k = j
    · subst e1
      rw [if_neg (by omega), if_pos rfl, if_pos rfl]; omega
    · rw [if_neg e1, if_neg hne]
      by_cases e2 : (k - 1) / 2 = j
      · rw [if_pos e2]; exact h.2 k hk h0 hk0 e2
      · rw [if_neg e2]
        by_cases e3 : (k - 1) / 2 = (j - 1) / 2
        · rw [if_pos e3]
          have := h.1 k hk0 hk e1
          rw [e3] at this; omega
        · rw [if_neg e3]; exact h.1 k hk0 hk e1
  · intro c hc hp hc0 hcp
    rw [swapL_get hi hj, swapL_get hi hj, if_neg (by omega), if_neg (by omega)]
    have hpp := h.1 ((j - 1) / 2) hp (by omega) (by omega)
    by_cases e1 : c = j
    · subst e1; rw [if_pos rfl]; exact hpp
    · rw [if_neg e1, if_neg (by omega)]
      have := h.1 c hc0 hc e1
      rw [hcp] at this; omega
theorem down_stop {l : List Nat} {n i : Nat} (h : HeapDown l n i) (hs : ∀ c, 0 < c → c < n → (c - 1) / 2 = i → l.getD i 0 ≤ l.getD c 0) : Heap l n := by
  intro k h0 hk
  by_cases e : (k - 1) / 2 = i
  · rw [e]; exact hs k h0 hk e
  · exact h.1 k h0 hk e
theorem down_go {l : List Nat} {n i j : Nat} (hn : n ≤ l.length) (h : HeapDown l n i) (hj0 : 0 < j) (hj : j < n) (hji : (j - 1) / 2 = i) (hmin : ∀ c, 0 < c → c < n → (c - 1) / 2 = i → l.getD j 0 ≤ l.getD c 0)
    (hlt : l.getD j 0 < l.getD i 0) : HeapDown (swapL l i j) n j := by
  have hi : i < l.length := by omega
  have hjl : j < l.length := by omega
  constructor
  · intro k hk0 hk hne
    rw [swapL_get hi hjl, swapL_get hi hjl]
    by_cases e1 : (k - 1) / 2 = i
    · rw [if_neg (by omega), if_pos e1]
      by_cases e2 : k = j
      · rw [if_pos e2]; omega
      · rw [if_neg e2, if_neg (by omega)]; exact hmin k hk0 hk e1
    · rw [if_neg hne, if_neg e1, if_neg (by omega)]
      by_cases e2 : k = i
      · rw [if_pos e2]
        subst e2
        exact h.2 j hj (by omega) hj0 hji
      · rw [if_neg e2]; exact h.1 k hk0 hk e1
  · intro c hc hp hc0 hcp
    rw [swapL_get hi hjl, swapL_get hi hjl, if_neg (by omega), if_pos hji, if_neg (by omega), if_neg (by omega)]
    have := h.1 c hc0 hc (by omega)
    rw [hcp] at this; exact this
theorem heap_min {l : List Nat} {n : Nat} (h : Heap l n) : ∀ k, k < n → l.getD 0 0 ≤ l.getD k 0 := by
  intro k
  induction k using Nat.strongRecOn with
  | _ k ih =>
    intro hk
    by_cases h0 : k = 0
    · subst h0; exact Nat.le_refl _
    · exact Nat.le_trans (ih ((k - 1) / 2) (by omega) (by omega)) (h k (by omega) hk)
/-- the first and the last one are exchanged: all but the last one, with the root in disorder -/
theorem down_begin {l : List Nat} {n : Nat} (hn : n + 1 = l.length) (h : Heap l (n + 1)) : HeapDown (swapL l 0 n) n 0 := by
  constructor
  · intro k h0 hk hne
    rw [swapL_get (by omega) (by omega), swapL_get (by omega) (by omega), if_neg (by omega), if_neg hne, if_neg (by omega), if_neg (by omega)]
    exact h k h0 (by omega)
  · intro c _ h0; omega
theorem up_begin {l : List Nat} {n x : Nat} (hn : n = l.length) (h : Heap l n) : HeapUp (l ++ [x]) (n + 1) n := by
  subst hn
  constructor
  · intro k h0 hk hne
    have hk' : k < l.length := by omega
    have := h k h0 hk'
    simp only [List.getD_eq_getElem?_getD] at this ⊢
    rw [List.getElem?_append_left (by omega), List.getElem?_append_left hk']
    exact this
  · intro c hc h0 hc0 hcp; omega

def ints (l : List Nat) : List Value := l.map fun (k : Nat) => Value.int .i64 k
@[simp] theorem ints_length (l : List Nat) : (ints l).length = l.length := by simp [ints]
theorem ints_get {l : List Nat} {k : Nat} (h : k < l.length) : (ints l)[k]? = some (.int .i64 (l.getD k 0)) := by
  simp [ints, h]
theorem ints_get' {l : List Nat} {k : Nat} {ex : List Value} (h : k < l.length) : (ints l ++ ex)[k]? = some (.int .i64 (l.getD k 0)) := by
  rw [List.getElem?_append_left (by simpa using h), ints_get h]
theorem ints_set {l : List Nat} {k x : Nat} : (ints l).set k (.int .i64 x) = ints (l.set k x) := by simp [ints, List.map_set]
theorem ints_set' {l : List Nat} {k x : Nat} {ex : List Value} (h : k < l.length) : (ints l ++ ex).set k (.int .i64 x) = ints (l.set k x) ++ ex := by
  rw [List.set_append_left _ _ (by simpa using h), ints_set]
end Go.Proofs.Ytlecgoebbjnnmaa

