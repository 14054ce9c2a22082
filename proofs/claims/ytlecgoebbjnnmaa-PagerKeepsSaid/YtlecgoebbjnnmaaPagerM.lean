/- A pager, as plain data. -/
import Derived.Test.YtlecgoebbjnnmaaHead
import Derived.Test.YtlecgoebbjnnmaaDisk3
import Derived.Test.YtlecgoebbjnnmaaSpace2
set_option linter.unusedVariables false
set_option linter.unusedSimpArgs false
set_option linter.unusedSectionVars false
set_option linter.constructorNameAsVariable false
namespace Go.Proofs.Ytlecgoebbjnnmaa
open Go
variable [Ref]

structure PgM where
  gen : Nat
  root : Int
  epoch : Nat
  first : Nat
  pages : Nat
  used : List Bool
  fresh : List Int
  dropped : List Int
  broken : Bool

structure PgM.WF (p : PgM) (n : Nat) : Prop where
  gen : p.gen < 18446744073709551616
  root : -1 ≤ p.root ∧ p.root < p.pages
  epoch : p.epoch < 18446744073709551616
  pages : 1 ≤ p.pages
  fit : p.first + 2 + p.pages ≤ n
  used : p.used.length = p.pages
  dnd : p.dropped.Nodup
  drg : ∀ x ∈ p.dropped, 0 ≤ x ∧ x < p.pages
  fnd : p.fresh.Nodup

def takenM (u : List Bool) (i : Int) : Bool := decide (0 ≤ i ∧ i < u.length ∧ u.getD i.toNat false = true)
def giveM (u : List Bool) (i : Int) : List Bool := if 0 ≤ i ∧ i < u.length ∧ u.getD i.toNat false = true then u.set i.toNat false else u
@[simp] theorem giveM_length (u : List Bool) (i : Int) : (giveM u i).length = u.length := by unfold giveM; split <;> simp
def giveAll : List Int → List Bool → List Bool
  | [], u => u
  | i :: r, u => giveAll r (giveM u i)
@[simp] theorem giveAll_length : ∀ (l : List Int) (u : List Bool), (giveAll l u).length = u.length
  | [], u => rfl
  | i :: r, u => by rw [giveAll, giveAll_length r, giveM_length]
theorem giveAll_snoc : ∀ (l : List Int) (i : Int) (u : List Bool), giveAll (l ++ [i]) u = giveM (giveAll l u) i
  | [], i, u => rfl
  | j :: l, i, u => by rw [List.cons_append, giveAll, giveAll_snoc l i]; rfl
/-- those that are fresh among the first ones are let go -/
def undoM (fresh : List Int) : Nat → List Bool → List Bool
  | 0, u => u
  | k + 1, u => if (k : Int) ∈ fresh then giveM (undoM fresh k u) k else undoM fresh k u
@[simp] theorem undoM_length (fr : List Int) : ∀ (k : Nat) (u : List Bool), (undoM fr k u).length = u.length
  | 0, u => rfl
  | k + 1, u => by unfold undoM; split <;> simp [undoM_length fr k u]

/-- a list of different numbers below a bound is no longer than it -/
theorem nodup_range_length : ∀ (n : Nat) (l : List Int), l.Nodup → (∀ x ∈ l, 0 ≤ x ∧ x < n) → l.length ≤ n
  | 0, l, _, h => by
    cases l with
    | nil => simp
    | cons x r => have := h x (by simp); omega
  | n + 1, l, hn, h => by
    have h1 := nodup_range_length n (l.erase (n : Int)) (hn.erase _) (fun x hx => by
      have h2 := h x (List.mem_of_mem_erase hx)
      have h3 : x ≠ (n : Int) := fun e => by subst e; exact (List.Nodup.not_mem_erase hn) hx
      omega)
    by_cases hm : (n : Int) ∈ l
    · rw [List.length_erase_of_mem hm] at h1; omega
    · rw [List.erase_of_not_mem hm] at h1; omega
theorem PgM.WF.dl {p : PgM} {n : Nat} (h : p.WF n) : p.dropped.length ≤ p.pages := nodup_range_length _ _ h.dnd h.drg

def PgM.settle (p : PgM) : PgM := { p with fresh := [], dropped := [] }
theorem PgM.WF.settle {p : PgM} {n : Nat} (h : p.WF n) : p.settle.WF n := ⟨h.gen, h.root, h.epoch, h.pages, h.fit, h.used, List.nodup_nil, (fun x hx => by cases hx), List.nodup_nil⟩

def PgM.use (p : PgM) (l : List Int) : PgM × Int := match onlyM l (List.replicate p.pages false) with
  | some t => ({ p.settle with used := t }, 0)
  | none => (p, 1)
def PgM.read (p : PgM) (D : DiskM) (i : Int) : List UInt8 × Int := if takenM p.used i = true then D.read (p.first + 2 + i) else ([], 1)
/-- the least free page -/
def leastFree (u : List Bool) : Option Nat := (List.range u.length).find? fun i => !u.getD i false
theorem leastFree_of {u : List Bool} {x : Nat} (h1 : x < u.length) (h2 : u.getD x false = false) (h3 : ∀ y, y < x → u.getD y false = true) : leastFree u = some x := by
  have h4 : (fun i => !u.getD i false) x = true := by simp only [h2]; rfl
  rw [leastFree, List.find?_eq_some_iff_getElem]
  refine ⟨h4, x, by simpa using h1, by simp, fun j hj => by have := h3 j hj; simpa using this⟩
theorem leastFree_none {u : List Bool} (h : freeN u = 0) : leastFree u = none := by
  rw [leastFree, List.find?_eq_none]
  intro x hx
  have hx' := List.mem_range.1 hx
  have : false ∉ u := by unfold freeN at h; exact List.count_eq_zero.1 h
  have h2 : u.getD x false = u[x] := by simp [hx']
  have h3 : u[x] ≠ false := fun e => this (e ▸ List.getElem_mem hx')
  simp only [h2]
  simpa using h3
def PgM.take (p : PgM) : PgM × Int × Int := match leastFree p.used with
  | some x => ({ p with used := p.used.set x true, fresh := if (x : Int) ∈ p.fresh then p.fresh else p.fresh ++ [(x : Int)] }, x, 0)
  | none => (p, 0, 3)
def PgM.put (p : PgM) (D : DiskM) (n : Int) (b : List UInt8) : PgM × DiskM × Int :=
  ({ p with broken := decide ((D.write (p.first + n) b).2 ≠ 0) }, (D.write (p.first + n) b).1, (D.write (p.first + n) b).2)
def PgM.write (p : PgM) (D : DiskM) (i : Int) (b : List UInt8) : PgM × DiskM × Int :=
  if i ∉ p.fresh ∨ b.length ≠ 256 then (p, D, 1) else if p.broken = true then (p, D, 9) else p.put D (2 + i) b
def PgM.drop (p : PgM) (i : Int) : PgM × Int :=
  if takenM p.used i = false ∨ i ∈ p.dropped then (p, 1)
  else if i ∈ p.fresh then ({ p with fresh := p.fresh.erase i, used := giveM p.used i }, 0)
  else ({ p with dropped := p.dropped ++ [i] }, 0)
def PgM.flush (p : PgM) (D : DiskM) : PgM × DiskM × Int := ({ p with broken := decide (D.flush.2 ≠ 0) }, D.flush.1, D.flush.2)
def PgM.commitBad (p : PgM) (root : Int) (epoch : Nat) : Bool := decide (epoch < p.epoch ∨ (root ≠ -1 ∧ (takenM p.used root = false ∨ root ∈ p.dropped)))
def PgM.commit (p : PgM) (D : DiskM) (root : Int) (epoch : Nat) : PgM × DiskM × Int :=
  if p.commitBad root epoch = true then (p, D, 1) else if p.broken = true then (p, D, 9) else if p.gen + 1 = 18446744073709551616 then (p, D, 3)
  else
    let a := p.flush D
    if a.2.2 ≠ 0 then a else
    let b := a.1.put a.2.1 ((p.gen + 1) % 2 : Nat) (headB (p.gen + 1) (root + 1).toNat epoch)
    if b.2.2 ≠ 0 then b else
    let c := b.1.flush b.2.1
    if c.2.2 ≠ 0 then c else
    ({ c.1 with gen := p.gen + 1, root := root, epoch := epoch, used := giveAll p.dropped p.used, fresh := [], dropped := [] }, c.2.1, 0)
def PgM.undo (p : PgM) : PgM := { p.settle with used := undoM p.fresh p.pages p.used }

/-- what the heads say -/
def headOf (D : DiskM) (first pages : Nat) (s : Nat × Int × Nat) (n : Nat) : Nat × Int × Nat :=
  let b := blockOf D.now (first + n)
  if toldOk b n pages = true ∧ s.1 < tG b then (tG b, (tR b : Int) - 1, tE b) else s
def openM (D : DiskM) (first size : Nat) : PgM :=
  let s := headOf D first (size - 2) (headOf D first (size - 2) (0, -1, 1) 0) 1
  { gen := s.1, root := s.2.1, epoch := s.2.2, first := first, pages := size - 2, used := List.replicate (size - 2) false, fresh := [], dropped := [], broken := false }
def openBad (n : Nat) (first size : Int) : Bool := decide (first < 0 ∨ size < 3 ∨ size > n ∨ first > n - size)

theorem giveM_wf {p : PgM} {n : Nat} {u : List Bool} (h : p.WF n) (hu : u.length = p.pages) : PgM.WF { p with used := u } n := ⟨h.gen, h.root, h.epoch, h.pages, h.fit, hu, h.dnd, h.drg, h.fnd⟩
theorem PgM.WF.broken {p : PgM} {n : Nat} (h : p.WF n) (b : Bool) : PgM.WF { p with broken := b } n := ⟨h.gen, h.root, h.epoch, h.pages, h.fit, h.used, h.dnd, h.drg, h.fnd⟩
theorem write_n (D : DiskM) (i : Int) (b : List UInt8) : (D.write i b).1.n = D.n := by
  unfold DiskM.write
  split
  · split
    · exact (power_same D).1
    · exact (power_same D).1
  · rfl
theorem flush_n (D : DiskM) : D.flush.1.n = D.n := by
  unfold DiskM.flush
  split
  · exact (power_same D).1
  · exact (power_same D).1
theorem write_pend (D : DiskM) (i : Int) (b : List UInt8) : (D.write i b).1.pend.length ≤ D.pend.length + 4 := by
  unfold DiskM.write
  split
  · split
    · simp [DiskM.lay, piecesOf, (power_same D).2.2.2.1]
    · rw [(power_same D).2.2.2.1]; omega
  · exact Nat.le_add_right _ _
theorem flush_pend (D : DiskM) : D.flush.1.pend.length ≤ D.pend.length := by
  unfold DiskM.flush
  split
  · simp [DiskM.settle]
  · rw [(power_same D).2.2.2.1]; exact Nat.le_refl _

/-! ## how it lies in memory -/
inductive PagerAt (bp bd : Nat) (n : Nat) (p : PgM) : List Atom → Prop
  | mk {bs bm : Nat} {vd : Value} {es : List MapEntry} {c : Nat} {A E : List Atom} (wf : p.WF n) (hS : SpaceAt bs p.used A) (hm : IntKeys .i64 es p.fresh) (hd : Own 3 1 vd (zs p.dropped) E) :
    PagerAt bp bd n p (.cells bp 115 [.int .u64 p.gen, .int .i64 p.root, .int .u64 p.epoch, ptr bd, .int .i64 p.first, .int .i64 p.pages, ptr bs, .map (some bm), vd, .bool p.broken] :: .map bm es c :: (A ++ E))
theorem PagerAt.wf {bp bd n : Nat} {p : PgM} {A : List Atom} (h : PagerAt bp bd n p A) : p.WF n := by cases h; assumption
end Go.Proofs.Ytlecgoebbjnnmaa

