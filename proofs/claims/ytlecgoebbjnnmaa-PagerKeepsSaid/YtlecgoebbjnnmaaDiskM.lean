/- A disk, as plain data. -/
import Derived.Test.YtlecgoebbjnnmaaOps5
set_option linter.unusedVariables false
set_option linter.unusedSimpArgs false
set_option linter.unusedSectionVars false
set_option linter.constructorNameAsVariable false
namespace Go.Proofs.Ytlecgoebbjnnmaa
open Go
variable [Ref]

structure PieceM where
  blk : Nat
  at_ : Nat
  b : List UInt8

structure DiskM where
  n : Nat
  now : List UInt8
  safe : List UInt8
  pend : List PieceM
  fused : Bool
  left : Int
  off : Bool

def PieceM.WF (n : Nat) (p : PieceM) : Prop := p.blk < n ∧ p.at_ + 64 ≤ 256 ∧ p.b.length = 64

structure DiskM.WF (D : DiskM) : Prop where
  n1 : 1 ≤ D.n
  n2 : D.n ≤ 4096
  now : D.now.length = D.n * 256
  safe : D.safe.length = D.n * 256
  pend : ∀ p ∈ D.pend, p.WF D.n
  left : D.fused = true → 0 ≤ D.left ∧ D.left ≤ 9223372036854775807

def DiskM.new (n : Nat) : DiskM := { n, now := List.replicate (n * 256) 0, safe := List.replicate (n * 256) 0, pend := [], fused := false, left := 0, off := false }

def DiskM.power (D : DiskM) : DiskM × Bool :=
  if D.off = true ∨ (D.fused = true ∧ D.left = 0) then ({ D with off := true }, false) else ({ D with left := if D.fused then D.left - 1 else D.left }, true)

def piecesOf (n : Nat) (bs : List UInt8) (k : Nat) : List PieceM := (List.range k).map fun i => ⟨n, i * 64, (bs.drop (i * 64)).take 64⟩

def DiskM.lay (D : DiskM) (n : Nat) (bs : List UInt8) : DiskM := { D with now := setB D.now (n * 256) bs, pend := D.pend ++ piecesOf n bs 4 }

/-- what is told: 0 OK, 1 ErrArg, 9 ErrDown -/
def DiskM.write (D : DiskM) (n : Int) (bs : List UInt8) : DiskM × Int :=
  if 0 ≤ n ∧ n < D.n ∧ bs.length = 256 then
    (if D.power.2 = true then (D.power.1.lay n.toNat bs, 0) else (D.power.1, 9))
  else (D, 1)

def keepSafe (kept : Nat → Bool) : Nat → List PieceM → List UInt8 → List UInt8
  | _, [], s => s
  | i, p :: r, s => keepSafe kept (i + 1) r (if kept i then setB s (p.blk * 256 + p.at_) p.b else s)

def blockOf (s : List UInt8) (k : Nat) : List UInt8 := (s.drop (k * 256)).take 256
def backNow (safe : List UInt8) : List PieceM → List UInt8 → List UInt8
  | [], now => now
  | p :: r, now => backNow safe r (setB now (p.blk * 256) (blockOf safe p.blk))

def DiskM.settle (D : DiskM) (kept : Nat → Bool) : DiskM :=
  let safe := keepSafe kept 0 D.pend D.safe
  { D with safe := safe, now := backNow safe D.pend D.now, pend := [] }

def DiskM.flush (D : DiskM) : DiskM × Int :=
  if D.power.2 = true then (D.power.1.settle fun _ => true, 0) else (D.power.1, 9)

def DiskM.fuse (D : DiskM) (k : Int) : DiskM := if D.off then D else { D with fused := true, left := max k 0 }

def DiskM.crash (D : DiskM) (keep : List Bool) : DiskM :=
  { D.settle (fun i => keep.getD i false) with fused := false, left := 0, off := false }

def DiskM.read (D : DiskM) (n : Int) : List UInt8 × Int :=
  if 0 ≤ n ∧ n < D.n then (if D.off then ([], 9) else (blockOf D.now n.toNat, 0)) else ([], 1)

theorem power_wf {D : DiskM} (h : D.WF) : D.power.1.WF := by
  unfold DiskM.power
  split
  · exact ⟨h.n1, h.n2, h.now, h.safe, h.pend, h.left⟩
  · rename_i hn
    refine ⟨h.n1, h.n2, h.now, h.safe, h.pend, fun hf => ?_⟩
    have hl := h.left hf
    simp only [not_or, not_and] at hn
    have := hn.2 hf
    show 0 ≤ (if D.fused then D.left - 1 else D.left) ∧ (if D.fused then D.left - 1 else D.left) ≤ _
    rw [hf]; simp only [if_true]
    omega
theorem power_same (D : DiskM) : D.power.1.n = D.n ∧ D.power.1.now = D.now ∧ D.power.1.safe = D.safe ∧ D.power.1.pend = D.pend ∧ D.power.1.fused = D.fused := by
  unfold DiskM.power; split <;> exact ⟨rfl, rfl, rfl, rfl, rfl⟩

theorem pieces_wf {n N : Nat} {bs : List UInt8} (hn : n < N) (hb : bs.length = 256) (k : Nat) (hk : k ≤ 4) : ∀ p ∈ piecesOf n bs k, p.WF N := by
  intro p hp
  obtain ⟨i, hi, rfl⟩ := List.mem_map.1 hp
  have := List.mem_range.1 hi
  exact ⟨hn, by show i * 64 + 64 ≤ 256; omega, by simp; omega⟩

theorem lay_wf {D : DiskM} (h : D.WF) {n : Nat} {bs : List UInt8} (hn : n < D.n) (hb : bs.length = 256) : (D.lay n bs).WF := by
  refine ⟨h.n1, h.n2, ?_, h.safe, ?_, h.left⟩
  · show (setB D.now (n * 256) bs).length = _
    have : (n + 1) * 256 ≤ D.n * 256 := Nat.mul_le_mul_right _ hn
    rw [setB_length (by rw [h.now]; omega)]; exact h.now
  · intro p hp
    rcases List.mem_append.1 hp with hp | hp
    · exact h.pend p hp
    · exact pieces_wf hn hb 4 (by omega) p hp

theorem keepSafe_length (kept : Nat → Bool) (N : Nat) : ∀ (l : List PieceM) (i : Nat) (s : List UInt8), s.length = N * 256 → (∀ p ∈ l, p.WF N) → (keepSafe kept i l s).length = N * 256
  | [], _, _, h, _ => h
  | p :: r, i, s, h, hw => by
    obtain ⟨h1, h2, h3⟩ := hw p (by simp)
    refine keepSafe_length kept N r (i + 1) _ ?_ (fun q hq => hw q (by simp [hq]))
    split
    · have : (p.blk + 1) * 256 ≤ N * 256 := Nat.mul_le_mul_right _ h1
      rw [setB_length (by rw [h, h3]; omega)]; exact h
    · exact h
theorem blockOf_length {s : List UInt8} {N k : Nat} (hs : s.length = N * 256) (hk : k < N) : (blockOf s k).length = 256 := by
  have : (k + 1) * 256 ≤ N * 256 := Nat.mul_le_mul_right _ hk
  simp [blockOf, hs]; omega
theorem backNow_length (safe : List UInt8) (N : Nat) (hs : safe.length = N * 256) : ∀ (l : List PieceM) (s : List UInt8), s.length = N * 256 → (∀ p ∈ l, p.WF N) → (backNow safe l s).length = N * 256
  | [], _, h, _ => h
  | p :: r, s, h, hw => by
    obtain ⟨h1, h2, h3⟩ := hw p (by simp)
    refine backNow_length safe N hs r _ ?_ (fun q hq => hw q (by simp [hq]))
    have : (p.blk + 1) * 256 ≤ N * 256 := Nat.mul_le_mul_right _ h1
    rw [setB_length (by rw [h, blockOf_length hs h1]; omega)]; exact h

theorem settle_wf {D : DiskM} (h : D.WF) (kept : Nat → Bool) : (D.settle kept).WF := by
  have hs := keepSafe_length kept D.n D.pend 0 D.safe h.safe h.pend
  exact ⟨h.n1, h.n2, backNow_length _ _ hs _ _ h.now h.pend, hs, fun p hp => (by cases hp), h.left⟩
theorem crash_wf {D : DiskM} (h : D.WF) (keep : List Bool) : (D.crash keep).WF := by
  have := settle_wf h (fun i => keep.getD i false)
  exact ⟨this.n1, this.n2, this.now, this.safe, this.pend, fun hf => by cases hf⟩
theorem fuse_wf {D : DiskM} (h : D.WF) {k : Int} (hk : k ≤ 9223372036854775807) : (D.fuse k).WF := by
  unfold DiskM.fuse
  split
  · exact h
  · exact ⟨h.n1, h.n2, h.now, h.safe, h.pend, fun _ => by show 0 ≤ max k 0 ∧ max k 0 ≤ _; omega⟩
theorem write_wf {D : DiskM} (h : D.WF) (n : Int) (bs : List UInt8) : (D.write n bs).1.WF := by
  unfold DiskM.write
  split
  · rename_i hc
    split
    · exact lay_wf (power_wf h) (by rw [(power_same D).1]; omega) hc.2.2
    · exact power_wf h
  · exact h
theorem flush_wf {D : DiskM} (h : D.WF) : D.flush.1.WF := by
  unfold DiskM.flush
  split
  · exact settle_wf (power_wf h) _
  · exact power_wf h
theorem new_wf {n : Nat} (h1 : 1 ≤ n) (h2 : n ≤ 4096) : (DiskM.new n).WF := ⟨h1, h2, by simp [DiskM.new], by simp [DiskM.new], fun p hp => (by cases hp), fun hf => (by cases hf)⟩

/-! ## how it lies in memory -/
def encP (p : PieceM) : List Value := .int .i64 p.blk :: .int .i64 p.at_ :: vbs p.b

inductive DiskAt (bd : Nat) (D : DiskM) : List Atom → Prop
  | mk {bn bs : Nat} {vp : Value} {Ap : List Atom} {l : Int} (wf : D.WF) (hp : Own 109 66 vp (D.pend.flatMap encP) Ap) (hl : D.fused = true → l = D.left) :
    DiskAt bd D (.cells bd 94 [.slice (some ⟨bn, 0, none⟩) D.n D.n, .slice (some ⟨bs, 0, none⟩) D.n D.n, vp, .bool D.fused, .int .i64 l, .bool D.off] :: .cells bn 106 (vbs D.now) :: .cells bs 106 (vbs D.safe) :: Ap)
theorem DiskAt.wf {bd : Nat} {D : DiskM} {A : List Atom} (h : DiskAt bd D A) : D.WF := by cases h; assumption
end Go.Proofs.Ytlecgoebbjnnmaa

