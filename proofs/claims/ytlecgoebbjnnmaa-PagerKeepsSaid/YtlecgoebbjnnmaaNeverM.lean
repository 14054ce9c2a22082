/- Acts without a fuse: plain. -/
import Derived.Test.YtlecgoebbjnnmaaLaw3
set_option linter.unusedVariables false
set_option linter.unusedSimpArgs false
set_option linter.unusedSectionVars false
set_option linter.constructorNameAsVariable false
set_option maxRecDepth 100000
set_option maxHeartbeats 4000000
namespace Go.Proofs.Ytlecgoebbjnnmaa
open Go
variable [Ref]

structure NOk (k : Nat) (p : PgM) (D : DiskM) : Prop where
  n : D.n = 15
  fused : D.fused = false
  off : D.off = false
  pend : D.pend.length ≤ 4 * k
  broken : p.broken = false
  gen : p.gen ≤ k
  first : p.first = 1
  pages : p.pages = 12
  fresh : ∀ x ∈ p.fresh, 0 ≤ x ∧ x < 12

theorem power_on {D : DiskM} (hf : D.fused = false) (ho : D.off = false) : D.power.2 = true ∧ D.power.1.fused = false ∧ D.power.1.off = false ∧ D.power.1.n = D.n ∧ D.power.1.pend = D.pend := by
  have h : D.power = ({ D with left := if D.fused then D.left - 1 else D.left }, true) := by unfold DiskM.power; rw [if_neg (by simp [hf, ho])]
  rw [h]; exact ⟨rfl, hf, ho, rfl, rfl⟩
theorem write_on {D : DiskM} (hf : D.fused = false) (ho : D.off = false) {i : Int} {b : List UInt8} (hi : 0 ≤ i ∧ i < D.n) (hb : b.length = 256) :
    (D.write i b).2 = 0 ∧ (D.write i b).1.fused = false ∧ (D.write i b).1.off = false := by
  have hp := power_on hf ho
  have h : D.write i b = (D.power.1.lay i.toNat b, 0) := by unfold DiskM.write; rw [if_pos ⟨hi.1, hi.2, hb⟩, if_pos hp.1]
  rw [h]; exact ⟨rfl, hp.2.1, hp.2.2.1⟩
theorem flush_on {D : DiskM} (hf : D.fused = false) (ho : D.off = false) : D.flush.2 = 0 ∧ D.flush.1.fused = false ∧ D.flush.1.off = false ∧ D.flush.1.pend = [] := by
  have hp := power_on hf ho
  have h : D.flush = (D.power.1.settle fun _ => true, 0) := by unfold DiskM.flush; rw [if_pos hp.1]
  rw [h]; exact ⟨rfl, hp.2.1, hp.2.2.1, rfl⟩

theorem NOk.more {k : Nat} {p : PgM} {D : DiskM} (h : NOk k p D) : NOk (k + 1) p D := ⟨h.n, h.fused, h.off, by have := h.pend; omega, h.broken, by have := h.gen; omega, h.first, h.pages, h.fresh⟩

/-- a page that is fresh is written -/
theorem put_on {k : Nat} {p : PgM} {D : DiskM} (h : NOk k p D) {i : Int} (hi : 0 ≤ i ∧ i < 14) {b : List UInt8} (hb : b.length = 256) :
    p.put D i b = (p, (D.write (p.first + i) b).1, 0) ∧ NOk (k + 1) p (D.write (p.first + i) b).1 := by
  have hw := write_on h.fused h.off (i := p.first + i) (b := b) (by rw [h.first, h.n]; omega) hb
  have hbr := h.broken
  have hpd := write_pend D (p.first + i) b
  have hpe := h.pend
  refine ⟨?_, ⟨by rw [write_n, h.n], hw.2.1, hw.2.2, by omega, h.broken, by have := h.gen; omega, h.first, h.pages, h.fresh⟩⟩
  unfold PgM.put
  rw [hw.1]
  have : ({ p with broken := decide ((0 : Int) ≠ 0) } : PgM) = p := by
    obtain ⟨_, _, _, _, _, _, _, _, br⟩ := p
    simp only at hbr
    subst hbr; rfl
  rw [this]

theorem flush_pg {k : Nat} {p : PgM} {D : DiskM} (h : NOk k p D) : p.flush D = (p, D.flush.1, 0) ∧ NOk k p D.flush.1 := by
  have hw := flush_on h.fused h.off
  have hbr := h.broken
  refine ⟨?_, ⟨by rw [flush_n, h.n], hw.2.1, hw.2.2.1, by rw [hw.2.2.2]; simp, h.broken, h.gen, h.first, h.pages, h.fresh⟩⟩
  unfold PgM.flush
  rw [hw.1]
  have : ({ p with broken := decide ((0 : Int) ≠ 0) } : PgM) = p := by
    obtain ⟨_, _, _, _, _, _, _, _, br⟩ := p
    simp only at hbr
    subst hbr; rfl
  rw [this]

theorem commit_on {k : Nat} {p : PgM} {D : DiskM} (h : NOk k p D) (hk : k ≤ 1000) {root : Int} {epoch : Nat} (hb : p.commitBad root epoch = false) :
    ∃ D', p.commit D root epoch = ({ p with gen := p.gen + 1, root := root, epoch := epoch, used := giveAll p.dropped p.used, fresh := [], dropped := [] }, D', 0) ∧
      NOk (k + 1) { p with gen := p.gen + 1, root := root, epoch := epoch, used := giveAll p.dropped p.used, fresh := [], dropped := [] } D' := by
  have hg := h.gen
  obtain ⟨f1, f2⟩ := flush_pg h
  obtain ⟨w1, w2⟩ := put_on f2 (i := ((p.gen + 1) % 2 : Nat)) (by omega) (b := headB (p.gen + 1) (root + 1).toNat epoch) headB_length
  obtain ⟨g1, g2⟩ := flush_pg w2
  refine ⟨(D.flush.1.write (p.first + ((p.gen + 1) % 2 : Nat)) (headB (p.gen + 1) (root + 1).toNat epoch)).1.flush.1, ?_, ?_⟩
  · rw [commit_go hb h.broken (by omega), f1]
    simp only
    rw [if_neg (by decide), w1]
    simp only
    rw [if_neg (by decide), g1]
    simp only
    rw [if_neg (by decide)]
  · exact ⟨g2.n, g2.fused, g2.off, g2.pend, g2.broken, by show p.gen + 1 ≤ k + 1; omega, g2.first, g2.pages, fun x hx => by cases hx⟩

theorem leastFree_lt {u : List Bool} {x : Nat} (h : leastFree u = some x) : x < u.length ∧ u.getD x false = false := by
  unfold leastFree at h
  have h1 := List.find?_some h
  have h2 := List.mem_of_find?_eq_some h
  exact ⟨List.mem_range.1 h2, by simpa using h1⟩
theorem leastFree_some {u : List Bool} (h : 0 < freeN u) : ∃ x, leastFree u = some x ∧ x < u.length ∧ u.getD x false = false := by
  cases hx : leastFree u with
  | some x => exact ⟨x, rfl, leastFree_lt hx⟩
  | none =>
    exfalso
    unfold leastFree at hx
    rw [List.find?_eq_none] at hx
    unfold freeN at h
    obtain ⟨i, hi, he⟩ := List.getElem_of_mem (List.count_pos_iff.1 h)
    have := hx i (List.mem_range.2 hi)
    simp [List.getElem?_eq_getElem hi, he] at this
theorem freeN_set {u : List Bool} {x : Nat} (hx : x < u.length) (h : u.getD x false = false) : freeN (u.set x true) + 1 = freeN u := by
  unfold freeN
  have hx' : u[x] = false := by simpa [hx] using h
  have hc := List.count_set (a := true) (b := false) hx
  have hp : 0 < u.count false := List.count_pos_iff.2 (hx' ▸ List.getElem_mem hx)
  rw [hc, hx']
  simp
  omega

theorem playM_ok {k : Nat} {p : PgM} {D : DiskM} (h : NOk k p D) (hk : k ≤ 1000) (hwf : p.WF 15) (a : ActM) : NOk (k + 1) (playM p D a).1 (playM p D a).2.1 := by
  unfold playM
  split
  · -- take
    unfold PgM.take
    cases hl : leastFree p.used with
    | none => exact h.more
    | some x =>
      have hx := leastFree_lt hl
      have hu := hwf.used
      have hpg := h.pages
      refine ⟨h.n, h.fused, h.off, by have := h.pend; show D.pend.length ≤ _; omega, h.broken, by have := h.gen; show p.gen ≤ _; omega, h.first, h.pages, ?_⟩
      intro y hy
      have hy' : y ∈ (if (x : Int) ∈ p.fresh then p.fresh else p.fresh ++ [(x : Int)]) := hy
      split at hy'
      · exact h.fresh y hy'
      · rcases List.mem_append.1 hy' with hy' | hy'
        · exact h.fresh y hy'
        · have : y = (x : Int) := by simpa using hy'
          omega
  split
  · unfold PgM.write
    split
    · exact h.more
    · rename_i hfr
      split
      · exact h.more
      · have hfi : a.n ∈ p.fresh := Decidable.not_not.1 (fun hn => hfr (Or.inl hn))
        have hbl : a.bytes.length = 256 := Decidable.not_not.1 (fun hn => hfr (Or.inr hn))
        have hr := h.fresh _ hfi
        obtain ⟨w1, w2⟩ := put_on h (i := 2 + a.n) (by omega) (b := a.bytes) hbl
        rw [w1]; exact w2
  split
  · unfold PgM.drop
    split
    · exact h.more
    split
    · exact ⟨h.n, h.fused, h.off, by have := h.pend; show D.pend.length ≤ _; omega, h.broken, by have := h.gen; show p.gen ≤ _; omega, h.first, h.pages, fun x hx => h.fresh x (List.mem_of_mem_erase hx)⟩
    · exact ⟨h.n, h.fused, h.off, by have := h.pend; show D.pend.length ≤ _; omega, h.broken, by have := h.gen; show p.gen ≤ _; omega, h.first, h.pages, h.fresh⟩
  split
  · cases hb : p.commitBad a.n (epochM p.epoch a.m) with
    | true =>
      have : p.commit D a.n (epochM p.epoch a.m) = (p, D, 1) := by unfold PgM.commit; rw [if_pos hb]
      rw [this]; exact h.more
    | false =>
      obtain ⟨D', e, ho⟩ := commit_on h hk hb
      rw [e]; exact ho
  split
  · exact ⟨h.n, h.fused, h.off, by have := h.pend; show D.pend.length ≤ _; omega, h.broken, by have := h.gen; show p.gen ≤ _; omega, h.first, h.pages, fun x hx => by cases hx⟩
  split
  · unfold PgM.use
    split
    · exact ⟨h.n, h.fused, h.off, by have := h.pend; show D.pend.length ≤ _; omega, h.broken, by have := h.gen; show p.gen ≤ _; omega, h.first, h.pages, fun x hx => by cases hx⟩
    · exact h.more
  · exact h.more
theorem NOk.start : NOk 0 P0 D0 := ⟨rfl, rfl, rfl, by decide, rfl, by decide, rfl, rfl, fun x hx => by cases hx⟩
end Go.Proofs.Ytlecgoebbjnnmaa

