/- What a disk keeps through a crash: plain. -/
import Derived.Test.YtlecgoebbjnnmaaNeverM
set_option linter.unusedVariables false
set_option linter.unusedSimpArgs false
set_option linter.unusedSectionVars false
set_option linter.constructorNameAsVariable false
set_option maxRecDepth 100000
set_option maxHeartbeats 4000000
namespace Go.Proofs.Ytlecgoebbjnnmaa
open Go
variable [Ref]

/-! ## Blocks and pieces -/
theorem setB_get {l m : List UInt8} {o i : Nat} (h : o + m.length ≤ l.length) : (setB l o m)[i]? = if o ≤ i ∧ i < o + m.length then m[i - o]? else l[i]? := by
  have h1 : (l.take o).length = o := by simp; omega
  unfold setB
  by_cases c1 : i < o
  · rw [if_neg (by omega), List.append_assoc, List.getElem?_append_left (by omega), List.getElem?_take, if_pos c1]
  · by_cases c2 : i < o + m.length
    · rw [if_pos ⟨by omega, c2⟩, List.getElem?_append_left (by simp; omega), List.getElem?_append_right (by omega), h1]
    · rw [if_neg (by omega), List.getElem?_append_right (by simp; omega), List.getElem?_drop]
      congr 1
      simp
      omega
theorem blockOf_get {s : List UInt8} {k i : Nat} : (blockOf s k)[i]? = if i < 256 then s[k * 256 + i]? else none := by
  unfold blockOf
  rw [List.getElem?_take, List.getElem?_drop]
theorem block_other {s m : List UInt8} {N j o k : Nat} (hs : s.length = N * 256) (hj : j < N) (ho : o + m.length ≤ 256) (hjk : j ≠ k) : blockOf (setB s (j * 256 + o) m) k = blockOf s k := by
  have h1 : (j + 1) * 256 ≤ N * 256 := Nat.mul_le_mul_right _ hj
  apply List.ext_getElem?
  intro i
  rw [blockOf_get, blockOf_get]
  split
  · rw [setB_get (by omega), if_neg]
    rintro ⟨h2, h3⟩
    omega
  · rfl
theorem block_same {s m : List UInt8} {N k : Nat} (hs : s.length = N * 256) (hk : k < N) (hm : m.length = 256) : blockOf (setB s (k * 256) m) k = m := by
  have h1 : (k + 1) * 256 ≤ N * 256 := Nat.mul_le_mul_right _ hk
  apply List.ext_getElem?
  intro i
  rw [blockOf_get]
  split
  · rw [setB_get (by omega), if_pos (by omega)]
    congr 1; omega
  · rw [List.getElem?_eq_none (by omega)]
theorem ext_blocks {s t : List UInt8} {N : Nat} (hs : s.length = N * 256) (ht : t.length = N * 256) (h : ∀ k, k < N → blockOf s k = blockOf t k) : s = t := by
  apply List.ext_getElem?
  intro i
  by_cases hi : i < N * 256
  · have h1 := h (i / 256) (by omega)
    have h2 : (blockOf s (i / 256))[i % 256]? = (blockOf t (i / 256))[i % 256]? := by rw [h1]
    rw [blockOf_get, blockOf_get, if_pos (Nat.mod_lt _ (by decide)), if_pos (Nat.mod_lt _ (by decide)), show i / 256 * 256 + i % 256 = i by omega] at h2
    exact h2
  · rw [List.getElem?_eq_none (by omega), List.getElem?_eq_none (by omega)]

theorem keepSafe_other (kept : Nat → Bool) (N k : Nat) : ∀ (l : List PieceM) (i : Nat) (s : List UInt8), s.length = N * 256 → (∀ p ∈ l, p.WF N) → (∀ p ∈ l, p.blk ≠ k) → blockOf (keepSafe kept i l s) k = blockOf s k
  | [], _, _, _, _, _ => rfl
  | p :: r, i, s, hs, hw, hk => by
    obtain ⟨h1, h2, h3⟩ := hw p (by simp)
    have h4 : (p.blk + 1) * 256 ≤ N * 256 := Nat.mul_le_mul_right _ h1
    unfold keepSafe
    rw [keepSafe_other kept N k r (i + 1) _ ?_ (fun q hq => hw q (by simp [hq])) (fun q hq => hk q (by simp [hq]))]
    · split
      · exact block_other hs h1 (by omega) (hk p (by simp))
      · rfl
    · split
      · rw [setB_length (by omega)]; exact hs
      · exact hs
theorem backNow_block (safe : List UInt8) (N k : Nat) (hk : k < N) (hsf : safe.length = N * 256) : ∀ (l : List PieceM) (s : List UInt8), s.length = N * 256 → (∀ p ∈ l, p.WF N) →
    blockOf (backNow safe l s) k = if (∃ p ∈ l, p.blk = k) then blockOf safe k else blockOf s k
  | [], s, _, _ => by rw [if_neg (by simp)]; rfl
  | p :: r, s, hs, hw => by
    obtain ⟨h1, h2, h3⟩ := hw p (by simp)
    have h4 : (p.blk + 1) * 256 ≤ N * 256 := Nat.mul_le_mul_right _ h1
    have h5 := blockOf_length hsf h1
    unfold backNow
    rw [backNow_block safe N k hk hsf r _ (by rw [setB_length (by omega)]; exact hs) (fun q hq => hw q (by simp [hq]))]
    by_cases c : ∃ q ∈ r, q.blk = k
    · rw [if_pos c, if_pos (by obtain ⟨q, hq, e⟩ := c; exact ⟨q, by simp [hq], e⟩)]
    · rw [if_neg c]
      by_cases e : p.blk = k
      · rw [if_pos ⟨p, by simp, e⟩, ← e]
        exact block_same hs h1 h5
      · rw [if_neg (by rintro ⟨q, hq, e'⟩; rcases List.mem_cons.1 hq with rfl | hq; exact e e'; exact c ⟨q, hq, e'⟩)]
        have := block_other (o := 0) hs h1 (m := blockOf safe p.blk) (by omega) e
        simpa using this

/-- what is written is what is safe, and what is pending -/
def DiskM.Full (D : DiskM) : Prop := keepSafe (fun _ => true) 0 D.pend D.safe = D.now
theorem keepSafe_append (kept : Nat → Bool) : ∀ (l m : List PieceM) (i : Nat) (s : List UInt8), keepSafe kept i (l ++ m) s = keepSafe kept (i + l.length) m (keepSafe kept i l s)
  | [], m, i, s => rfl
  | p :: r, m, i, s => by
    rw [List.cons_append, keepSafe, keepSafe, keepSafe_append kept r m (i + 1)]
    congr 1
    simp; omega
theorem keepSafe_true : ∀ (l : List PieceM) (i j : Nat) (s : List UInt8), keepSafe (fun _ => true) i l s = keepSafe (fun _ => true) j l s
  | [], _, _, _ => rfl
  | p :: r, i, j, s => by rw [keepSafe, keepSafe]; exact keepSafe_true r (i + 1) (j + 1) _
theorem Full.settle {D : DiskM} (h : D.WF) (hf : D.Full) (kept : Nat → Bool) : (D.settle kept).now = (D.settle kept).safe := by
  have hs := keepSafe_length kept D.n D.pend 0 D.safe h.safe h.pend
  refine ext_blocks (N := D.n) (backNow_length _ _ hs _ _ h.now h.pend) hs (fun k hk => ?_)
  show blockOf (backNow (keepSafe kept 0 D.pend D.safe) D.pend D.now) k = blockOf (keepSafe kept 0 D.pend D.safe) k
  rw [backNow_block _ D.n k hk hs _ _ h.now h.pend]
  split
  · rfl
  · rename_i hc
    have hno : ∀ p ∈ D.pend, p.blk ≠ k := fun p hp e => hc ⟨p, hp, e⟩
    rw [keepSafe_other kept D.n k _ _ _ h.safe h.pend hno, ← hf, keepSafe_other _ D.n k _ _ _ h.safe h.pend hno]
/-- behind a flush all is as it was, and safe -/
theorem Full.flushed {D : DiskM} (h : D.WF) (hf : D.Full) : (D.settle fun _ => true).now = D.now ∧ (D.settle fun _ => true).safe = D.now := by
  have h1 : (D.settle fun _ => true).safe = D.now := hf
  exact ⟨by rw [Full.settle h hf, h1], h1⟩

theorem setB_drop4 {s bs : List UInt8} {o : Nat} (hb : bs.length = 256) (ho : o + 256 ≤ s.length) :
    setB (setB (setB (setB s o (bs.take 64)) (o + 64) ((bs.drop 64).take 64)) (o + 128) ((bs.drop 128).take 64)) (o + 192) ((bs.drop 192).take 64) = setB s o bs := by
  have l0 : (bs.take 64).length = 64 := by simp; omega
  have l1 : ((bs.drop 64).take 64).length = 64 := by simp; omega
  have l2 : ((bs.drop 128).take 64).length = 64 := by simp; omega
  have l3 : ((bs.drop 192).take 64).length = 64 := by simp; omega
  have e0 : (setB s o (bs.take 64)).length = s.length := setB_length (by omega)
  have e1 : (setB (setB s o (bs.take 64)) (o + 64) ((bs.drop 64).take 64)).length = s.length := by rw [setB_length (by omega), e0]
  have e2 : (setB (setB (setB s o (bs.take 64)) (o + 64) ((bs.drop 64).take 64)) (o + 128) ((bs.drop 128).take 64)).length = s.length := by rw [setB_length (by omega), e1]
  apply List.ext_getElem?
  intro i
  rw [setB_get (by omega), setB_get (by omega), setB_get (by omega), setB_get (by omega), setB_get (by omega), l0, l1, l2, l3, hb]
  by_cases c0 : i < o
  · rw [if_neg (by omega), if_neg (by omega), if_neg (by omega), if_neg (by omega), if_neg (by omega)]
  by_cases c1 : i < o + 64
  · rw [if_neg (by omega), if_neg (by omega), if_neg (by omega), if_pos (by omega), if_pos (by omega), List.getElem?_take, if_pos (by omega)]
  by_cases c2 : i < o + 128
  · rw [if_neg (by omega), if_neg (by omega), if_pos (by omega), if_pos (by omega), List.getElem?_take, if_pos (by omega), List.getElem?_drop]; congr 1; omega
  by_cases c3 : i < o + 192
  · rw [if_neg (by omega), if_pos (by omega), if_pos (by omega), List.getElem?_take, if_pos (by omega), List.getElem?_drop]; congr 1; omega
  by_cases c4 : i < o + 256
  · rw [if_pos (by omega), if_pos (by omega), List.getElem?_take, if_pos (by omega), List.getElem?_drop]; congr 1; omega
  · rw [if_neg (by omega), if_neg (by omega), if_neg (by omega), if_neg (by omega), if_neg (by omega)]
theorem pieces4 (n : Nat) (bs : List UInt8) : piecesOf n bs 4 = [⟨n, 0, bs.take 64⟩, ⟨n, 64, (bs.drop 64).take 64⟩, ⟨n, 128, (bs.drop 128).take 64⟩, ⟨n, 192, (bs.drop 192).take 64⟩] := by
  simp [piecesOf, List.range, List.range.loop]
theorem Full.lay {D : DiskM} (h : D.WF) (hf : D.Full) {n : Nat} {bs : List UInt8} (hn : n < D.n) (hb : bs.length = 256) : (D.lay n bs).Full := by
  have h1 : (n + 1) * 256 ≤ D.n * 256 := Nat.mul_le_mul_right _ hn
  show keepSafe (fun _ => true) 0 (D.pend ++ piecesOf n bs 4) D.safe = setB D.now (n * 256) bs
  rw [keepSafe_append, show keepSafe (fun _ => true) 0 D.pend D.safe = D.now from hf, pieces4]
  simp only [keepSafe, if_true]
  exact setB_drop4 hb (by rw [h.now]; omega)
theorem crash_even {D : DiskM} (h : D.WF) (hf : D.Full) (keep : List Bool) : (D.crash keep).now = (D.crash keep).safe ∧ (D.crash keep).Full := by
  have h1 : (D.crash keep).now = (D.crash keep).safe := Full.settle h hf _
  exact ⟨h1, h1.symm⟩
/-- what is kept of a block's four pieces: its first sector is the old one or the new one; what else was written is as it was -/
theorem crash_head {D : DiskM} (h : D.WF) {n : Nat} {bs : List UInt8} (hn : n < D.n) (hb : bs.length = 256) (hp : D.pend = piecesOf n bs 4) (keep : List Bool) :
    ((blockOf (D.crash keep).safe n).take 64 = (blockOf D.safe n).take 64 ∨ (blockOf (D.crash keep).safe n).take 64 = bs.take 64) ∧ ∀ k, k ≠ n → blockOf (D.crash keep).safe k = blockOf D.safe k := by
  have h1 : (n + 1) * 256 ≤ D.n * 256 := Nat.mul_le_mul_right _ hn
  have hw := h.pend
  refine ⟨?_, fun k hk => ?_⟩
  · show (blockOf (keepSafe _ 0 D.pend D.safe) n).take 64 = _ ∨ (blockOf (keepSafe _ 0 D.pend D.safe) n).take 64 = _
    rw [hp, pieces4]
    simp only [keepSafe]
    have hs := h.safe
    have l0 : (bs.take 64).length = 64 := by simp; omega
    have l1 : ((bs.drop 64).take 64).length = 64 := by simp; omega
    have l2 : ((bs.drop 128).take 64).length = 64 := by simp; omega
    have l3 : ((bs.drop 192).take 64).length = 64 := by simp; omega
    have low : ∀ (c : Bool) (s m : List UInt8) (o : Nat), 64 ≤ o → o + m.length ≤ 256 → s.length = D.n * 256 →
        (blockOf (if c then setB s (n * 256 + o) m else s) n).take 64 = (blockOf s n).take 64 ∧ (if c then setB s (n * 256 + o) m else s).length = D.n * 256 := by
      intro c s m o ho hm hsl
      cases c with
      | false => exact ⟨rfl, hsl⟩
      | true =>
        refine ⟨?_, by rw [if_pos rfl, setB_length (by omega)]; exact hsl⟩
        rw [if_pos rfl]
        apply List.ext_getElem?
        intro i
        rw [List.getElem?_take, List.getElem?_take]
        split
        · rw [blockOf_get, blockOf_get, if_pos (by omega), if_pos (by omega), setB_get (by omega), if_neg (by omega)]
        · rfl
    have z : ∀ c : Bool, (if c then setB D.safe (n * 256 + 0) (bs.take 64) else D.safe).length = D.n * 256 := by
      intro c
      cases c with
      | false => exact hs
      | true => rw [if_pos rfl, setB_length (by omega)]; exact hs
    obtain ⟨a1, b1⟩ := low (keep.getD 1 false) _ ((bs.drop 64).take 64) 64 (by omega) (by omega) (z (keep.getD 0 false))
    obtain ⟨a2, b2⟩ := low (keep.getD 2 false) _ ((bs.drop 128).take 64) 128 (by omega) (by omega) b1
    obtain ⟨a3, b3⟩ := low (keep.getD 3 false) _ ((bs.drop 192).take 64) 192 (by omega) (by omega) b2
    have e : (blockOf (if keep.getD 0 false then setB D.safe (n * 256 + 0) (bs.take 64) else D.safe) n).take 64 = (blockOf D.safe n).take 64 ∨ (blockOf (if keep.getD 0 false then setB D.safe (n * 256 + 0) (bs.take 64) else D.safe) n).take 64 = bs.take 64 := by
      cases keep.getD 0 false with
      | false => exact .inl rfl
      | true =>
        refine .inr ?_
        rw [if_pos rfl]
        apply List.ext_getElem?
        intro i
        rw [List.getElem?_take, List.getElem?_take]
        split
        · rw [blockOf_get, if_pos (by omega), setB_get (by omega), if_pos (by omega), List.getElem?_take, if_pos (by omega)]; congr 1; omega
        · rfl
    have e3 := a3.trans (a2.trans a1)
    rcases e with e | e
    · exact .inl (e3.trans e)
    · exact .inr (e3.trans e)
  · show blockOf (keepSafe _ 0 D.pend D.safe) k = _
    refine keepSafe_other _ D.n k _ _ _ h.safe h.pend (fun p hp2 => ?_)
    rw [hp, pieces4] at hp2
    simp only [List.mem_cons, List.not_mem_nil, or_false] at hp2
    rcases hp2 with rfl | rfl | rfl | rfl <;> exact fun e => hk e.symm
end Go.Proofs.Ytlecgoebbjnnmaa

