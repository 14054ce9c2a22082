/- Heads of states, as they are read behind a crash: plain. -/
import Derived.Test.YtlecgoebbjnnmaaKeepsM
set_option linter.unusedVariables false
set_option linter.unusedSimpArgs false
set_option linter.unusedSectionVars false
set_option linter.constructorNameAsVariable false
set_option maxRecDepth 100000
set_option maxHeartbeats 4000000
namespace Go.Proofs.Ytlecgoebbjnnmaa
open Go
variable [Ref]

theorem told_congr {b c : List UInt8} (h : b.take 64 = c.take 64) : tG b = tG c ∧ tR b = tR c ∧ tE b = tE c ∧ ∀ n pages, toldOk b n pages = toldOk c n pages := by
  have h8 : ∀ l : List UInt8, l.take 8 = (l.take 64).take 8 := fun l => by rw [List.take_take]; rfl
  have h16 : ∀ l : List UInt8, (l.drop 8).take 8 = ((l.take 64).drop 8).take 8 := fun l => by rw [List.drop_take, List.take_take]; rfl
  have h24 : ∀ l : List UInt8, (l.drop 16).take 8 = ((l.take 64).drop 16).take 8 := fun l => by rw [List.drop_take, List.take_take]; rfl
  have e1 : tG b = tG c := by unfold tG; rw [h8 b, h8 c, h]
  have e2 : tR b = tR c := by unfold tR; rw [h16 b, h16 c, h]
  have e3 : tE b = tE c := by unfold tE; rw [h24 b, h24 c, h]
  exact ⟨e1, e2, e3, fun n pages => by unfold toldOk; rw [e1, e2, e3, h]⟩

theorem head_reads {g r e : Nat} (hg : g < 18446744073709551616) (hr : r < 18446744073709551616) (he : e < 18446744073709551616) : tG (headB g r e) = g ∧ tR (headB g r e) = r ∧ tE (headB g r e) = e := by
  have l8 : ∀ n, (beB 8 n).length = 8 := beB_length 8
  have l4 : ∀ n, (beB 4 n).length = 4 := beB_length 4
  have z : (List.replicate 256 (0 : UInt8)).length = 256 := by simp
  have s1 : (setB (List.replicate 256 0) 0 (beB 8 g)).length = 256 := by rw [setB_length (by rw [z, l8]; omega), z]
  have s2 : (setB (setB (List.replicate 256 0) 0 (beB 8 g)) 8 (beB 8 r)).length = 256 := by rw [setB_length (by rw [s1, l8]; omega), s1]
  have s3 : (headB0 g r e).length = 256 := headB0_length
  have get : ∀ (i : Nat), i < 24 → (headB g r e)[i]? = if i < 8 then (beB 8 g)[i]? else if i < 16 then (beB 8 r)[i - 8]? else (beB 8 e)[i - 16]? := by
    intro i hi
    unfold headB
    rw [setB_get (by rw [s3, l4]; omega), if_neg (by omega)]
    unfold headB0
    rw [setB_get (by rw [s2, l8]; omega), l8, setB_get (by rw [s1, l8]; omega), l8, setB_get (by rw [z, l8]; omega), l8]
    by_cases c1 : i < 8
    · rw [if_neg (by omega), if_neg (by omega), if_pos (by omega), if_pos c1]; rfl
    · by_cases c2 : i < 16
      · rw [if_neg (by omega), if_pos (by omega), if_neg c1, if_pos c2]
      · rw [if_pos (by omega), if_neg c1, if_neg c2]
  have p8 : (256 : Nat) ^ 8 = 18446744073709551616 := by decide
  refine ⟨?_, ?_, ?_⟩
  · have : (headB g r e).take 8 = beB 8 g := by
      apply List.ext_getElem?
      intro i
      rw [List.getElem?_take]
      split
      · rw [get i (by omega), if_pos (by omega)]
      · rw [List.getElem?_eq_none (by rw [l8]; omega)]
    unfold tG
    rw [this, beN_beB 8 g (by rw [p8]; exact hg)]
  · have : ((headB g r e).drop 8).take 8 = beB 8 r := by
      apply List.ext_getElem?
      intro i
      rw [List.getElem?_take]
      split
      · rw [List.getElem?_drop, get (8 + i) (by omega), if_neg (by omega), if_pos (by omega)]; congr 1; omega
      · rw [List.getElem?_eq_none (by rw [l8]; omega)]
    unfold tR
    rw [this, beN_beB 8 r (by rw [p8]; exact hr)]
  · have : ((headB g r e).drop 16).take 8 = beB 8 e := by
      apply List.ext_getElem?
      intro i
      rw [List.getElem?_take]
      split
      · rw [List.getElem?_drop, get (16 + i) (by omega), if_neg (by omega), if_neg (by omega)]; congr 1; omega
      · rw [List.getElem?_eq_none (by rw [l8]; omega)]
    unfold tE
    rw [this, beN_beB 8 e (by rw [p8]; exact he)]

/-- the state that a list of bytes tells: two heads, in blocks 1 and 2 -/
def stepH (b : List UInt8) (s : Nat × Int × Nat) (n : Nat) : Nat × Int × Nat := if toldOk b n 12 = true ∧ s.1 < tG b then (tG b, (tR b : Int) - 1, tE b) else s
def headsOf (x : List UInt8) : Nat × Int × Nat := stepH (blockOf x 2) (stepH (blockOf x 1) (0, -1, 1) 0) 1
theorem openM_heads (D : DiskM) : openM D 1 14 = { gen := (headsOf D.now).1, root := (headsOf D.now).2.1, epoch := (headsOf D.now).2.2, first := 1, pages := 12, used := List.replicate 12 false, fresh := [], dropped := [], broken := false } := rfl
theorem stepH_congr {b c : List UInt8} (h : b.take 64 = c.take 64) (s : Nat × Int × Nat) (n : Nat) : stepH b s n = stepH c s n := by
  obtain ⟨e1, e2, e3, e4⟩ := told_congr h
  unfold stepH
  rw [e1, e2, e3, e4]
theorem headsOf_congr {x y : List UInt8} (h1 : (blockOf x 1).take 64 = (blockOf y 1).take 64) (h2 : (blockOf x 2).take 64 = (blockOf y 2).take 64) : headsOf x = headsOf y := by
  unfold headsOf
  rw [stepH_congr h1, stepH_congr h2]
theorem stepH_ge (b : List UInt8) (s : Nat × Int × Nat) (n : Nat) : s.1 ≤ (stepH b s n).1 ∧ (toldOk b n 12 = true → tG b ≤ (stepH b s n).1) := by
  unfold stepH
  split
  · rename_i h; exact ⟨by show s.1 ≤ tG b; omega, fun _ => Nat.le_refl _⟩
  · rename_i h
    refine ⟨Nat.le_refl _, fun hk => ?_⟩
    rcases Nat.lt_or_ge s.1 (tG b) with h1 | h1
    · exact absurd ⟨hk, h1⟩ h
    · exact h1
/-- a head of the next number in its place: its state is told -/
theorem headsOf_next {x y : List UInt8} {g r e : Nat} (hg : (headsOf x).1 = g) (hg2 : g + 1 < 18446744073709551616) (hr : r ≤ 12) (he : e < 18446744073709551616)
    (h1 : (blockOf y (1 + (g + 1) % 2)).take 64 = (headB (g + 1) r e).take 64) (h2 : (blockOf y (1 + g % 2)).take 64 = (blockOf x (1 + g % 2)).take 64) : headsOf y = (g + 1, (r : Int) - 1, e) := by
  obtain ⟨c1, c2, c3, c4⟩ := told_congr h1
  obtain ⟨t1, t2, t3⟩ := head_reads (g := g + 1) (r := r) (e := e) hg2 (by omega) he
  rw [t1] at c1; rw [t2] at c2; rw [t3] at c3
  have hok : toldOk (blockOf y (1 + (g + 1) % 2)) ((g + 1) % 2) 12 = true := by
    rw [c4]
    refine decide_eq_true ⟨by rw [t2]; exact hr, by rw [t1]; omega, by rw [t1], by rw [t1, t2, t3]⟩
  have hx := stepH_ge (blockOf x 1) (0, -1, 1) 0
  have hx2 := stepH_ge (blockOf x 2) (stepH (blockOf x 1) (0, -1, 1) 0) 1
  have hgx : (stepH (blockOf x 2) (stepH (blockOf x 1) (0, -1, 1) 0) 1).1 = g := hg
  rcases Nat.mod_two_eq_zero_or_one g with hp | hp
  · have hp1 : (g + 1) % 2 = 1 := by omega
    rw [hp1] at c1 c2 c3 hok
    rw [hp] at h2
    simp only [show 1 + 1 = 2 from rfl, show 1 + 0 = 1 from rfl] at c1 c2 c3 hok h2
    unfold headsOf
    rw [stepH_congr h2]
    unfold stepH
    rw [if_pos ⟨hok, by rw [c1]; have := hx2.1; show (stepH (blockOf x 1) (0, -1, 1) 0).1 < g + 1; omega⟩, c1, c2, c3]
  · have hp1 : (g + 1) % 2 = 0 := by omega
    rw [hp1] at c1 c2 c3 hok
    rw [hp] at h2
    simp only [show 1 + 1 = 2 from rfl, show 1 + 0 = 1 from rfl] at c1 c2 c3 hok h2
    have e1 : stepH (blockOf y 1) (0, -1, 1) 0 = (g + 1, (r : Int) - 1, e) := by
      unfold stepH
      rw [if_pos ⟨hok, by rw [c1]; show 0 < g + 1; omega⟩, c1, c2, c3]
    unfold headsOf
    rw [e1, stepH_congr h2]
    unfold stepH
    rw [if_neg]
    rintro ⟨a1, a2⟩
    have := hx2.2 a1
    simp only at a2
    omega
theorem headsOf_bound (x : List UInt8) : (headsOf x).1 < 18446744073709551616 := by
  have hlt : ∀ b : List UInt8, tG b < 18446744073709551616 := fun b => by
    have h1 := beN_lt (b.take 8)
    have h2 : 256 ^ (b.take 8).length ≤ 256 ^ 8 := Nat.pow_le_pow_right (by decide) (by simp; omega)
    unfold tG; omega
  have st : ∀ b s n, s.1 < 18446744073709551616 → (stepH b s n).1 < 18446744073709551616 := fun b s n h => by
    unfold stepH; split
    · exact hlt b
    · exact h
  exact st _ _ _ (st _ _ _ (by decide))
end Go.Proofs.Ytlecgoebbjnnmaa

