/- Regions that draw their order: a head that only looks, then a tail in its order; or any order, branch by branch. -/
import Derived.Test.YtlecgoebbjnnmaaOps3
set_option linter.unusedVariables false
set_option linter.unusedSectionVars false
set_option linter.unusedSimpArgs false
namespace Go.Proofs.Ytlecgoebbjnnmaa
open Go
attribute [local semireducible] S L Pure Does Fin RV

section head
variable {P : Program} {ops : Array Oper} {C : World → Prop} {Qa : Act → Prop} {Q : Exit → Act → World → Prop}

/-- more rounds than are needed do no harm -/
theorem wpAny_more {md : Region.Mode} : ∀ (f : Nat) (listed : Array Bool) (a : Act) (w : World), wpAny P md ops Q f listed a w → wpAny P md ops Q (f + 1) listed a w
  | 0, listed, a, w, h => wpAny_done h.1 h.2 1
  | f + 1, listed, a, w, h => ⟨h.1, fun i hi => wpOp_mono (fun a' w' h' => wpAny_more f _ a' w' h') (h.2 i hi)⟩
theorem wpAny_more' {md : Region.Mode} (g : Nat) : ∀ (f : Nat) (listed : Array Bool) (a : Act) (w : World), wpAny P md ops Q g listed a w → wpAny P md ops Q (g + f) listed a w
  | 0, _, _, _, h => h
  | f + 1, listed, a, w, h => wpAny_more _ _ _ _ (wpAny_more' g f listed a w h)

/-- the checks: the head's edges point back, its guards lie in it; each of the tail waits for all ahead -/
def backB (l : List Oper) (m : Nat) : Bool :=
  (List.range m).all fun i => match l[i]? with
    | some o => o.after.toList.all (fun e => !Region.binds .any e || Nat.blt e.on i) && (match o.guard with | some (j, _) => Nat.blt j m | none => true)
    | none => false
def waitsB (l : List Oper) (t i : Nat) : Bool := match l[t]? with
  | some o => o.after.toList.any fun e => Region.binds .any e && Nat.beq e.on i
  | none => false
def sinkB' (l : List Oper) (m : Nat) : Bool :=
  ((List.range m).all fun i => (List.range (m + 1)).any fun j => Nat.blt i j && waitsB l j i) || Nat.ble l.length m
def chainB' (l : List Oper) (m : Nat) : Bool := (List.range l.length).all fun t => Nat.ble t m || waitsB l t (t - 1)
def firstB (n m : Nat) : Array Bool := (List.replicate m true ++ List.replicate (n - m) false).toArray
def qtB (l : List Oper) (m : Nat) : Bool :=
  Nat.ble m l.length && backB l m && sinkB' l m && chainB' l m && Region.lexB .any (l.take m).toArray && Region.seqB .any l.toArray (l.length - m) m (firstB l.length m)

theorem blt_iff {a b : Nat} : Nat.blt a b = true ↔ a < b := by simp [Nat.blt_eq]

structure Rel (l : List Oper) (m : Nat) (listed listed' : Array Bool) : Prop where
  s : listed.size = l.length
  s' : listed'.size = m
  same : ∀ i, i < m → listed.getD i true = listed'.getD i true
  tail : ∀ i, m ≤ i → i < l.length → listed.getD i true = false

theorem getD_tf {A : Array Bool} {i : Nat} (h : i < A.size) : A.getD i true = A.getD i false := by
  simp [Array.getD, h]

theorem waits_spec {l : List Oper} {t i : Nat} (h : waitsB l t i = true) : ∃ o, l[t]? = some o ∧ ∃ e ∈ o.after, Region.binds .any e = true ∧ e.on = i := by
  unfold waitsB at h
  cases ht : l[t]? with
  | none => rw [ht] at h; cases h
  | some o =>
    rw [ht] at h
    obtain ⟨e, he, hb⟩ := List.any_eq_true.1 h
    simp only [Bool.and_eq_true] at hb
    exact ⟨o, rfl, e, by simpa using he, hb.1, Nat.eq_of_beq_eq_true hb.2⟩

theorem not_ready_tail {l : List Oper} {m : Nat} {listed listed' : Array Bool} (hs : sinkB' l m = true) (hc : chainB' l m = true) (hml : m ≤ l.length) (hr : Rel l m listed listed')
    (hclosed : ∀ j o, l[j]? = some o → listed.getD j false = true → ∀ e ∈ o.after, Region.binds .any e = true → listed.getD e.on false = true)
    {i : Nat} (hi : i < m) (hun : listed.getD i true = false) (t : Nat) (ht : m ≤ t) : t ∉ Region.ready .any l.toArray listed := by
  intro hrd
  obtain ⟨htu, o, ho, hall⟩ := mem_ready.1 hrd
  have ho' : l[t]? = some o := by simpa using ho
  have htl : t < l.length := (List.getElem?_eq_some_iff.1 ho').1
  rcases Nat.lt_or_eq_of_le ht with hgt | heq
  · have h1 := List.all_eq_true.1 hc t (List.mem_range.2 htl)
    have h2 : waitsB l t (t - 1) = true := by
      simp only [Bool.or_eq_true] at h1
      rcases h1 with h1 | h1
      · have := Nat.le_of_ble_eq_true h1; omega
      · exact h1
    obtain ⟨o2, ho2, e, he, hb, hon⟩ := waits_spec h2
    have : o2 = o := Option.some.inj (ho2.symm.trans ho')
    subst this
    have h3 := hall e he hb
    rw [hon] at h3
    have h4 := hr.tail (t - 1) (by omega) (by omega)
    rw [getD_tf (by rw [hr.s]; omega), h3] at h4
    cases h4
  · subst heq
    -- some unlisted head is waited for, up to m
    have key : ∀ d i, m - i = d → i < m → listed.getD i true = false → False := by
      intro d
      induction d using Nat.strongRecOn with
      | _ d ih =>
        intro i hd hi hun
        have h1 : ((List.range m).all fun i => (List.range (m + 1)).any fun j => Nat.blt i j && waitsB l j i) = true := by
          unfold sinkB' at hs
          simp only [Bool.or_eq_true] at hs
          rcases hs with hs | hs
          · exact hs
          · have := Nat.le_of_ble_eq_true hs; omega
        have h2 := List.all_eq_true.1 h1 i (List.mem_range.2 hi)
        obtain ⟨j, hj, hb⟩ := List.any_eq_true.1 h2
        simp only [Bool.and_eq_true] at hb
        have hij : i < j := blt_iff.1 hb.1
        have hjm : j ≤ m := by have := List.mem_range.1 hj; omega
        obtain ⟨o2, ho2, e, he, hbd, hon⟩ := waits_spec hb.2
        have hif : listed.getD i false = false := by rw [← getD_tf (by rw [hr.s]; omega)]; exact hun
        by_cases hjm' : j = m
        · subst hjm'
          have : o2 = o := Option.some.inj (ho2.symm.trans ho')
          subst this
          have h3 := hall e he hbd
          rw [hon, hif] at h3
          cases h3
        · cases hl : listed.getD j false with
          | true =>
            have h3 := hclosed j o2 ho2 hl e he hbd
            rw [hon, hif] at h3
            cases h3
          | false => exact ih (m - j) (by omega) j rfl (by omega) (by rw [getD_tf (by rw [hr.s]; omega)]; exact hl)
    exact key _ i rfl hi hun

theorem back_spec {l : List Oper} {m : Nat} (h : backB l m = true) {i : Nat} {o : Oper} (hi : i < m) (ho : l[i]? = some o) :
    (∀ e ∈ o.after, Region.binds .any e = true → e.on < i) ∧ (∀ j b, o.guard = some (j, b) → j < m) := by
  have h1 := List.all_eq_true.1 h i (List.mem_range.2 hi)
  rw [ho] at h1
  simp only [Bool.and_eq_true] at h1
  refine ⟨fun e he hb => ?_, fun j b hg => ?_⟩
  · have h2 := List.all_eq_true.1 h1.1 e (by simpa using he)
    simp only [hb, Bool.not_true, Bool.false_or] at h2
    exact blt_iff.1 h2
  · have h2 := h1.2
    rw [hg] at h2
    exact blt_iff.1 h2

theorem take_get {l : List Oper} {m i : Nat} (hi : i < m) : (l.take m).toArray[i]? = l.toArray[i]? := by
  simp [List.getElem?_take, hi]

theorem ready_head {l : List Oper} {m : Nat} {listed listed' : Array Bool} (hb : backB l m = true) (hml : m ≤ l.length) (hr : Rel l m listed listed') {i : Nat} (hi : i < m) :
    i ∈ Region.ready .any l.toArray listed ↔ i ∈ Region.ready .any (l.take m).toArray listed' := by
  have key : ∀ o, l[i]? = some o → ((∀ e ∈ o.after, Region.binds .any e = true → listed.getD e.on false = true) ↔ (∀ e ∈ o.after, Region.binds .any e = true → listed'.getD e.on false = true)) := by
    intro o ho
    have hbk := (back_spec hb hi ho).1
    have hsame : ∀ e ∈ o.after, Region.binds .any e = true → listed.getD e.on false = listed'.getD e.on false := by
      intro e he hbd
      have := hbk e he hbd
      rw [← getD_tf (by rw [hr.s]; omega), ← getD_tf (by rw [hr.s']; omega)]
      exact hr.same e.on (by omega)
    exact ⟨fun h e he hbd => by rw [← hsame e he hbd]; exact h e he hbd, fun h e he hbd => by rw [hsame e he hbd]; exact h e he hbd⟩
  constructor
  · intro h
    obtain ⟨h1, o, ho, h2⟩ := mem_ready.1 h
    have ho' : l[i]? = some o := by simpa using ho
    exact mem_ready.2 ⟨by rw [← hr.same i hi]; exact h1, o, by rw [take_get hi]; exact ho, (key o ho').1 h2⟩
  · intro h
    obtain ⟨h1, o, ho, h2⟩ := mem_ready.1 h
    rw [take_get hi] at ho
    have ho' : l[i]? = some o := by simpa using ho
    exact mem_ready.2 ⟨by rw [hr.same i hi]; exact h1, o, ho, (key o ho').2 h2⟩

theorem qOp_take {l : List Oper} {m i : Nat} {K' : Act → Prop} {a : Act} (hb : backB l m = true) (hi : i < m) (h : qOp P (l.take m).toArray C i K' a) : qOp P l.toArray C i K' a := by
  unfold qOp at *
  rw [take_get hi] at h
  cases ho : l.toArray[i]? with
  | none => simp only [ho] at h ⊢; exact h
  | some o =>
    simp only [ho] at h ⊢
    have hg := (back_spec hb hi (by simpa using ho : l[i]? = some o)).2
    have hw : Region.wanted o (yielded l.toArray a.tmps) = Region.wanted o (yielded (l.take m).toArray a.tmps) := by
      unfold Region.wanted
      cases hgd : o.guard with
      | none => rfl
      | some jb =>
        obtain ⟨j, b⟩ := jb
        have hj := hg j b hgd
        simp only [yielded, take_get hj]
    rw [hw]; exact h

theorem wpAny_of_qt {l : List Oper} {m g : Nat} (hml : m ≤ l.length) (hb : backB l m = true) (hs : sinkB' l m = true) (hc : chainB' l m = true)
    (hL : ∀ (a : Act) (w : World), C w → Qa a → wpAny P .any l.toArray Q g (firstB l.length m) a w) :
    ∀ (f : Nat) (listed listed' : Array Bool) (a : Act) (w : World), Rel l m listed listed' →
      (∀ j o, l[j]? = some o → listed.getD j false = true → ∀ e ∈ o.after, Region.binds .any e = true → listed.getD e.on false = true) →
      C w → wpAnyQ P .any (l.take m).toArray C Qa f listed' a → wpAny P .any l.toArray Q (g + f) listed a w := by
  have allListed : ∀ (listed listed' : Array Bool), Rel l m listed listed' → (∀ i, i < m → listed.getD i true = true) → listed = firstB l.length m := by
    intro listed listed' hr hall
    apply Array.ext
    · simp [firstB, hr.s]; omega
    · intro i h1 h2
      have h1' : i < l.length := by rw [← hr.s]; exact h1
      have e1 : listed[i] = listed.getD i true := by simp [Array.getD, h1]
      rw [e1]
      by_cases hi : i < m
      · rw [hall i hi]; simp [firstB, List.getElem_append, hi]
      · rw [hr.tail i (by omega) h1']; simp [firstB, List.getElem_append, hi]
  have someUn : ∀ (listed listed' : Array Bool), Rel l m listed listed' → Region.ready .any (l.take m).toArray listed' = [] → ∀ i, i < m → listed.getD i true = true := by
    intro listed listed' hr hrd i
    induction i using Nat.strongRecOn with
    | _ i ih =>
      intro hi
      cases hx : listed.getD i true with
      | true => rfl
      | false =>
        exfalso
        have hil : i < l.length := by omega
        have : i ∈ Region.ready .any (l.take m).toArray listed' := by
          refine (ready_head hb hml hr hi).1 (mem_ready.2 ⟨hx, l[i], by simp [hil], fun e he hbd => ?_⟩)
          have hlt := (back_spec hb hi (by simp [hil] : l[i]? = some l[i])).1 e he hbd
          rw [← getD_tf (by rw [hr.s]; omega)]
          exact ih e.on hlt (by omega)
        rw [hrd] at this
        cases this
  intro f
  induction f with
  | zero =>
    intro listed listed' a w hr _ hC h
    rw [allListed listed listed' hr (someUn listed listed' hr h.1)]
    exact hL a w hC h.2
  | succ f ih =>
    intro listed listed' a w hr hcl hC h
    by_cases hrd : Region.ready .any (l.take m).toArray listed' = []
    · rw [allListed listed listed' hr (someUn listed listed' hr hrd)]
      exact wpAny_more' g (f + 1) _ _ _ (hL a w hC (h.1 hrd))
    · -- some head is not listed yet
      have hex : ∃ i, i < m ∧ listed.getD i true = false := by
        cases hq : Region.ready .any (l.take m).toArray listed' with
        | nil => exact absurd hq hrd
        | cons i r =>
          have hi : i ∈ Region.ready .any (l.take m).toArray listed' := by rw [hq]; simp
          obtain ⟨h1, o, ho, _⟩ := mem_ready.1 hi
          have him : i < m := by
            have := (Array.getElem?_eq_some_iff.1 ho).1
            simp at this; omega
          exact ⟨i, him, by rw [hr.same i him]; exact h1⟩
      obtain ⟨i0, hi0, hu0⟩ := hex
      have hnt := not_ready_tail hs hc hml hr hcl hi0 hu0
      refine ⟨fun h0 => ?_, fun i hi => ?_⟩
      · exfalso
        cases hq : Region.ready .any (l.take m).toArray listed' with
        | nil => exact hrd hq
        | cons i r =>
          have hi : i ∈ Region.ready .any (l.take m).toArray listed' := by rw [hq]; simp
          have him : i < m := by
            obtain ⟨_, o, ho, _⟩ := mem_ready.1 hi
            have := (Array.getElem?_eq_some_iff.1 ho).1
            simp at this; omega
          have := (ready_head hb hml hr him).2 hi
          rw [h0] at this; cases this
      · have him : i < m := by
          rcases Nat.lt_or_ge i m with h' | h'
          · exact h'
          · exact absurd hi (hnt i h')
        have hi' := (ready_head hb hml hr him).1 hi
        have hq := qOp_take hb him (h.2 i hi')
        refine wpOp_of_qOp hC (fun a' w' hC' h' => ih _ (listed'.setIfInBounds i true) a' w' ?_ ?_ hC' h') hq
        · refine ⟨by simp [hr.s], by simp [hr.s'], fun j hj => ?_, fun j hj hjl => ?_⟩
          · by_cases e : i = j
            · subst e
              have h1 : i < listed.size := by rw [hr.s]; omega
              have h2 : i < listed'.size := by rw [hr.s']; omega
              simp [Array.getD, h1, h2]
            · rw [getD_set_ne true e, getD_set_ne true e]; exact hr.same j hj
          · rw [getD_set_ne true (by omega)]; exact hr.tail j hj hjl
        · intro j o ho hl e he hbd
          by_cases e' : i = j
          · subst e'
            obtain ⟨_, o2, ho2, hall⟩ := mem_ready.1 hi
            have : o2 = o := by
              have ho2' : l[i]? = some o2 := by simpa using ho2
              exact Option.some.inj (ho2'.symm.trans ho)
            subst this
            exact getD_set_true (hall e he hbd)
          · rw [getD_set_ne false e'] at hl
            exact getD_set_true (hcl j o ho hl e he hbd)
end head

section
variable [Ref] {P : Program} {Q : Exit → Act → World → Prop} {n : Nat} {k : List K} {env : Env} {H : List Atom} {ops : Array Oper} {l : List Oper}
variable {op : Op} {ty t t' : TypeId} {pos : String} {after : Array Edge} {x y : Operand} {v : Value} {Qa : Act → Prop} {m : Nat}

/-- within a head: 'm' of 'l' are to be gone through yet -/
def Ql [Ref] (P : Program) (n : Nat) (H : List Atom) (ops : Array Oper) (Qa : Act → Prop) (m : Nat) (l : List Oper) (env : Env) : Prop :=
  ∀ a, Fits n env a → wpQuiet P ops (fun w => Sat w H) Qa (l.take m) a

theorem S.qt {id : Nat} (m : Nat) (hm : P.follows .mixedOrders = true) (hB : qtB l m = true)
    (h : Ql P n H (l.take m).toArray (fun a => ∀ w, Sat w H → wpList P l.toArray (Kq P Q k) (l.drop m) a w) m l env) : S P Q n (.code (.region id l.toArray true) :: k) env H := fun a w ha hs => by
  simp only [qtB, Bool.and_eq_true] at hB
  obtain ⟨⟨⟨⟨⟨h1, h2⟩, h3⟩, h4⟩, h5⟩, h6⟩ := hB
  have hml : m ≤ l.length := Nat.le_of_ble_eq_true h1
  have hlen : (l.take m).length = m := by simp; omega
  refine wp_region_any hm ?_
  simp only [Region.lexB, Bool.and_eq_true] at h5
  have hq := wpAnyQ_lex (P := P) (C := fun w => Sat w H) (md := .any) h5.1 (l.take m) 0 (Array.replicate m false) a (fun j => by simp) (by simpa [hlen] using h5.2) (h a ha)
  rw [hlen] at hq
  have := wpAny_of_qt (P := P) (Q := Kq P Q k) (g := l.length - m) hml h2 h3 h4 (fun a' w' hC hQa => by
    have hsq := wpAny_of_seq (P := P) (md := .any) (Q' := Kq P Q k) (ops := l.toArray) (l.drop m) m (firstB l.length m) a' w' (fun j => by simp [List.getElem?_drop]) (by simpa using h6) (hQa w' hC)
    simpa using hsq) m (Array.replicate l.length false) (Array.replicate m false) a { w with drawn := w.drawn + 1 } ?_ ?_ (show Sat _ H from hs.heap (w' := { w with drawn := w.drawn + 1 }) rfl) hq
  · have e : l.length - m + m = l.toArray.size := by simp; omega
    rw [e] at this
    simpa using this
  · refine ⟨by simp, by simp, fun i hi => ?_, fun i hi hil => ?_⟩
    · have : i < l.length := by omega
      simp [Array.getD, hi, this]
    · simp [Array.getD, hil]
  · intro j o ho hl
    rw [getD_replicate_false] at hl
    cases hl

theorem Ql.nil {ops' : Array Oper} {l' : List Oper} (h : L P Q n k ops l env H) : Ql P n H ops' (fun a => ∀ w, Sat w H → wpList P ops (Kq P Q k) l a w) 0 l' env := fun a ha => wpQuiet_nil (fun w hs => h a w ha hs)

theorem wpQuiet_value {o : Oper} {rest : List Oper} {a : Act} {C : World → Prop} (hg : o.guard = none) (hv : ∀ w, C w → (execOp a.eval o).run P w = .ok (.value v) w) (h : wpQuiet P ops C Qa rest (a.put o.dst v)) : wpQuiet P ops C Qa (o :: rest) a := by
  unfold wpQuiet
  rw [if_pos (by simp [Region.wanted, hg])]
  refine ⟨v, fun w hw => ?_, h⟩
  unfold Oper.quietAt
  rw [hv w hw]
  exact ⟨rfl, rfl⟩

theorem Ql.p {d : Nat} (h : Pure P op ty env H v) (hd : Nat.blt d n = true) (next : Ql P n H ops Qa m l ((d, v) :: env)) : Ql P n H ops Qa (m + 1) (⟨some d, op, ty, pos, after, none⟩ :: l) env := fun a ha =>
  wpQuiet_value rfl (fun w hs => h w hs.toSatH _ ha.agrees _ _ _ _) (next _ (ha.put (d := some d) hd v))

theorem Ql.gYes {j t : Nat} {b : Bool} {d : Option Nat} (hj : (ops[j]?).bind (·.dst) = some t) (hn : Nat.blt t n = true) (ht : look env t = some (.bool b))
    (next : Ql P n H ops Qa (m + 1) (⟨d, op, ty, pos, after, none⟩ :: l) env) : Ql P n H ops Qa (m + 1) (⟨d, op, ty, pos, after, some (j, b)⟩ :: l) env := fun a ha => by
  have hy := yielded_look hj ht hn ha
  have h := next a ha
  simp only [List.take_succ_cons] at h ⊢
  unfold wpQuiet at h ⊢
  simp only [Region.wanted, hy, beq_self_eq_true, if_true] at h ⊢
  exact h
theorem Ql.gNo {j t : Nat} {b b' : Bool} {d : Nat} (hj : (ops[j]?).bind (·.dst) = some t) (hn : Nat.blt t n = true) (ht : look env t = some (.bool b)) (hb : (b == b') = false) (hd : Nat.blt d n = true)
    (next : Ql P n H ops Qa m l ((d, undef) :: env)) : Ql P n H ops Qa (m + 1) (⟨some d, op, ty, pos, after, some (j, b')⟩ :: l) env := fun a ha => by
  have hy := yielded_look hj ht hn ha
  have h := next _ (ha.put (d := some d) hd undef)
  simp only [List.take_succ_cons]
  unfold wpQuiet
  have hne : (some b == some b') = false := by simpa using hb
  simp only [Region.wanted, hy, hne, Bool.false_eq_true, if_false]
  exact h
theorem Ql.split {p : Prop} [Decidable p] (t : Nat) (ht : look env t = some (.bool (decide p))) (h1 : p → Ql P n H ops Qa m l ((t, .bool true) :: env)) (h2 : ¬ p → Ql P n H ops Qa m l ((t, .bool false) :: env)) :
    Ql P n H ops Qa m l env := fun a ha => by
  have key : ∀ b, decide p = b → Fits n ((t, .bool b) :: env) a := fun b e => ⟨ha.size, ha.defers, fun u v hu => by
    simp only [look] at hu
    cases hb : Nat.beq t u with
    | true =>
      rw [hb] at hu
      have := Nat.eq_of_beq_eq_true hb
      subst this
      simp only [cond_true, Option.some.injEq] at hu
      subst hu
      rw [← e]; exact ha.get t _ ht
    | false => rw [hb] at hu; exact ha.get u v hu⟩
  by_cases hp : p
  · exact h1 hp a (key true (by simp [hp]))
  · exact h2 hp a (key false (by simp [hp]))
theorem Ql.call {g : FuncId} {c : Call} {args : List Value} {d : Nat} (v : Value)
    (hop : op = .call c) (hc : ∀ ρ, Agrees env ρ → ∀ w, (do let d ← resolve ρ c ty; invoke d.target d.args).run P w = .ok (.enter g args.toArray) w)
    (hd : Nat.blt d n = true)
    (h : ∀ w, Sat w H → Calls P g args.toArray w (fun e w' => e = .returned v ∧ Sat w' H))
    (next : Ql P n H ops Qa m l ((d, v) :: env)) :
    Ql P n H ops Qa (m + 1) (⟨some d, op, ty, pos, after, none⟩ :: l) env := fun a ha => by
  subst hop
  simp only [List.take_succ_cons]
  unfold wpQuiet
  rw [if_pos (by simp [Region.wanted])]
  refine ⟨v, fun w hw => ?_, next _ (ha.put (d := some d) hd v)⟩
  unfold Oper.quietAt
  have hr : (execOp a.eval ⟨some d, .call c, ty, pos, after, none⟩).run P w = .ok (.enter g args.toArray) w := hc _ ha.agrees w
  rw [hr]
  exact ⟨rfl, h w hw⟩

/-! ## Any order, branch by branch -/
def B [Ref] (P : Program) (Q : Exit → Act → World → Prop) (n : Nat) (k : List K) (ops : Array Oper) (f : Nat) (listed : Array Bool) (env : Env) (H : List Atom) : Prop :=
  ∀ a w, Fits n env a → Sat w H → wpAny P .any ops (Kq P Q k) f listed a w
variable {f : Nat} {listed listed' : Array Bool}

theorem S.any {id : Nat} (hm : P.follows .mixedOrders = true) (h : B P Q n k l.toArray l.length (List.replicate l.length false).toArray env H) : S P Q n (.code (.region id l.toArray true) :: k) env H := fun a w ha hs => by
  refine wp_region_any hm ?_
  have := h a { w with drawn := w.drawn + 1 } ha (hs.heap rfl)
  simpa using this

theorem B.done (hr : Region.ready .any ops listed = []) (h : S P Q n k env H) : B P Q n k ops f listed env H := fun a w ha hs => wpAny_done hr (h a w ha hs) f

theorem Kq_panic : ∀ (k : List K) (ch : List PanicEntry) (a : Act) (w : World), Kq P Q k (.panic ch) a w ↔ Q (.panic ch) a w
  | [], ch, a, w => Iff.rfl
  | .code _ :: k, ch, a, w => Kq_panic k ch a w
  | .blk _ :: k, ch, a, w => Kq_panic k ch a w
  | .loop _ :: k, ch, a, w => Kq_panic k ch a w
theorem Kq_outgrown : ∀ (k : List K) (a : Act) (w : World), Kq P Q k .outgrown a w ↔ Q .outgrown a w
  | [], a, w => Iff.rfl
  | .code _ :: k, a, w => Kq_outgrown k a w
  | .blk _ :: k, a, w => Kq_outgrown k a w
  | .loop _ :: k, a, w => Kq_outgrown k a w

/-- one that only reckons is taken first -/
theorem B.take {fn : Func} {R : Ending → World → Prop} (i : Nat) {d : Nat} (hi : ops[i]? = some ⟨some d, op, ty, pos, after, none⟩) (hns : Region.noSelect ops = true) (hf : Region.free .any ops listed i = true)
    (hr : (Region.ready .any ops listed).contains i = true) (hl : listed.setIfInBounds i true = listed') (h : Pure P op ty env [] v) (hd : Nat.blt d n = true)
    (next : B P (bodyPost P fn R) n k ops f listed' ((d, v) :: env) H) : B P (bodyPost P fn R) n k ops (f + 1) listed env H := fun a w ha hs => by
  subst hl
  refine wpAny_take (v := v) hi hns hf hr (fun c a' w' hq => ?_) (.inl ⟨by simp [Region.wanted], fun w' => h w' SatH.nil _ ha.agrees _ _ _ _⟩) (next _ w (ha.put (d := some d) hd v) hs)
  rw [Kq_panic] at hq ⊢
  exact ⟨by have := hq.1; simpa [Act.put] using this, hq.2⟩

theorem B.takeYes {fn : Func} {R : Ending → World → Prop} (i : Nat) {d j t : Nat} {b : Bool} (hi : ops[i]? = some ⟨some d, op, ty, pos, after, some (j, b)⟩) (hns : Region.noSelect ops = true) (hf : Region.free .any ops listed i = true)
    (hr : (Region.ready .any ops listed).contains i = true) (hl : listed.setIfInBounds i true = listed') (hj : (ops[j]?).bind (·.dst) = some t) (hn : Nat.blt t n = true) (ht : look env t = some (.bool b)) (h : Pure P op ty env [] v) (hd : Nat.blt d n = true)
    (next : B P (bodyPost P fn R) n k ops f listed' ((d, v) :: env) H) : B P (bodyPost P fn R) n k ops (f + 1) listed env H := fun a w ha hs => by
  subst hl
  have hy := yielded_look hj ht hn ha
  refine wpAny_take (v := v) hi hns hf hr (fun c a' w' hq => ?_) (.inl ⟨by simp [Region.wanted, hy], fun w' => h w' SatH.nil _ ha.agrees _ _ _ _⟩) (next _ w (ha.put (d := some d) hd v) hs)
  rw [Kq_panic] at hq ⊢
  exact ⟨by have := hq.1; simpa [Act.put] using this, hq.2⟩
theorem B.takeNo {fn : Func} {R : Ending → World → Prop} (i : Nat) {d j t : Nat} {b b' : Bool} (hi : ops[i]? = some ⟨some d, op, ty, pos, after, some (j, b')⟩) (hns : Region.noSelect ops = true) (hf : Region.free .any ops listed i = true)
    (hr : (Region.ready .any ops listed).contains i = true) (hl : listed.setIfInBounds i true = listed') (hj : (ops[j]?).bind (·.dst) = some t) (hn : Nat.blt t n = true) (ht : look env t = some (.bool b)) (hb : (b == b') = false) (hd : Nat.blt d n = true)
    (next : B P (bodyPost P fn R) n k ops f listed' ((d, undef) :: env) H) : B P (bodyPost P fn R) n k ops (f + 1) listed env H := fun a w ha hs => by
  subst hl
  have hy := yielded_look hj ht hn ha
  refine wpAny_take (v := undef) hi hns hf hr (fun c a' w' hq => ?_) (.inr ⟨by simp [Region.wanted, hy]; simpa using hb, rfl⟩) (next _ w (ha.put (d := some d) hd undef) hs)
  rw [Kq_panic] at hq ⊢
  exact ⟨by have := hq.1; simpa [Act.put] using this, hq.2⟩
theorem B.split {p : Prop} [Decidable p] (t : Nat) (ht : look env t = some (.bool (decide p))) (h1 : p → B P Q n k ops f listed ((t, .bool true) :: env) H) (h2 : ¬ p → B P Q n k ops f listed ((t, .bool false) :: env) H) :
    B P Q n k ops f listed env H := fun a w ha hs => by
  have key : ∀ b, decide p = b → Fits n ((t, .bool b) :: env) a := fun b e => ⟨ha.size, ha.defers, fun u v hu => by
    simp only [look] at hu
    cases hb : Nat.beq t u with
    | true =>
      rw [hb] at hu
      have := Nat.eq_of_beq_eq_true hb
      subst this
      simp only [cond_true, Option.some.injEq] at hu
      subst hu
      rw [← e]; exact ha.get t _ ht
    | false => rw [hb] at hu; exact ha.get u v hu⟩
  by_cases hp : p
  · exact h1 hp a w (key true (by simp [hp])) hs
  · exact h2 hp a w (key false (by simp [hp])) hs

/-- those that may come up now, each in its branch -/
def Br [Ref] (P : Program) (Q : Exit → Act → World → Prop) (n : Nat) (k : List K) (ops : Array Oper) (f : Nat) (listed : Array Bool) (env : Env) (H : List Atom) (is : List Nat) : Prop :=
  ∀ a w, Fits n env a → Sat w H → ∀ i ∈ is, wpOp P ops (Kq P Q k) i (wpAny P .any ops (Kq P Q k) f (listed.setIfInBounds i true)) a w

theorem B.branch (is : List Nat) (hr : Region.ready .any ops listed = is) (hne : is ≠ []) (h : Br P Q n k ops f listed env H is) : B P Q n k ops (f + 1) listed env H := fun a w ha hs =>
  wpAny_all hr hne (h a w ha hs)
theorem Br.nil : Br P Q n k ops f listed env H [] := fun _ _ _ _ i hi => by cases hi
theorem Br.cons {i : Nat} {is : List Nat} {o : Oper} (hi : ops[i]? = some o) (hl : listed.setIfInBounds i true = listed')
    (h : L P Q n (.loop (fun a w => wpAny P .any ops (Kq P Q k) f listed' a w) :: k) ops [o] env H) (hs : Br P Q n k ops f listed env H is) : Br P Q n k ops f listed env H (i :: is) := fun a w ha hsat j hj => by
  rcases List.mem_cons.1 hj with rfl | hj
  · subst hl
    have h1 := h a w ha hsat
    unfold wpOp
    rw [hi]
    unfold wpList at h1
    have conv : ∀ {K1 K2 : Act → World → Prop} {a w}, (∀ a w, K1 a w → K2 a w) → o.wp P a w K1 (Kq P Q (.loop (fun a w => wpAny P .any ops (Kq P Q k) f (listed.setIfInBounds j true) a w) :: k)) → o.wp P a w K2 (Kq P Q k) := by
      intro K1 K2 a w hK hw
      unfold Oper.wp at hw ⊢
      generalize (execOp a.eval o).run P w = r at hw ⊢
      cases r with
      | ok nx w' =>
        cases nx <;> simp only [Oper.upon] at hw ⊢ <;>
          first
            | exact hK _ _ hw
            | exact Calls.mono hw (fun e w'' he => by
                cases e with
                | returned v => exact hK _ _ he
                | panicked ch => exact he
                | outgrown => exact he)
            | exact Rows.mono hw (fun v w'' he => hK _ _ he)
      | halt hh w' => cases hh <;> simp only [Oper.upon] at hw ⊢ <;> exact hw
    by_cases hw : Region.wanted o (yielded ops a.tmps) = true
    · rw [if_pos hw] at h1
      simp only [hw, if_true]
      rcases h1 with h1 | ⟨h1, a0, w0, h2⟩
      · exact .inl (conv (fun a w hq => hq) h1)
      · exact .inr ⟨h1, a0, w0, h2⟩
    · rw [if_neg hw] at h1
      simp only [hw]
      exact h1
  · exact hs a w ha hsat j hj
theorem B.go (h : B P Q n k ops f listed env H) : S P Q n (.loop (fun a w => wpAny P .any ops (Kq P Q k) f listed a w) :: k) env H := fun a w ha hs => h a w ha hs
end
attribute [irreducible] Ql B Br
end Go.Proofs.Ytlecgoebbjnnmaa
