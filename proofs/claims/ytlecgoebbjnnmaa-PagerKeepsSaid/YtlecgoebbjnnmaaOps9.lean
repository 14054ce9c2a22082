/- Regions in any order, with atoms that nobody in them writes: what reads these is taken first. -/
import Derived.Test.YtlecgoebbjnnmaaOps8
import Derived.OrdersHeld
set_option linter.unusedVariables false
set_option linter.unusedSectionVars false
set_option linter.unusedSimpArgs false
namespace Go.Proofs.Ytlecgoebbjnnmaa
open Go
attribute [local semireducible] S L Pure Does Fin RV Ql B Br

/-- fewer atoms -/
theorem less_perm : ∀ (F : List Atom) (H : List Atom), (∀ a : Atom, F.count a ≤ H.count a) → ∃ R, H.Perm (F ++ R)
  | [], H, _ => ⟨H, .refl H⟩
  | a :: F, H, h => by
    have ha : a ∈ H := by
      have := h a
      rw [List.count_cons_self] at this
      exact List.count_pos_iff.1 (by omega)
    obtain ⟨R, hR⟩ := less_perm F (H.erase a) (fun b => by
      have h1 := h b
      rw [List.count_cons] at h1
      rw [List.count_erase]
      by_cases e : a == b
      · simp only [e, if_true] at h1 ⊢; omega
      · simp only [e] at h1 ⊢; simpa using h1)
    exact ⟨R, (List.perm_cons_erase ha).trans (hR.cons a)⟩
theorem Sat.less [Ref] {w : World} {H F : List Atom} (hs : Sat w H) (h : ∀ a : Atom, F.count a ≤ H.count a) : Sat w F := by
  obtain ⟨R, hp⟩ := less_perm F H h
  exact (hs.perm hp).left

/-- parts of several cells, put into their places -/
class SetN (cs : List Value) (o : Nat) (vs : List Value) (r : outParam (List Value)) : Prop where out : setAt cs o vs = r ∧ o + vs.length ≤ cs.length
instance SetN.nil {cs : List Value} {o : Nat} [h : InB o 0 cs] : SetN cs o [] cs := ⟨setAt_nil _ _, by simpa using h.out⟩
instance SetN.cons {cs cs1 r vs : List Value} {o : Nat} {v : Value} [h0 : InB o 1 cs] [h1 : SetC cs o v cs1] [h2 : SetN cs1 (o + 1) vs r] : SetN cs o (v :: vs) r := ⟨by
  have hl := h0.out
  rw [← h2.out.1, ← h1.out, setAt_cons (by omega)], by
  have := h2.out.2
  rw [← h1.out] at this
  simp at this ⊢; omega⟩
instance InB.z0 {o : Nat} {cs : List Value} {v : Value} [h : InB o 0 cs] : InB (o + 1) 0 (v :: cs) := ⟨by have := h.out; simp; omega⟩
class LenIs (vs : List Value) (m : Nat) : Prop where out : vs.length = m
instance LenIs.z : LenIs [] 0 := ⟨rfl⟩
instance LenIs.s {v : Value} {vs : List Value} {m : Nat} [h : LenIs vs m] : LenIs (v :: vs) (m + 1) := ⟨by simp [h.out]⟩
instance Fill.aggN [Ref] {pl : List (Nat × Nat)} {cs cs' r vs : List Value} {i off m : Nat} {ps : List (Nat × Value)} [h1 : Nth pl i off m] [h2 : LenIs vs m] [h4 : SetN cs off vs cs'] [h5 : Fill pl cs' ps r] : Fill pl cs ((i, .agg vs.toArray) :: ps) r := ⟨by
  rw [fill_cons (vs := vs) (off := off) (by rw [h1.out, h2.out]) rfl h4.out.2, h4.out.1]
  exact h5.out⟩

section
variable [Ref] {P : Program} {Q : Exit → Act → World → Prop} {n : Nat} {k : List K} {env : Env} {F H : List Atom} {ops : Array Oper} {l : List Oper}
variable {op : Op} {ty t t' : TypeId} {pos : String} {after : Array Edge} {x y : Operand} {v : Value} {f : Nat} {listed listed' : Array Bool}

def BH [Ref] (P : Program) (Q : Exit → Act → World → Prop) (n : Nat) (k : List K) (ops : Array Oper) (f : Nat) (listed : Array Bool) (F : List Atom) (env : Env) (H : List Atom) : Prop :=
  ∀ a w, Fits n env a → Sat w H → wpAnyH P .any ops (Kq P Q k) (fun w => Sat w F) f listed a w

theorem S.anyH {id : Nat} (F : List Atom) (hm : P.follows .mixedOrders = true) (h : BH P Q n k l.toArray l.length (List.replicate l.length false).toArray F env H) : S P Q n (.code (.region id l.toArray true) :: k) env H := fun a w ha hs => by
  have := h a { w with drawn := w.drawn + 1 } ha (hs.heap rfl)
  refine wp_region_held (S := fun w => Sat w F) hm ?_
  simpa using this

theorem BH.done (hr : Region.ready .any ops listed = []) (h : S P Q n k env H) : BH P Q n k ops f listed F env H := fun a w ha hs => wpAnyH_done hr (h a w ha hs) f

theorem BH.take {fn : Func} {R : Ending → World → Prop} (i : Nat) {d : Nat} (hi : ops[i]? = some ⟨some d, op, ty, pos, after, none⟩) (hns : Region.noSelect ops = true) (hf : Region.free .any ops listed i = true)
    (hr : (Region.ready .any ops listed).contains i = true) (hl : listed.setIfInBounds i true = listed') (h : Pure P op ty env F v) (hd : Nat.blt d n = true) (hF : ∀ a : Atom, F.count a ≤ H.count a)
    (next : BH P (bodyPost P fn R) n k ops f listed' F ((d, v) :: env) H) : BH P (bodyPost P fn R) n k ops (f + 1) listed F env H := fun a w ha hs => by
  subst hl
  refine wpAnyH_take (v := v) hi hns hf hr (fun c a' w' hq => ?_) (.inl ⟨by simp [Region.wanted], fun w' hS => h w' hS.toSatH _ ha.agrees _ _ _ _⟩) (hs.less hF) (next _ w (ha.put (d := some d) hd v) hs)
  rw [Kq_panic] at hq ⊢
  exact ⟨by have := hq.1; simpa [Act.put] using this, hq.2⟩
theorem BH.takeYes {fn : Func} {R : Ending → World → Prop} (i : Nat) {d j t : Nat} {b : Bool} (hi : ops[i]? = some ⟨some d, op, ty, pos, after, some (j, b)⟩) (hns : Region.noSelect ops = true) (hf : Region.free .any ops listed i = true)
    (hr : (Region.ready .any ops listed).contains i = true) (hl : listed.setIfInBounds i true = listed') (hj : (ops[j]?).bind (·.dst) = some t) (hn : Nat.blt t n = true) (ht : look env t = some (.bool b)) (h : Pure P op ty env F v) (hd : Nat.blt d n = true) (hF : ∀ a : Atom, F.count a ≤ H.count a)
    (next : BH P (bodyPost P fn R) n k ops f listed' F ((d, v) :: env) H) : BH P (bodyPost P fn R) n k ops (f + 1) listed F env H := fun a w ha hs => by
  subst hl
  have hy := yielded_look hj ht hn ha
  refine wpAnyH_take (v := v) hi hns hf hr (fun c a' w' hq => ?_) (.inl ⟨by simp [Region.wanted, hy], fun w' hS => h w' hS.toSatH _ ha.agrees _ _ _ _⟩) (hs.less hF) (next _ w (ha.put (d := some d) hd v) hs)
  rw [Kq_panic] at hq ⊢
  exact ⟨by have := hq.1; simpa [Act.put] using this, hq.2⟩
theorem BH.takeNo {fn : Func} {R : Ending → World → Prop} (i : Nat) {d j t : Nat} {b b' : Bool} (hi : ops[i]? = some ⟨some d, op, ty, pos, after, some (j, b')⟩) (hns : Region.noSelect ops = true) (hf : Region.free .any ops listed i = true)
    (hr : (Region.ready .any ops listed).contains i = true) (hl : listed.setIfInBounds i true = listed') (hj : (ops[j]?).bind (·.dst) = some t) (hn : Nat.blt t n = true) (ht : look env t = some (.bool b)) (hb : (b == b') = false) (hd : Nat.blt d n = true) (hF : ∀ a : Atom, F.count a ≤ H.count a)
    (next : BH P (bodyPost P fn R) n k ops f listed' F ((d, undef) :: env) H) : BH P (bodyPost P fn R) n k ops (f + 1) listed F env H := fun a w ha hs => by
  subst hl
  have hy := yielded_look hj ht hn ha
  refine wpAnyH_take (v := undef) hi hns hf hr (fun c a' w' hq => ?_) (.inr ⟨by simp [Region.wanted, hy]; simpa using hb, rfl⟩) (hs.less hF) (next _ w (ha.put (d := some d) hd undef) hs)
  rw [Kq_panic] at hq ⊢
  exact ⟨by have := hq.1; simpa [Act.put] using this, hq.2⟩
theorem BH.split {p : Prop} [Decidable p] (t : Nat) (ht : look env t = some (.bool (decide p))) (h1 : p → BH P Q n k ops f listed F ((t, .bool true) :: env) H) (h2 : ¬ p → BH P Q n k ops f listed F ((t, .bool false) :: env) H) :
    BH P Q n k ops f listed F env H := fun a w ha hs => by
  have key : ∀ b, decide p = b → Fits n ((t, .bool b) :: env) a := fun b e => ⟨ha.size, ha.defers, fun u v hu => by
    simp only [look] at hu
    cases hb : Nat.beq t u with
    | true =>
      rw [hb] at hu
      have := Nat.eq_of_beq_eq_true hb
      subst this
      simp only [cond_true, Option.some.injEq] at hu
      subst hu
      rw [← e]; exact ha.get t _ ht
    | false => rw [hb] at hu; exact ha.get u v hu⟩
  by_cases hp : p
  · exact h1 hp a w (key true (by simp [hp])) hs
  · exact h2 hp a w (key false (by simp [hp])) hs
theorem BH.splitB {b : Bool} (t : Nat) (ht : look env t = some (.bool b)) (h1 : b = true → BH P Q n k ops f listed F ((t, .bool true) :: env) H) (h2 : b = false → BH P Q n k ops f listed F ((t, .bool false) :: env) H) :
    BH P Q n k ops f listed F env H := by
  have e : look env t = some (.bool (decide (b = true))) := by rw [ht]; cases b <;> rfl
  exact BH.split t e h1 (fun h => h2 (by simpa using h))
theorem B.splitB {b : Bool} (t : Nat) (ht : look env t = some (.bool b)) (h1 : b = true → B P Q n k ops f listed ((t, .bool true) :: env) H) (h2 : b = false → B P Q n k ops f listed ((t, .bool false) :: env) H) :
    B P Q n k ops f listed env H := by
  have e : look env t = some (.bool (decide (b = true))) := by rw [ht]; cases b <;> rfl
  exact B.split t e h1 (fun h => h2 (by simpa using h))
/-- the atoms and the frame told anew -/
theorem BH.turn {env' : Env} {H' : List Atom} (he : ∀ t v, look env' t = some v → look env t = some v) (hh : ∀ w, Sat w H → Sat w H') (h : BH P Q n k ops f listed F env' H') : BH P Q n k ops f listed F env H := fun a w ha hs =>
  h a w (ha.weaken he) (hh w hs)
theorem BH.re {H' : List Atom} (h : BH P Q n k ops f listed F env H') (hh : ∀ a : Atom, H.count a = H'.count a) : BH P Q n k ops f listed F env H := fun a w ha hs => h a w ha (hs.re hh)

def BrH [Ref] (P : Program) (Q : Exit → Act → World → Prop) (n : Nat) (k : List K) (ops : Array Oper) (f : Nat) (listed : Array Bool) (F : List Atom) (env : Env) (H : List Atom) (is : List Nat) : Prop :=
  ∀ a w, Fits n env a → Sat w H → ∀ i ∈ is, wpOp P ops (Kq P Q k) i (fun a' w' => Sat w' F ∧ wpAnyH P .any ops (Kq P Q k) (fun w => Sat w F) f (listed.setIfInBounds i true) a' w') a w

theorem BH.branch (is : List Nat) (hr : Region.ready .any ops listed = is) (hne : is ≠ []) (h : BrH P Q n k ops f listed F env H is) : BH P Q n k ops (f + 1) listed F env H := fun a w ha hs =>
  wpAnyH_all hr hne (h a w ha hs)
theorem BrH.nil : BrH P Q n k ops f listed F env H [] := fun _ _ _ _ i hi => by cases hi
theorem BrH.cons {i : Nat} {is : List Nat} {o : Oper} (hi : ops[i]? = some o) (hl : listed.setIfInBounds i true = listed')
    (h : L P Q n (.loop (fun a w => Sat w F ∧ wpAnyH P .any ops (Kq P Q k) (fun w => Sat w F) f listed' a w) :: k) ops [o] env H) (hs : BrH P Q n k ops f listed F env H is) : BrH P Q n k ops f listed F env H (i :: is) := fun a w ha hsat j hj => by
  rcases List.mem_cons.1 hj with rfl | hj
  · subst hl
    have h1 := h a w ha hsat
    unfold wpOp
    rw [hi]
    unfold wpList at h1
    have conv : ∀ {K1 K2 : Act → World → Prop} {I : Act → World → Prop} {a w}, (∀ a w, K1 a w → K2 a w) → o.wp P a w K1 (Kq P Q (.loop I :: k)) → o.wp P a w K2 (Kq P Q k) := by
      intro K1 K2 I a w hK hw
      unfold Oper.wp at hw ⊢
      generalize (execOp a.eval o).run P w = r at hw ⊢
      cases r with
      | ok nx w' =>
        cases nx <;> simp only [Oper.upon] at hw ⊢ <;>
          first
            | exact hK _ _ hw
            | exact Calls.mono hw (fun e w'' he => by
                cases e with
                | returned v => exact hK _ _ he
                | panicked ch => exact he
                | outgrown => exact he)
            | exact Rows.mono hw (fun v w'' he => hK _ _ he)
      | halt hh w' => cases hh <;> simp only [Oper.upon] at hw ⊢ <;> exact hw
    by_cases hw : Region.wanted o (yielded ops a.tmps) = true
    · rw [if_pos hw] at h1
      simp only [hw, if_true]
      rcases h1 with h1 | ⟨h1, a0, w0, h2⟩
      · exact .inl (conv (fun a w hq => hq) h1)
      · exact .inr ⟨h1, a0, w0, h2⟩
    · rw [if_neg hw] at h1
      simp only [hw]
      exact h1
  · exact hs a w ha hsat j hj
theorem BH.go (hF : ∀ a : Atom, F.count a ≤ H.count a) (h : BH P Q n k ops f listed F env H) : S P Q n (.loop (fun a w => Sat w F ∧ wpAnyH P .any ops (Kq P Q k) (fun w => Sat w F) f listed a w) :: k) env H := fun a w ha hs => ⟨hs.less hF, h a w ha hs⟩
/-- a guard whose own operation was not run -/
theorem yielded_und {j t : Nat} {a : Act} (hj : (ops[j]?).bind (·.dst) = some t) (ht : look env t = some undef) (hn : Nat.blt t n = true) (ha : Fits n env a) : yielded ops a.tmps j = none := by
  have h := ha.get t _ ht
  have hlt : t < a.tmps.size := by rw [ha.size]; simpa using hn
  unfold yielded
  rw [hj]
  simp only [Option.bind_some]
  rw [Array.getD_eq_getD_getElem?] at h
  rw [Array.getElem?_eq_getElem hlt] at h ⊢
  simp only [Option.getD_some] at h
  rw [h]; rfl
theorem L.gUnd {j t : Nat} {b' : Bool} {d : Nat} (hj : (ops[j]?).bind (·.dst) = some t) (hn : Nat.blt t n = true) (ht : look env t = some undef) (hd : Nat.blt d n = true)
    (next : L P Q n k ops l ((d, undef) :: env) H) : L P Q n k ops (⟨some d, op, ty, pos, after, some (j, b')⟩ :: l) env H := fun a w ha hs => by
  have hy := yielded_und hj ht hn ha
  have h := next _ w (ha.put (d := some d) hd undef) hs
  unfold wpList
  have hne : ((none : Option Bool) == some b') = false := rfl
  simp only [Region.wanted, hy, hne, Bool.false_eq_true, if_false]
  exact h
theorem B.takeUnd {fn : Func} {R : Ending → World → Prop} (i : Nat) {d j t : Nat} {b' : Bool} (hi : ops[i]? = some ⟨some d, op, ty, pos, after, some (j, b')⟩) (hns : Region.noSelect ops = true) (hf : Region.free .any ops listed i = true)
    (hr : (Region.ready .any ops listed).contains i = true) (hl : listed.setIfInBounds i true = listed') (hj : (ops[j]?).bind (·.dst) = some t) (hn : Nat.blt t n = true) (ht : look env t = some undef) (hd : Nat.blt d n = true)
    (next : B P (bodyPost P fn R) n k ops f listed' ((d, undef) :: env) H) : B P (bodyPost P fn R) n k ops (f + 1) listed env H := fun a w ha hs => by
  subst hl
  have hy := yielded_und hj ht hn ha
  refine wpAny_take (v := undef) hi hns hf hr (fun c a' w' hq => ?_) (.inr ⟨by simp [Region.wanted, hy], rfl⟩) (next _ w (ha.put (d := some d) hd undef) hs)
  rw [Kq_panic] at hq ⊢
  exact ⟨by have := hq.1; simpa [Act.put] using this, hq.2⟩
theorem BH.takeUnd {fn : Func} {R : Ending → World → Prop} (i : Nat) {d j t : Nat} {b' : Bool} (hi : ops[i]? = some ⟨some d, op, ty, pos, after, some (j, b')⟩) (hns : Region.noSelect ops = true) (hf : Region.free .any ops listed i = true)
    (hr : (Region.ready .any ops listed).contains i = true) (hl : listed.setIfInBounds i true = listed') (hj : (ops[j]?).bind (·.dst) = some t) (hn : Nat.blt t n = true) (ht : look env t = some undef) (hd : Nat.blt d n = true) (hF : ∀ a : Atom, F.count a ≤ H.count a)
    (next : BH P (bodyPost P fn R) n k ops f listed' F ((d, undef) :: env) H) : BH P (bodyPost P fn R) n k ops (f + 1) listed F env H := fun a w ha hs => by
  subst hl
  have hy := yielded_und hj ht hn ha
  refine wpAnyH_take (v := undef) hi hns hf hr (fun c a' w' hq => ?_) (.inr ⟨by simp [Region.wanted, hy], rfl⟩) (hs.less hF) (next _ w (ha.put (d := some d) hd undef) hs)
  rw [Kq_panic] at hq ⊢
  exact ⟨by have := hq.1; simpa [Act.put] using this, hq.2⟩
/-- an empty slice that is written out -/
theorem L.slice0 {e sz by_ d : Nat} [ht : TSlice P t e sz by_] (hd : Nat.blt d n = true)
    (next : ∀ b, L P Q n k ops l ((d, .slice (some ⟨b, 0, none⟩) 0 0) :: env) (.cells b e [] :: H)) :
    L P Q n k ops (⟨some d, .buildSlice t 0 #[], ty, pos, after, none⟩ :: l) env H := by
  refine L.e (post := fun u H' => ∃ b, u = .slice (some ⟨b, 0, none⟩) 0 0 ∧ H' = .cells b e [] :: H) ?_ hd (fun _ _ ⟨b, e1, e2⟩ => e1 ▸ e2 ▸ next b)
  intro w hs ρ ha d pos after g
  obtain ⟨hu, hsz', hsz0⟩ := ht.out
  cases hi : P.info? e with
  | none => rw [hi] at hsz'; cases hsz'
  | some inf =>
    refine ⟨_, _, w.alloc (.cells #[] e), .value (.slice (some ⟨w.heap.size, 0, none⟩) 0 0), ?_, .inl rfl, sat_alloc hs e [], ⟨_, rfl, rfl⟩⟩
    simp [execOp, Instr.buildSlice, run_underlying hu, sizeOf, typeInfo, hi, Instr.fill, newRow]
    congr 2
    exact Array.eq_empty_of_size_eq_zero (by simp)
end
attribute [irreducible] BH BrH
end Go.Proofs.Ytlecgoebbjnnmaa
