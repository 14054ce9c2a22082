/- Maps whose keys are integers. -/
import Derived.Test.YtlecgoebbjnnmaaOps7
set_option linter.unusedVariables false
set_option linter.unusedSectionVars false
set_option linter.unusedSimpArgs false
namespace Go.Proofs.Ytlecgoebbjnnmaa
open Go
attribute [local semireducible] S L Pure Does Fin RV Ql

theorem erase_at {i : Int} : ∀ {ks : List Int}, i ∈ ks → ks.erase i = ks.eraseIdx (ks.idxOf i)
  | [], h => by cases h
  | k :: ks, h => by
    by_cases hk : k = i
    · subst hk; simp
    · have hb : (k == i) = false := by simp [hk]
      have hi : i ∈ ks := by
        rcases List.mem_cons.1 h with e | e
        · exact absurd e.symm hk
        · exact e
      simp [List.erase_cons, List.idxOf_cons, hb, erase_at hi]
theorem map_eraseIdx' {α β : Type} (f : α → β) : ∀ (l : List α) (k : Nat), (l.eraseIdx k).map f = (l.map f).eraseIdx k
  | [], k => rfl
  | a :: l, 0 => rfl
  | a :: l, k + 1 => by simp [map_eraseIdx' f l k]
class TMapI (P : Program) (t : TypeId) (kk : outParam IntKind) : Prop where
  out : ∃ kt et z, P.underlying t = some (.map kt et) ∧ P.underlying kt = some (.int kk) ∧ (P.info? et).bind (·.zero) = some z

def IntKeys (kk : IntKind) (es : List MapEntry) (ks : List Int) : Prop := es.map (·.key) = ks.map (.int kk)

theorem findNow_none {kk : IntKind} {i : Int} : ∀ {es : List MapEntry} {ks : List Int} (j : Nat), IntKeys kk es ks → i ∉ ks → Instr.findNow (.int kk) (.int kk i) es j = some none
  | [], ks, j, h, hi => rfl
  | e :: es, [], j, h, hi => by simp [IntKeys] at h
  | e :: es, k :: ks, j, h, hi => by
    simp only [IntKeys, List.map_cons, List.cons.injEq] at h
    have hne : i ≠ k := fun e => hi (by simp [e])
    have ih := findNow_none (i := i) (j + 1) (show IntKeys kk es ks from h.2) (fun hm => hi (by simp [hm]))
    have hb : (i == k) = false := by simp [hne]
    simp only [Instr.findNow, h.1, Instr.sameNow, if_true, hb, ih]
theorem findNow_some {kk : IntKind} {i : Int} : ∀ {es : List MapEntry} {ks : List Int} (j : Nat), IntKeys kk es ks → i ∈ ks → ∃ e, es[ks.idxOf i]? = some e ∧ e.key = .int kk i ∧ Instr.findNow (.int kk) (.int kk i) es j = some (some (j + ks.idxOf i, e.val))
  | [], ks, j, h, hi => by
    have : ks = [] := by simpa [IntKeys] using h.symm
    subst this; cases hi
  | e :: es, [], j, h, hi => by cases hi
  | e :: es, k :: ks, j, h, hi => by
    simp only [IntKeys, List.map_cons, List.cons.injEq] at h
    by_cases hk : i = k
    · subst hk
      exact ⟨e, by simp, h.1, by simp [Instr.findNow, h.1, Instr.sameNow]⟩
    · have hi' : i ∈ ks := by simpa [hk] using hi
      obtain ⟨e', h1, h2, h3⟩ := findNow_some (i := i) (j + 1) (show IntKeys kk es ks from h.2) hi'
      have hix : (k :: ks).idxOf i = ks.idxOf i + 1 := by
        have hb : (k == i) = false := by simp; exact fun e => hk e.symm
        simp [List.idxOf_cons, hb]
      refine ⟨e', by rw [hix]; simpa using h1, h2, ?_⟩
      rw [hix]
      simp only [Instr.findNow, h.1, Instr.sameNow, if_true]
      rw [show ((i == k) = false) by simp [hk]]
      simp only [h3]
      congr 3
      omega

section
variable [Ref] {P : Program} {Q : Exit → Act → World → Prop} {n : Nat} {k : List K} {env : Env} {H : List Atom} {ops : Array Oper} {l : List Oper}
variable {ty t t' ty' : TypeId} {pos : String} {after : Array Edge} {x y z : Operand} {v : Value} {b o : Nat} {T : TypeId} {cs : List Value} {put : Atom → List Atom} {op : Op}

theorem run_getM {w : World} {r : Nat} {es : Array MapEntry} {clock : Nat} (hb : w.heap[r]? = some (.map es clock)) : (getObj r).run P w = .ok (.map es clock) w := by simp [getObj, Sem.run, hb]
theorem run_setM {w : World} {r : Nat} {es : Array MapEntry} {clock : Nat} (o : Obj) (hb : w.heap[r]? = some (.map es clock)) : (setObj r o).run P w = .ok () { w with heap := w.heap.setIfInBounds r o } := by simp [setObj, Sem.run, hb]
theorem sat_setM {w : World} {es es' : List MapEntry} {c c' : Nat} [hh : Has H b (.map b es c) put] (hs : Sat w H) : Sat { w with heap := w.heap.setIfInBounds b (.map es'.toArray c') } (put (.map b es' c')) := by
  have h0 := hs.holds _ hh.mem
  simp only [Atom.holds] at h0
  have hlt : b < w.heap.size := (Array.getElem?_eq_some_iff.1 h0).1
  refine hh.upd hs rfl ?_ (fun c hc => ?_)
  · simp [Atom.holds, Array.getElem?_setIfInBounds, hlt]
  · simp only [Array.getElem?_setIfInBounds]
    rw [if_neg (fun e => hc e.symm)]
theorem L.makeMap {d : Nat} (hd : Nat.blt d n = true) (next : ∀ b, L P Q n k ops l ((d, .map (some b)) :: env) (.map b [] 0 :: H)) :
    L P Q n k ops (⟨some d, .makeMap t none, ty, pos, after, none⟩ :: l) env H := by
  refine L.e (post := fun v H' => ∃ b, v = .map (some b) ∧ H' = .map b [] 0 :: H) ?_ hd (fun _ _ ⟨b, e1, e2⟩ => e1 ▸ e2 ▸ next b)
  intro w hs ρ ha d pos after g
  refine ⟨_, _, w.alloc (.map #[] 0), .value (.map (some w.heap.size)), ?_, .inl rfl, hs.new (x := .map w.heap.size [] 0) rfl (heap_alloc_new w _) (fun b hb => heap_alloc_old w _ hb), ⟨_, rfl, rfl⟩⟩
  simp [execOp, Instr.makeMap]

theorem run_checkKey_int {kt : TypeId} {kk : IntKind} {i : Int} {em : Bool} {w : World} (f : Nat) (h : P.underlying kt = some (.int kk)) : (Instr.checkKey em (f + 1) kt (.int kk i)).run P w = .ok () w := by
  unfold Instr.checkKey
  simp [run_underlying h]
/-- a lookup that tells whether there is one -/
theorem L.lookup {es : List MapEntry} {ks : List Int} {c d : Nat} {i : Int} {kk : IntKind} [ht : TMapI P t kk] (hx : evalE env x = some (.map (some b))) (hy : evalE env y = some (.int kk i)) (hm : Atom.map b es c ∈ H) (hk : IntKeys kk es ks)
    (hd : Nat.blt d n = true) (next : ∀ v, L P Q n k ops l ((d, .tuple #[v, .bool (decide (i ∈ ks))]) :: env) H) : L P Q n k ops (⟨some d, .lookup t x y true, ty, pos, after, none⟩ :: l) env H := by
  refine L.e (post := fun u H' => ∃ v, u = .tuple #[v, .bool (decide (i ∈ ks))] ∧ H' = H) ?_ hd (fun _ _ ⟨b, e1, e2⟩ => e1 ▸ e2 ▸ next b)
  intro w hs ρ ha d pos after g
  obtain ⟨kt, et, z, h1, h2, h3⟩ := ht.out
  have hh : w.heap[b]? = some (.map es.toArray c) := hs.holds _ hm
  have hz : ∃ inf, P.info? et = some inf ∧ inf.zero = some z := by
    cases hi : P.info? et with
    | none => rw [hi] at h3; cases h3
    | some inf => rw [hi] at h3; exact ⟨inf, rfl, by simpa using h3⟩
  obtain ⟨inf, hi1, hi2⟩ := hz
  have hck : ∀ em w, (Instr.checkKey em 10000 kt (.int kk i)).run P w = .ok () w := fun em w => run_checkKey_int 9999 h2
  by_cases hi : i ∈ ks
  · obtain ⟨e, he1, he2, he3⟩ := findNow_some (i := i) 0 hk hi
    refine ⟨_, _, w, .value (.tuple #[e.val, .bool true]), ?_, .inl rfl, hs, ⟨e.val, by simp [hi], rfl⟩⟩
    simp [execOp, ha _ _ hx, ha _ _ hy, Instr.lookup, run_underlying h1, run_getM hh, hck, Instr.findKey, run_underlying h2, he3]
  · refine ⟨_, _, w, .value (.tuple #[z, .bool false]), ?_, .inl rfl, hs, ⟨z, by simp [hi], rfl⟩⟩
    simp [execOp, ha _ _ hx, ha _ _ hy, Instr.lookup, run_underlying h1, run_getM hh, hck, Instr.findKey, run_underlying h2, findNow_none 0 hk hi, zeroValue, typeInfo, hi1, hi2]

/-- a key more -/
theorem L.mapSet {es : List MapEntry} {ks : List Int} {c : Nat} {i : Int} {kk : IntKind} [ht : TMapI P t kk] (hx : evalE env x = some (.map (some b))) (hy : evalE env y = some (.int kk i)) (hz : evalE env z = some v) [hh : Has H b (.map b es c) put] (hk : IntKeys kk es ks)
    (next : ∀ es' c', IntKeys kk es' (if i ∈ ks then ks else ks ++ [i]) → L P Q n k ops l env (put (.map b es' c'))) : L P Q n k ops (⟨none, .mapUpdate t x y z, ty, pos, after, none⟩ :: l) env H := by
  refine L.s (post := fun u H' => ∃ es' c', IntKeys kk es' (if i ∈ ks then ks else ks ++ [i]) ∧ H' = put (.map b es' c')) ?_ (fun _ _ ⟨es', c', e1, e2⟩ => e2 ▸ next es' c' e1)
  intro w hs ρ ha d pos after g
  obtain ⟨kt, et, z, h1, h2, h3⟩ := ht.out
  have hh' : w.heap[b]? = some (.map es.toArray c) := hs.holds _ hh.mem
  have hck : ∀ em w, (Instr.checkKey em 10000 kt (.int kk i)).run P w = .ok () w := fun em w => run_checkKey_int 9999 h2
  by_cases hi : i ∈ ks
  · obtain ⟨e, he1, he2, he3⟩ := findNow_some (i := i) 0 hk hi
    have hsame : (Instr.keyThatStays (.int kk i) (.int kk i)) = pure (.int kk i) := by
      have : Instr.sameBits (9999 + 1) (.int kk i) (.int kk i) = true := by simp [Instr.sameBits]
      simp only [Instr.keyThatStays, show (10000 : Nat) = 9999 + 1 from rfl, this, if_true]
    refine ⟨undef, _, { w with heap := w.heap.setIfInBounds b (.map (es.modify (ks.idxOf i) (fun e => { e with key := .int kk i, val := v })).toArray c) }, .skip, ?_, .inr ⟨rfl, rfl⟩, sat_setM (es := es) (c := c) hs, ⟨_, _, ?_, rfl⟩⟩
    · simp [execOp, ha _ _ hx, ha _ _ hy, ha _ _ hz, Instr.mapUpdate, run_underlying h1, run_getM hh', hck, Instr.findKey, run_underlying h2, he3, he1, he2, hsame, run_setM _ hh']
    · rw [if_pos hi]
      rw [IntKeys] at hk ⊢
      rw [← hk]
      apply List.ext_getElem?
      intro m
      simp only [List.getElem?_map, List.getElem?_modify]
      by_cases hm : ks.idxOf i = m
      · subst hm; simp [he1, he2]
      · simp [hm]
  · refine ⟨undef, _, { w with heap := w.heap.setIfInBounds b (.map (es ++ [MapEntry.mk (.int kk i) v c]).toArray (c + 1)) }, .skip, ?_, .inr ⟨rfl, rfl⟩, sat_setM (es := es) (c := c) hs, ⟨_, _, ?_, rfl⟩⟩
    · simp [execOp, ha _ _ hx, ha _ _ hy, ha _ _ hz, Instr.mapUpdate, run_underlying h1, run_getM hh', hck, Instr.findKey, run_underlying h2, findNow_none 0 hk hi, run_setM _ hh']
    · rw [if_neg hi]
      simp only [IntKeys] at hk ⊢
      simp [hk]

/-- a key less -/
theorem L.delete {es : List MapEntry} {ks : List Int} {c d : Nat} {i : Int} {kk : IntKind} [ht : TMapI P t kk] (hx : evalE env x = some (.map (some b))) (hy : evalE env y = some (.int kk i)) [hh : Has H b (.map b es c) put] (hk : IntKeys kk es ks)
    (hd : Nat.blt d n = true) (next : ∀ es', IntKeys kk es' (ks.erase i) → L P Q n k ops l ((d, .tuple #[]) :: env) (put (.map b es' c))) : L P Q n k ops (⟨some d, .call ⟨.builtin .delete, #[x, y], #[t, t']⟩, ty, pos, after, none⟩ :: l) env H := by
  refine L.e (post := fun u H' => ∃ es', u = .tuple #[] ∧ IntKeys kk es' (ks.erase i) ∧ H' = put (.map b es' c)) ?_ hd (fun _ _ ⟨es', e0, e1, e2⟩ => e0 ▸ e2 ▸ next es' e1)
  intro w hs ρ ha d pos after g
  obtain ⟨kt, et, z, h1, h2, h3⟩ := ht.out
  have hh' : w.heap[b]? = some (.map es.toArray c) := hs.holds _ hh.mem
  have hck : ∀ em w, (Instr.checkKey em 10000 kt (.int kk i)).run P w = .ok () w := fun em w => run_checkKey_int 9999 h2
  by_cases hi : i ∈ ks
  · obtain ⟨e, he1, he2, he3⟩ := findNow_some (i := i) 0 hk hi
    refine ⟨_, _, { w with heap := w.heap.setIfInBounds b (.map (es.eraseIdx (ks.idxOf i)).toArray c) }, .value (.tuple #[]), ?_, .inl rfl, sat_setM (es := es) (c := c) hs, ⟨_, rfl, ?_, rfl⟩⟩
    · simp [execOp, resolve, invoke, builtin, ha _ _ hx, ha _ _ hy, Builtin.delete_, run_underlying h1, run_getM hh', hck, Instr.findKey, run_underlying h2, he3, run_setM _ hh']
    · simp only [IntKeys] at hk ⊢
      rw [erase_at hi, map_eraseIdx', map_eraseIdx', hk]
  · refine ⟨_, _, { w with heap := w.heap.setIfInBounds b (.map es.toArray c) }, .value (.tuple #[]), ?_, .inl rfl, sat_setM (es := es) (c := c) hs, ⟨_, rfl, ?_, rfl⟩⟩
    · simp [execOp, resolve, invoke, builtin, ha _ _ hx, ha _ _ hy, Builtin.delete_, run_underlying h1, run_getM hh', hck, Instr.findKey, run_underlying h2, findNow_none 0 hk hi, run_setM _ hh']
    · rw [List.erase_of_not_mem hi]; exact hk
/-- a key less -/
theorem L.deleteS {es : List MapEntry} {ks : List Int} {c : Nat} {i : Int} {kk : IntKind} [ht : TMapI P t kk] (hx : evalE env x = some (.map (some b))) (hy : evalE env y = some (.int kk i)) [hh : Has H b (.map b es c) put] (hk : IntKeys kk es ks)
    (next : ∀ es', IntKeys kk es' (ks.erase i) → L P Q n k ops l env (put (.map b es' c))) : L P Q n k ops (⟨none, .call ⟨.builtin .delete, #[x, y], #[t, t']⟩, ty, pos, after, none⟩ :: l) env H := by
  refine L.s (post := fun u H' => ∃ es', u = .tuple #[] ∧ IntKeys kk es' (ks.erase i) ∧ H' = put (.map b es' c)) ?_ (fun _ _ ⟨es', e0, e1, e2⟩ => e2 ▸ next es' e1)
  intro w hs ρ ha d pos after g
  obtain ⟨kt, et, z, h1, h2, h3⟩ := ht.out
  have hh' : w.heap[b]? = some (.map es.toArray c) := hs.holds _ hh.mem
  have hck : ∀ em w, (Instr.checkKey em 10000 kt (.int kk i)).run P w = .ok () w := fun em w => run_checkKey_int 9999 h2
  by_cases hi : i ∈ ks
  · obtain ⟨e, he1, he2, he3⟩ := findNow_some (i := i) 0 hk hi
    refine ⟨_, _, { w with heap := w.heap.setIfInBounds b (.map (es.eraseIdx (ks.idxOf i)).toArray c) }, .value (.tuple #[]), ?_, .inl rfl, sat_setM (es := es) (c := c) hs, ⟨_, rfl, ?_, rfl⟩⟩
    · simp [execOp, resolve, invoke, builtin, ha _ _ hx, ha _ _ hy, Builtin.delete_, run_underlying h1, run_getM hh', hck, Instr.findKey, run_underlying h2, he3, run_setM _ hh']
    · simp only [IntKeys] at hk ⊢
      rw [erase_at hi, map_eraseIdx', map_eraseIdx', hk]
  · refine ⟨_, _, { w with heap := w.heap.setIfInBounds b (.map es.toArray c) }, .value (.tuple #[]), ?_, .inl rfl, sat_setM (es := es) (c := c) hs, ⟨_, rfl, ?_, rfl⟩⟩
    · simp [execOp, resolve, invoke, builtin, ha _ _ hx, ha _ _ hy, Builtin.delete_, run_underlying h1, run_getM hh', hck, Instr.findKey, run_underlying h2, findNow_none 0 hk hi, run_setM _ hh']
    · rw [List.erase_of_not_mem hi]; exact hk
theorem o_remN {kk : IntKind} {a c : Nat} (hx : evalE env x = some (.int kk (a : Int))) (hy : evalE env y = some (.int kk (c : Int))) (h0 : 0 < c) : Pure P (.binOp .rem t x y ty') ty env H (.int kk ((a % c : Nat) : Int)) := by
  have h := o_rem (P := P) (t := t) (ty := ty) (ty' := ty') (H := H) hx hy (by omega)
  rwa [show ((a : Int).tmod (c : Int)) = ((a % c : Nat) : Int) by rw [Int.tmod_eq_emod_of_nonneg (by omega)]; simp] at h
end
end Go.Proofs.Ytlecgoebbjnnmaa
