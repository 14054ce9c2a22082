/- The rules of operations that write or make memory; returns; the way into a function. -/
import Derived.Test.YtlecgoebbjnnmaaOps
set_option linter.unusedVariables false
set_option linter.unusedSectionVars false
set_option linter.unusedSimpArgs false
namespace Go.Proofs.Ytlecgoebbjnnmaa
open Go
attribute [local semireducible] S L Pure Does

def setAt (cs : List Value) (o : Nat) (vs : List Value) : List Value := cs.take o ++ vs ++ cs.drop (o + vs.length)

theorem setAt_nil (cs : List Value) (o : Nat) : setAt cs o [] = cs := by simp [setAt]
theorem length_setAt {cs vs : List Value} {o : Nat} (h : o + vs.length ≤ cs.length) : (setAt cs o vs).length = cs.length := by
  simp [setAt]; omega
theorem setAt_cons {cs vs : List Value} {o : Nat} {v : Value} (h : o < cs.length) : setAt (cs.set o v) (o + 1) vs = setAt cs o (v :: vs) := by
  simp only [setAt, List.length_cons]
  have h1 : (cs.set o v).take (o + 1) = cs.take o ++ [v] := by
    rw [List.take_succ_eq_append_getElem (by simpa using h)]
    simp [List.take_set_of_le]
  have h2 : (cs.set o v).drop (o + 1 + vs.length) = cs.drop (o + (vs.length + 1)) := by
    rw [List.drop_set_of_lt (by omega), show o + 1 + vs.length = o + (vs.length + 1) by omega]
  rw [h1, h2]; simp

class SetC (cs : List Value) (o : Nat) (v : Value) (cs' : outParam (List Value)) : Prop where out : cs.set o v = cs'
instance (priority := low) SetC.any {cs : List Value} {o : Nat} {v : Value} : SetC cs o v (cs.set o v) := ⟨rfl⟩
instance SetC.zero {u v : Value} {r : List Value} : SetC (u :: r) 0 v (v :: r) := ⟨rfl⟩
instance SetC.succ {u v : Value} {r r' : List Value} {o : Nat} [h : SetC r o v r'] : SetC (u :: r) (o + 1) v (u :: r') := ⟨by rw [List.set_cons_succ, h.out]⟩

section
variable [Ref] {P : Program} {Q : Exit → Act → World → Prop} {n : Nat} {k : List K} {env : Env} {H : List Atom} {ops : Array Oper} {l : List Oper}
variable {ty t t' : TypeId} {pos : String} {after : Array Edge} {x y : Operand} {v : Value} {b o : Nat} {T : TypeId} {cs : List Value} {put : Atom → List Atom}

theorem run_store1 {w : World} [hh : Has H b (.cells b T cs) put] (hs : Sat w H) (ho : o < cs.length) (hv : v.oneCell' = true) :
    ∃ w', (store ⟨b, o, none⟩ v).run P w = .ok () w' ∧ w' = w.setCell ⟨b, o, none⟩ v ∧ Sat w' (put (.cells b T (cs.set o v))) := by
  have hc : w.cell? ⟨b, o, none⟩ = some cs[o] := by rw [hs.cell hh.mem]; simp [ho]
  refine ⟨w.setCell ⟨b, o, none⟩ v, ?_, rfl, ?_⟩
  · rw [run_store _ _ _ _ _ hv]
    simp only [hc, hs.frozen hh.mem o ho, Bool.false_eq_true, if_false]
  · refine hh.upd hs rfl ?_ (fun c hc => ?_)
    · obtain ⟨fr, hf, he⟩ := hs.holds _ hh.mem
      refine ⟨fr, by simpa using hf, ?_⟩
      simp only [World.setCell, Array.getElem?_modify, if_true, he, Option.map_some]
      simp
    · simp only [World.setCell, Array.getElem?_modify]
      rw [if_neg (fun e => hc e.symm)]

instance Has.self {A B : List Atom} : Has (A ++ .cells b T cs :: B) b (.cells b T cs) (fun y => A ++ y :: B) := ⟨rfl, A, B, rfl, fun _ => rfl⟩

theorem run_storeCells {A B : List Atom} (P : Program) : ∀ (vs : List Value) (i o : Nat) (cs : List Value) (w : World), Sat w (A ++ .cells b T cs :: B) → (∀ v ∈ vs, v.oneCell' = true) → o + i + vs.length ≤ cs.length →
    ∃ w', (storeCells ⟨b, o, none⟩ vs i).run P w = .ok () w' ∧ Sat w' (A ++ .cells b T (setAt cs (o + i) vs) :: B)
  | [], i, o, cs, w, hs, _, _ => ⟨w, by simp [storeCells], by rw [setAt_nil]; exact hs⟩
  | v :: vs, i, o, cs, w, hs, h1, hl => by
    simp only [List.length_cons] at hl
    obtain ⟨w1, hr, _, hs1⟩ := run_store1 (P := P) (b := b) (o := o + i) (v := v) (hh := Has.self) hs (by omega) (h1 v (by simp))
    obtain ⟨w2, hr2, hs2⟩ := run_storeCells (A := A) (B := B) P vs (i + 1) o (cs.set (o + i) v) w1 hs1 (fun u hu => h1 u (by simp [hu])) (by simp; omega)
    refine ⟨w2, ?_, ?_⟩
    · simp only [storeCells, Sem.run_bind, add_off, hr, Result.andThen_ok]
      exact hr2
    · rw [← setAt_cons (by omega)]
      rw [← Nat.add_assoc] at hs2
      exact hs2

theorem Has.split {x : Atom} (hh : Has H b x put) : ∃ A B, H = A ++ x :: B ∧ ∀ y, put y = A ++ y :: B := hh.at_.2

theorem L.store {cs' : List Value} [ht : TCell P t] (hx : evalE env x = some (.pointer (some ⟨b, o, none⟩))) (hy : evalE env y = some v) [hh : Has H b (.cells b T cs) put] (ho : o < cs.length) (hv : v.oneCell' = true)
    [hc : SetC cs o v cs'] (next : L P Q n k ops l env (put (.cells b T cs'))) : L P Q n k ops (⟨none, .store t x y, ty, pos, after, none⟩ :: l) env H := by
  refine L.s (post := fun _ H' => H' = put (.cells b T cs')) ?_ (fun _ _ e => e ▸ next)
  intro w hs ρ ha d pos after g
  obtain ⟨w', hr, _, hs'⟩ := run_store1 (P := P) (hh := hh) hs ho hv
  obtain ⟨d', hd, hagg, hsz⟩ := ht.out
  cases hi : P.info? t with
  | none => rw [hi] at hsz; cases hsz
  | some inf =>
    rw [hi] at hsz
    have hm' : inf.size = 1 := by simpa using hsz
    have hcs : v.cells = #[v] := by cases v <;> first | rfl | (simp [Value.oneCell'] at hv)
    rw [hc.out] at hs'
    refine ⟨undef, _, w', .skip, ?_, .inr ⟨rfl, rfl⟩, hs', rfl⟩
    simp [execOp, ha _ _ hx, ha _ _ hy, Instr.storeAt, Instr.sureAddr, storeVar, sizeOf, typeInfo, hi, hm', hcs, storeCells, add_off, hr]

theorem L.storeN {m : Nat} {vs : List Value} [ht : TAgg P t m] (hx : evalE env x = some (.pointer (some ⟨b, o, none⟩))) (hy : evalE env y = some (.agg vs.toArray)) [hh : Has H b (.cells b T cs) put] (hm : vs.length = m) (ho : o + m ≤ cs.length)
    (hv : ∀ v ∈ vs, v.oneCell' = true) (next : L P Q n k ops l env (put (.cells b T (setAt cs o vs)))) : L P Q n k ops (⟨none, .store t x y, ty, pos, after, none⟩ :: l) env H := by
  refine L.s (post := fun _ H' => H' = put (.cells b T (setAt cs o vs))) ?_ (fun _ _ e => e ▸ next)
  intro w hs ρ ha d pos after g
  obtain ⟨A, B, e, hp⟩ := hh.split
  subst hm
  obtain ⟨w', hr, hs'⟩ := run_storeCells (A := A) (B := B) P vs 0 o cs w (e ▸ hs) hv (by simpa using ho)
  obtain ⟨d', hd, hagg, hsz⟩ := ht.out
  cases hi : P.info? t with
  | none => rw [hi] at hsz; cases hsz
  | some inf =>
    rw [hi] at hsz
    have hm' : inf.size = vs.length := by simpa using hsz
    refine ⟨undef, _, w', .skip, ?_, .inr ⟨rfl, rfl⟩, by rw [hp]; exact hs', rfl⟩
    simp [execOp, ha _ _ hx, ha _ _ hy, Instr.storeAt, Instr.sureAddr, storeVar, sizeOf, typeInfo, hi, hm', Value.cells, hr]

/-- new blocks -/
theorem sat_alloc {w : World} (hs : Sat w H) (T : TypeId) (cs : List Value) : Sat (w.alloc (.cells cs.toArray T)) (.cells w.heap.size T cs :: H) :=
  hs.new rfl ⟨(0, 0), .inl rfl, heap_alloc_new w _⟩ (fun b hb => heap_alloc_old w _ hb)

theorem sat_drew {w : World} (hs : Sat w H) : Sat w.drew H := hs.heap rfl

theorem L.alloc {z : List Value} {d : Nat} [ht : TZero P t z] (hd : Nat.blt d n = true) (next : ∀ b, L P Q n k ops l ((d, .pointer (some ⟨b, 0, none⟩)) :: env) (.cells b t z :: H)) :
    L P Q n k ops (⟨some d, .alloc t, ty, pos, after, none⟩ :: l) env H := by
  refine L.e (post := fun v H' => ∃ b, v = .pointer (some ⟨b, 0, none⟩) ∧ H' = .cells b t z :: H) ?_ hd (fun _ _ ⟨b, e1, e2⟩ => e1 ▸ e2 ▸ next b)
  intro w hs ρ ha d pos after g
  have hz := ht.out
  cases hi : P.info? t with
  | none => rw [hi] at hz; cases hz
  | some inf =>
    rw [hi] at hz
    simp only [Option.bind_some] at hz
    cases hz0 : inf.zero with
    | none => rw [hz0] at hz; cases hz
    | some v0 =>
      rw [hz0] at hz
      have hz1 : v0.cells.toList = z := by simpa using hz
      have hz2 : v0.cells = z.toArray := by rw [← hz1]
      refine ⟨_, _, w.alloc (.cells z.toArray t), .value (.pointer (some ⟨w.heap.size, 0, none⟩)), ?_, .inl rfl, sat_alloc hs t z, ⟨_, rfl, rfl⟩⟩
      simp [execOp, Instr.alloc, zeroValue, typeInfo, hi, hz0, newVar, newRow, hz2]

theorem L.box1 {d : Nat} (hx : evalE env x = some v) (hv : v.oneCell' = true) (hd : Nat.blt d n = true) (next : ∀ b, L P Q n k ops l ((d, .pointer (some ⟨b, 0, none⟩)) :: env) (.cells b t [v] :: H)) :
    L P Q n k ops (⟨some d, .box t x, ty, pos, after, none⟩ :: l) env H := by
  refine L.e (post := fun u H' => ∃ b, u = .pointer (some ⟨b, 0, none⟩) ∧ H' = .cells b t [v] :: H) ?_ hd (fun _ _ ⟨b, e1, e2⟩ => e1 ▸ e2 ▸ next b)
  intro w hs ρ ha d pos after g
  have hcs : v.cells = [v].toArray := by cases v <;> first | rfl | (simp [Value.oneCell'] at hv)
  refine ⟨_, _, w.alloc (.cells [v].toArray t), .value (.pointer (some ⟨w.heap.size, 0, none⟩)), ?_, .inl rfl, sat_alloc hs t [v], ⟨_, rfl, rfl⟩⟩
  simp [execOp, ha _ _ hx, Instr.box, newVar, newRow, hcs]

theorem L.boxN {d : Nat} {vs : List Value} (hx : evalE env x = some (.agg vs.toArray)) (hd : Nat.blt d n = true) (next : ∀ b, L P Q n k ops l ((d, .pointer (some ⟨b, 0, none⟩)) :: env) (.cells b t vs :: H)) :
    L P Q n k ops (⟨some d, .box t x, ty, pos, after, none⟩ :: l) env H := by
  refine L.e (post := fun u H' => ∃ b, u = .pointer (some ⟨b, 0, none⟩) ∧ H' = .cells b t vs :: H) ?_ hd (fun _ _ ⟨b, e1, e2⟩ => e1 ▸ e2 ▸ next b)
  intro w hs ρ ha d pos after g
  refine ⟨_, _, w.alloc (.cells vs.toArray t), .value (.pointer (some ⟨w.heap.size, 0, none⟩)), ?_, .inl rfl, sat_alloc hs t vs, ⟨_, rfl, rfl⟩⟩
  simp [execOp, ha _ _ hx, Instr.box, newVar, newRow, Value.cells]

/-- make -/
def madeL (z : List Value) (m : Nat) : List Value := (List.range m).map fun i => (z[i % z.length]?).getD default
theorem L.make {e sz by_ d : Nat} {z : List Value} {kl kc : IntKind} {len cap : Int} [ht : TSlice P t e sz by_] [hz' : TZero P e z] (hx : evalE env x = some (.int kl len)) (hy : evalE env y = some (.int kc cap))
    (hb : 0 ≤ len ∧ len ≤ cap ∧ (by_ : Int) * cap ≤ 140737488355328 ∧ cap ≤ 9223372036854775807) (hd : Nat.blt d n = true)
    (next : ∀ b, L P Q n k ops l ((d, .slice (some ⟨b, 0, none⟩) len.toNat cap.toNat) :: env) (.cells b e (madeL z (cap.toNat * sz)) :: H)) :
    L P Q n k ops (⟨some d, .makeSlice t x y, ty, pos, after, none⟩ :: l) env H := by
  refine L.e (post := fun u H' => ∃ b, u = .slice (some ⟨b, 0, none⟩) len.toNat cap.toNat ∧ H' = .cells b e (madeL z (cap.toNat * sz)) :: H) ?_ hd (fun _ _ ⟨b, e1, e2⟩ => e1 ▸ e2 ▸ next b)
  intro w hs ρ ha d pos after g
  obtain ⟨hu, hsz, _⟩ := ht.out
  have hz := hz'.out
  cases hi : P.info? e with
  | none => rw [hi] at hz; cases hz
  | some inf =>
    rw [hi] at hz hsz
    have hm' : inf.size = sz ∧ inf.bytes = by_ := by simpa using hsz
    simp only [Option.bind_some] at hz
    cases hz0 : inf.zero with
    | none => rw [hz0] at hz; cases hz
    | some v0 =>
      rw [hz0] at hz
      have hz1 : v0.cells.toList = z := by simpa using hz
      have hz2 : v0.cells = z.toArray := by rw [← hz1]
      have h := run_make (P := P) (w := w) t e inf v0 hu hi hz0 kl kc len cap hb.1 hb.2.1 (by rw [hm'.2]; omega) hb.2.2.2
      have hc : madeCells v0.cells (cap.toNat * inf.size) = (madeL z (cap.toNat * sz)).toArray := by
        apply Array.ext'
        simp only [madeCells, madeL, hz2, hm'.1]
        simp only [Array.toList_map, Array.toList_range, List.size_toArray]
        apply List.map_congr_left
        intro i _
        show ((z.toArray)[i % z.length]!) = _
        rw [Array.getElem!_eq_getD]
        simp [Array.getD_eq_getD_getElem?]
      rw [hc] at h
      refine ⟨_, _, w.alloc (.cells (madeL z (cap.toNat * sz)).toArray e), .value (.slice (some ⟨w.heap.size, 0, none⟩) len.toNat cap.toNat), ?_, .inl rfl, sat_alloc hs e _, ⟨_, rfl, rfl⟩⟩
      simp [execOp, ha _ _ hx, ha _ _ hy, h]

theorem madeL_replicate (m : Nat) (z : Value) (sz : Nat) (h : 0 < sz) : madeL (List.replicate sz z) m = List.replicate m z := by
  apply List.ext_getElem?
  intro i
  simp only [madeL, List.getElem?_map, List.getElem?_replicate, List.length_replicate]
  by_cases hi : i < m
  · simp [hi, Nat.mod_lt _ h]
  · simp [hi]
theorem L.makeR {e sz by_ d : Nat} {z0 : Value} {kl kc : IntKind} {len cap : Int} {jl jc m : Nat} [hjl : IntNat len jl] [hjc : IntNat cap jc] [hm : NMul jc sz m] [ht : TSlice P t e sz by_] [hz' : TZero P e (List.replicate sz z0)] (hx : evalE env x = some (.int kl len)) (hy : evalE env y = some (.int kc cap))
    (hb : 0 ≤ len ∧ len ≤ cap ∧ (by_ : Int) * cap ≤ 140737488355328 ∧ cap ≤ 9223372036854775807) (hd : Nat.blt d n = true)
    (next : ∀ b, L P Q n k ops l ((d, .slice (some ⟨b, 0, none⟩) jl jc) :: env) (.cells b e (List.replicate m z0) :: H)) :
    L P Q n k ops (⟨some d, .makeSlice t x y, ty, pos, after, none⟩ :: l) env H :=
  L.make hx hy hb hd (fun b => by rw [madeL_replicate _ _ _ ht.out.2.2, hjl.out, hjc.out, hm.out]; exact next b)

theorem madeL_one (m : Nat) (z : Value) : madeL [z] m = List.replicate m z := madeL_replicate m z 1 (by decide)

theorem L.make1 {e sz by_ d : Nat} {z0 : Value} {kl kc : IntKind} {len cap : Int} {jl jc m : Nat} [hjl : IntNat len jl] [hjc : IntNat cap jc] [hm : NMul jc sz m] [ht : TSlice P t e sz by_] [hz' : TZero P e [z0]] (hx : evalE env x = some (.int kl len)) (hy : evalE env y = some (.int kc cap))
    (hb : 0 ≤ len ∧ len ≤ cap ∧ (by_ : Int) * cap ≤ 140737488355328 ∧ cap ≤ 9223372036854775807) (hd : Nat.blt d n = true)
    (next : ∀ b, L P Q n k ops l ((d, .slice (some ⟨b, 0, none⟩) jl jc) :: env) (.cells b e (List.replicate m z0) :: H)) :
    L P Q n k ops (⟨some d, .makeSlice t x y, ty, pos, after, none⟩ :: l) env H :=
  L.make hx hy hb hd (fun b => by rw [madeL_one, hjl.out, hjc.out, hm.out]; exact next b)

/-- slices of slices -/
def offS (cap l o m : Nat) : Nat := if cap = l then o else o + m
theorem offS_lt {cap l o m : Nat} (h : l < cap) : offS cap l o m = o + m := by unfold offS; rw [if_neg (by omega)]

theorem o_slAll {e sz by_ len cap : Nat} {a : Option Addr} [ht : TSlice P t e sz by_] (hx : evalE env x = some (.slice a len cap)) : Pure P (.slice t x none none none) ty env H (.slice a len cap) := fun w _ ρ ha _ _ _ _ => by
  obtain ⟨hu, hsz, _⟩ := ht.out
  cases hi : P.info? e with
  | none => rw [hi] at hsz; cases hsz
  | some inf =>
    have hadd : ∀ a : Option Addr, Option.map (fun x => x.add 0) a = a := fun a => by cases a <;> simp [Addr.add]
    simp [execOp, ha _ _ hx, Instr.sliceAt, run_underlying hu, Instr.slice, Instr.sliceBounds, sizeOf, typeInfo, hi, hadd]
theorem o_slHi {e sz by_ len cap j : Nat} {a : Option Addr} {kk : IntKind} {i : Int} [ht : TSlice P t e sz by_] (hx : evalE env x = some (.slice a len cap)) (hy : evalE env y = some (.int kk i)) (hi : 0 ≤ i ∧ i ≤ cap) [hj : IntNat i j] :
    Pure P (.slice t x none (some y) none) ty env H (.slice a j cap) := fun w _ ρ ha _ _ _ _ => by
  obtain ⟨hu, hsz, _⟩ := ht.out
  cases hi' : P.info? e with
  | none => rw [hi'] at hsz; cases hsz
  | some inf =>
    have hadd : ∀ a : Option Addr, Option.map (fun x => x.add 0) a = a := fun a => by cases a <;> simp [Addr.add]
    simp [execOp, ha _ _ hx, ha _ _ hy, Instr.sliceAt, run_underlying hu, Instr.slice, Instr.sliceBounds, Instr.sliceBound, asIntOf, hi, sizeOf, typeInfo, hi', hadd, hj.out]
theorem o_slLo {e sz by_ len cap j m : Nat} {kk : IntKind} {i : Int} [ht : TSlice P t e sz by_] (hx : evalE env x = some (.slice (some ⟨b, o, none⟩) len cap)) (hy : evalE env y = some (.int kk i)) (hi : 0 ≤ i ∧ i ≤ len) [hj : IntNat i j] [hm : NMul j sz m] :
    Pure P (.slice t x (some y) none none) ty env H (.slice (some ⟨b, offS cap j o m, none⟩) (len - j) (cap - j)) := fun w _ ρ ha _ _ _ _ => by
  obtain ⟨hu, hsz, _⟩ := ht.out
  cases hi' : P.info? e with
  | none => rw [hi'] at hsz; cases hsz
  | some inf =>
    rw [hi'] at hsz
    have hm' : inf.size = sz ∧ inf.bytes = by_ := by simpa using hsz
    simp only [execOp, ha _ _ hx, ha _ _ hy, Instr.sliceAt, Option.map_some, Option.map_none]
    simp [run_underlying hu, Instr.slice, Instr.sliceBounds, Instr.sliceBound, asIntOf, hi, sizeOf, typeInfo, hi', hj.out, hm'.1, hm.out, add_off, offS]
    split <;> simp
theorem o_slBoth {e sz by_ len cap j j2 m : Nat} {kk kk2 : IntKind} {i i2 : Int} {z : Operand} [ht : TSlice P t e sz by_] (hx : evalE env x = some (.slice (some ⟨b, o, none⟩) len cap)) (hy : evalE env y = some (.int kk i)) (hz : evalE env z = some (.int kk2 i2))
    (hi : 0 ≤ i ∧ i ≤ i2 ∧ i2 ≤ cap) [hj : IntNat i j] [hj2 : IntNat i2 j2] [hm : NMul j sz m] :
    Pure P (.slice t x (some y) (some z) none) ty env H (.slice (some ⟨b, offS cap j o m, none⟩) (j2 - j) (cap - j)) := fun w _ ρ ha _ _ _ _ => by
  obtain ⟨hu, hsz, _⟩ := ht.out
  cases hi' : P.info? e with
  | none => rw [hi'] at hsz; cases hsz
  | some inf =>
    rw [hi'] at hsz
    have hm' : inf.size = sz ∧ inf.bytes = by_ := by simpa using hsz
    have h2 : 0 ≤ i2 := by omega
    have h3 : i ≤ (i2.toNat : Int) := by omega
    simp only [execOp, ha _ _ hx, ha _ _ hy, ha _ _ hz, Instr.sliceAt, Option.map_some, Option.map_none]
    rw [hj2.out] at h3
    simp [run_underlying hu, Instr.slice, Instr.sliceBounds, Instr.sliceBound, asIntOf, hi.1, hi.2.2, h2, h3, sizeOf, typeInfo, hi', hj.out, hj2.out, hm'.1, hm.out, add_off, offS]
    split <;> simp

/-- slices of an array behind a pointer -/
theorem o_arAll {len e sz : Nat} [ht : TArr P t len e sz] (hx : evalE env x = some (.pointer (some ⟨b, o, none⟩))) : Pure P (.slice t x none none none) ty env H (.slice (some ⟨b, o, none⟩) len len) := fun w _ ρ ha _ _ _ _ => by
  obtain ⟨hu, hsz, h2, _⟩ := ht.out
  cases hi : P.info? e with
  | none => rw [hi] at hsz; cases hsz
  | some inf =>
    simp [execOp, ha _ _ hx, Instr.sliceAt, run_underlying hu, Instr.sureAddr, Instr.sliceBounds, sizeOf, typeInfo, hi, Addr.add]
theorem o_arLo {len e sz j m : Nat} {kk : IntKind} {i : Int} [ht : TArr P t len e sz] (hx : evalE env x = some (.pointer (some ⟨b, o, none⟩))) (hy : evalE env y = some (.int kk i)) (hi : 0 ≤ i ∧ i ≤ len) [hj : IntNat i j] [hm : NMul j sz m] :
    Pure P (.slice t x (some y) none none) ty env H (.slice (some ⟨b, offS len j o m, none⟩) (len - j) (len - j)) := fun w _ ρ ha _ _ _ _ => by
  obtain ⟨hu, hsz, h2, _⟩ := ht.out
  cases hi' : P.info? e with
  | none => rw [hi'] at hsz; cases hsz
  | some inf =>
    rw [hi'] at hsz
    have hm' : inf.size = sz := by simpa using hsz
    simp only [execOp, ha _ _ hx, ha _ _ hy, Instr.sliceAt, Option.map_some, Option.map_none]
    simp [run_underlying hu, Instr.sureAddr, Instr.sliceBounds, Instr.sliceBound, asIntOf, hi, sizeOf, typeInfo, hi', hj.out, hm', hm.out, add_off, offS]
    split <;> simp

/-! returns -/
def resV (tmps : Array Value) : ResultVar → Sem Value
  | .tmp t => pure (tmps.getD t undef)
  | .cell a t => do loadVar t (← asAddr (tmps.getD a undef))
theorem results_resV (fn : Func) (tmps : Array Value) : results fn tmps = (do
    let vs ← fn.results.mapM (resV tmps)
    pure (if h : vs.size = 1 then vs[0] else .tuple vs)) := rfl
def RV (P : Program) (n : Nat) (env : Env) (H : List Atom) (r : ResultVar) (v : Value) : Prop :=
  ∀ a w, Fits n env a → Sat w H → (resV a.tmps r).run P w = .ok v w
theorem RV.tmp {t : Nat} (h : look env t = some v) : RV P n env H (.tmp t) v := fun a w ha _ => by simp only [resV, ha.get t v h, Sem.run_pure]
theorem RV.cell {p : Nat} [ht : TCell P t] (h : look env p = some (.pointer (some ⟨b, o, none⟩))) [hh : Has H b (.cells b T cs) put] (hv : cs[o]? = some v) : RV P n env H (.cell p t) v := fun a w ha hs => by
  have h1 := run_loadVar_cell (P := P) (t := t) (w := w) (a := ⟨b, o, none⟩) (v := v) (by rw [hs.cell hh.mem, hv])
  simp only [resV, ha.get p _ h, asAddr, Sem.run_bind, Sem.run_pure, Result.andThen_ok, h1]
theorem RV.cellN {p m : Nat} [ht : TAgg P t m] (h : look env p = some (.pointer (some ⟨b, o, none⟩))) [hh : Has H b (.cells b T cs) put] (hl : o + m ≤ cs.length) : RV P n env H (.cell p t) (.agg ((cs.drop o).take m).toArray) := fun a w ha hs => by
  have h1 := run_loadVar_agg (P := P) (t := t) hs.toSatH hh.mem hl
  simp only [resV, ha.get p _ h, asAddr, Sem.run_bind, Sem.run_pure, Result.andThen_ok, h1]

variable {fn : Func} {R : Ending → World → Prop} {r1 r2 r3 : ResultVar} {v1 v2 v3 : Value}
def Fin (P : Program) (fn : Func) (n : Nat) (env : Env) (H : List Atom) (v : Value) : Prop := ∀ a w, Fits n env a → Sat w H → (results fn a.tmps).run P w = .ok v w
theorem Fin.zero (h : fn.results = #[]) : Fin P fn n env H (.tuple #[]) := fun a w _ _ => by simp [results, h]
theorem Fin.one (h : fn.results = #[r1]) (h1 : RV P n env H r1 v1) : Fin P fn n env H v1 := fun a w ha hs => by
  have e1 := h1 a w ha hs
  rw [results_resV, h]
  simp [e1]
theorem Fin.two (h : fn.results = #[r1, r2]) (h1 : RV P n env H r1 v1) (h2 : RV P n env H r2 v2) : Fin P fn n env H (.tuple #[v1, v2]) := fun a w ha hs => by
  have e1 := h1 a w ha hs
  have e2 := h2 a w ha hs
  rw [results_resV, h]
  simp [e1, e2]
theorem Fin.three (h : fn.results = #[r1, r2, r3]) (h1 : RV P n env H r1 v1) (h2 : RV P n env H r2 v2) (h3 : RV P n env H r3 v3) : Fin P fn n env H (.tuple #[v1, v2, v3]) := fun a w ha hs => by
  have e1 := h1 a w ha hs
  have e2 := h2 a w ha hs
  have e3 := h3 a w ha hs
  rw [results_resV, h]
  simp [e1, e2, e3]

theorem S.fin (h : Fin P fn n env H v) (hR : ∀ w, Sat w H → R (.returned v) w) : S P (bodyPost P fn R) n (.code .ret :: k) env H :=
  S.ret fun a w ha hs => bodyPost_ret (h a w ha hs) ha.defers (hR w hs)
theorem S.end (h : Fin P fn n env H v) (hR : ∀ w, Sat w H → R (.returned v) w) : S P (bodyPost P fn R) n [] env H :=
  S.nil fun a w ha hs => bodyPost_end (h a w ha hs) ha.defers (hR w hs)

/-! the way in -/
def envFrom : Nat → List Value → Env
  | _, [] => []
  | i, v :: r => (i, v) :: envFrom (i + 1) r
theorem look_envFrom : ∀ (vs : List Value) (i t : Nat) (v : Value), look (envFrom i vs) t = some v → i ≤ t ∧ vs[t - i]? = some v
  | [], _, _, _, h => by cases h
  | u :: r, i, t, v, h => by
    simp only [envFrom, look] at h
    cases hb : Nat.beq i t with
    | true =>
      rw [hb] at h
      have := Nat.eq_of_beq_eq_true hb
      subst this
      simp only [cond_true, Option.some.injEq] at h
      subst h
      simp
    | false =>
      rw [hb] at h
      obtain ⟨h1, h2⟩ := look_envFrom r (i + 1) t v h
      refine ⟨by omega, ?_⟩
      rw [show t - i = (t - (i + 1)) + 1 by omega, List.getElem?_cons_succ]
      exact h2

theorem enter {f : FuncId} {args : List Value} {c : Code} {w : World} (hf : P.funcs[f]? = some fn) (hb : fn.body = some c) (hn : fn.ntmps = n) (hl : Nat.ble args.length n = true) (hs : Sat w H)
    (h : S P (bodyPost P fn R) n [.code c] (envFrom 0 args) H) : Calls P f args.toArray w R := by
  refine calls_of_wp hf hb ?_
  have hfit : Fits n (envFrom 0 args) { tmps := args.toArray ++ Array.replicate (fn.ntmps - args.toArray.size) undef, defers := [] } := by
    have hl' : args.length ≤ n := Nat.le_of_ble_eq_true hl
    refine ⟨by simp [hn]; omega, rfl, fun t v hv => ?_⟩
    obtain ⟨_, h2⟩ := look_envFrom args 0 t v hv
    simp only [Nat.sub_zero] at h2
    have hlt : t < args.length := (List.getElem?_eq_some_iff.1 h2).1
    rw [Array.getD_eq_getD_getElem?, Array.getElem?_append_left (by simpa using hlt)]
    simp [h2]
  exact Code.wp_mono (fun e a w q => by cases e <;> exact q) (h _ w hfit hs)
end
attribute [irreducible] Fin RV
end Go.Proofs.Ytlecgoebbjnnmaa
