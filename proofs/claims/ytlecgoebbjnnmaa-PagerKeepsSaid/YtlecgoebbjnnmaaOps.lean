/- The rules of single operations, over the frame of Core. -/
import Derived.Test.YtlecgoebbjnnmaaCore
namespace Go.Proofs.Ytlecgoebbjnnmaa
open Go
set_option linter.unusedVariables false
set_option linter.unusedSectionVars false
set_option linter.unusedSimpArgs false
attribute [local semireducible] S L

/-! ## Types -/
def aggD : TypeDesc → Bool
  | .struct _ => true
  | .array _ _ => true
  | _ => false

class TCell (P : Program) (t : TypeId) : Prop where
  out : ∃ d, P.underlying t = some d ∧ aggD d = false ∧ (P.info? t).map (·.size) = some 1
class TAgg (P : Program) (t : TypeId) (m : outParam Nat) : Prop where
  out : ∃ d, P.underlying t = some d ∧ aggD d = true ∧ (P.info? t).map (·.size) = some m
class TZero (P : Program) (t : TypeId) (z : outParam (List Value)) : Prop where
  out : (P.info? t).bind (fun i => i.zero.map (·.cells.toList)) = some z
class TSlice (P : Program) (t : TypeId) (e sz by_ : outParam Nat) : Prop where
  out : P.underlying t = some (.slice e) ∧ (P.info? e).map (fun i => (i.size, i.bytes)) = some (sz, by_) ∧ 0 < sz
class TArr (P : Program) (t : TypeId) (len e sz : outParam Nat) : Prop where
  out : P.underlying t = some (.array len e) ∧ (P.info? e).map (·.size) = some sz ∧ 2 ≤ len ∧ 0 < sz
class TField (P : Program) (s : TypeId) (f : Nat) (off : outParam Nat) : Prop where
  out : ∃ fs fd m, P.underlying s = some (.struct fs) ∧ fs[f]? = some fd ∧ fd.offset = off ∧ (P.info? fd.type).map (·.size) = some (m + 1)
class TPart (P : Program) (s : TypeId) (f : Nat) (ft off : outParam Nat) : Prop where
  out : ∃ fs fd, P.underlying s = some (.struct fs) ∧ fs[f]? = some fd ∧ fd.offset = off ∧ fd.type = ft
class TPtr (P : Program) (t : TypeId) : Prop where
  out : ∃ e, P.underlying t = some (.pointer e)
class TStr (P : Program) (t : TypeId) : Prop where
  out : P.underlying t = some .string
class TInt (P : Program) (t : TypeId) (k : outParam IntKind) : Prop where
  out : P.underlying t = some (.int k)

class NAdd (a b : Nat) (c : outParam Nat) : Prop where out : a + b = c
instance (priority := low) NAdd.any {a b : Nat} : NAdd a b (a + b) := ⟨rfl⟩
instance NAdd.zeroL {b : Nat} : NAdd 0 b b := ⟨Nat.zero_add b⟩
instance NAdd.zeroR {a : Nat} : NAdd a 0 a := ⟨rfl⟩
class NMul (a b : Nat) (c : outParam Nat) : Prop where out : a * b = c
instance (priority := low) NMul.any {a b : Nat} : NMul a b (a * b) := ⟨rfl⟩
instance NMul.one {a : Nat} : NMul a 1 a := ⟨Nat.mul_one a⟩
instance NMul.zero {b : Nat} : NMul 0 b 0 := ⟨Nat.zero_mul b⟩
class IntNat (i : Int) (k : outParam Nat) : Prop where out : i.toNat = k
class IntIs (i : Int) (k : outParam Nat) : Prop where out : i = (k : Int)
instance IntIs.cast {k : Nat} : IntIs (k : Int) k := ⟨rfl⟩
instance IntIs.add {i j : Int} {a b : Nat} [h1 : IntIs i a] [h2 : IntIs j b] : IntIs (i + j) (a + b) := ⟨by rw [h1.out, h2.out]; rfl⟩
instance IntIs.mul {i j : Int} {a b : Nat} [h1 : IntIs i a] [h2 : IntIs j b] : IntIs (i * j) (a * b) := ⟨by rw [h1.out, h2.out]; rfl⟩
instance (priority := low) IntNat.any {i : Int} : IntNat i i.toNat := ⟨rfl⟩
instance IntNat.ofIs {i : Int} {k : Nat} [h : IntIs i k] : IntNat i k := ⟨by rw [h.out]; exact Int.toNat_natCast k⟩
instance IntNat.cast {k : Nat} : IntNat (k : Int) k := ⟨Int.toNat_natCast k⟩

/-! ## What an operation does -/
def Agrees (env : Env) (ρ : Operand → Value) : Prop := ∀ x v, evalE env x = some v → ρ x = v
theorem Fits.agrees {n : Nat} {env : Env} {a : Act} (h : Fits n env a) : Agrees env a.eval := fun _ _ hx => h.eval hx

/-- it looks into memory at most, and yields 'v' -/
def Pure (P : Program) (op : Op) (ty : TypeId) (env : Env) (H : List Atom) (v : Value) : Prop :=
  ∀ w, SatH w H → ∀ ρ, Agrees env ρ → ∀ d pos after g, (execOp ρ ⟨d, op, ty, pos, after, g⟩).run P w = .ok (.value v) w

/-- it yields a value, or nothing, and leaves atoms of which 'post' is told -/
def Does [Ref] (P : Program) (op : Op) (ty : TypeId) (env : Env) (H : List Atom) (post : Value → List Atom → Prop) : Prop :=
  ∀ w, Sat w H → ∀ ρ, Agrees env ρ → ∀ d pos after g, ∃ v H' w' nx, (execOp ρ ⟨d, op, ty, pos, after, g⟩).run P w = .ok nx w' ∧ (nx = .value v ∨ (nx = .skip ∧ v = undef)) ∧ Sat w' H' ∧ post v H'

section steps
variable [Ref] {P : Program} {Q : Exit → Act → World → Prop} {n : Nat} {k : List K} {env : Env} {H : List Atom} {ops : Array Oper} {l : List Oper}
variable {op : Op} {ty : TypeId} {pos : String} {after : Array Edge}

theorem wpList_value {o : Oper} {a : Act} {w w' : World} {v : Value} {nx : Next} {Q' : Exit → Act → World → Prop} (hg : o.guard = none) (hr : (execOp a.eval o).run P w = .ok nx w') (hv : nx = .value v ∨ (nx = .skip ∧ v = undef))
    (h : wpList P ops Q' l (a.put o.dst v) w') : wpList P ops Q' (o :: l) a w := by
  refine wpList_plain hg fun K hK => ?_
  unfold Oper.wp
  rw [hr]
  rcases hv with rfl | ⟨rfl, rfl⟩
  · rw [Oper.upon_value]; exact hK _ _ h
  · rw [Oper.upon_skip]; exact hK _ _ h

theorem L.p {v : Value} {d : Nat} (h : Pure P op ty env H v) (hd : Nat.blt d n = true) (next : L P Q n k ops l ((d, v) :: env) H) :
    L P Q n k ops (⟨some d, op, ty, pos, after, none⟩ :: l) env H := fun a w ha hs =>
  wpList_value rfl (h w hs.toSatH _ ha.agrees _ _ _ _) (.inl rfl) (next _ _ (ha.put (d := some d) hd v) hs)

theorem L.e {post : Value → List Atom → Prop} {d : Nat} (h : Does P op ty env H post) (hd : Nat.blt d n = true) (next : ∀ v H', post v H' → L P Q n k ops l ((d, v) :: env) H') :
    L P Q n k ops (⟨some d, op, ty, pos, after, none⟩ :: l) env H := fun a w ha hs => by
  obtain ⟨v, H', w', nx, hr, hnx, hs', hp⟩ := h w hs _ ha.agrees (some d) pos after none
  exact wpList_value rfl hr hnx (next v H' hp _ _ (ha.put (d := some d) hd v) hs')

theorem L.s {post : Value → List Atom → Prop} (h : Does P op ty env H post) (next : ∀ v H', post v H' → L P Q n k ops l env H') :
    L P Q n k ops (⟨none, op, ty, pos, after, none⟩ :: l) env H := fun a w ha hs => by
  obtain ⟨v, H', w', nx, hr, hnx, hs', hp⟩ := h w hs _ ha.agrees none pos after none
  exact wpList_value rfl hr hnx (next v H' hp _ _ ha hs')

/-- guards -/
theorem yielded_look {j t : Nat} {b : Bool} {a : Act} (hj : (ops[j]?).bind (·.dst) = some t) (ht : look env t = some (.bool b)) (hn : Nat.blt t n = true) (ha : Fits n env a) : yielded ops a.tmps j = some b := by
  have h := ha.get t _ ht
  have hlt : t < a.tmps.size := by rw [ha.size]; simpa using hn
  unfold yielded
  rw [hj]
  simp only [Option.bind_some]
  rw [Array.getD_eq_getD_getElem?] at h
  rw [Array.getElem?_eq_getElem hlt] at h ⊢
  simp only [Option.getD_some] at h
  rw [h]

theorem L.gYes {j t : Nat} {b : Bool} {d : Option Nat} (hj : (ops[j]?).bind (·.dst) = some t) (hn : Nat.blt t n = true) (ht : look env t = some (.bool b))
    (next : L P Q n k ops (⟨d, op, ty, pos, after, none⟩ :: l) env H) : L P Q n k ops (⟨d, op, ty, pos, after, some (j, b)⟩ :: l) env H := fun a w ha hs => by
  have hy := yielded_look hj ht hn ha
  have h := next a w ha hs
  unfold wpList at h ⊢
  simp only [Region.wanted, hy, beq_self_eq_true, if_true] at h ⊢
  exact h
theorem L.gNo {j t : Nat} {b b' : Bool} {d : Nat} (hj : (ops[j]?).bind (·.dst) = some t) (hn : Nat.blt t n = true) (ht : look env t = some (.bool b)) (hb : (b == b') = false) (hd : Nat.blt d n = true)
    (next : L P Q n k ops l ((d, undef) :: env) H) : L P Q n k ops (⟨some d, op, ty, pos, after, some (j, b')⟩ :: l) env H := fun a w ha hs => by
  have hy := yielded_look hj ht hn ha
  have h := next _ w (ha.put (d := some d) hd undef) hs
  unfold wpList
  have hne : (some b == some b') = false := by simpa using hb
  simp only [Region.wanted, hy, hne, Bool.false_eq_true, if_false]
  exact h
/-- a bool in a slot is decided -/
theorem L.split {p : Prop} [Decidable p] (t : Nat) (ht : look env t = some (.bool (decide p))) (h1 : p → L P Q n k ops l ((t, .bool true) :: env) H) (h2 : ¬ p → L P Q n k ops l ((t, .bool false) :: env) H) :
    L P Q n k ops l env H := fun a w ha hs => by
  have key : ∀ b, decide p = b → Fits n ((t, .bool b) :: env) a := fun b e => ⟨ha.size, ha.defers, fun u v hu => by
    simp only [look] at hu
    cases hb : Nat.beq t u with
    | true =>
      rw [hb] at hu
      have := Nat.eq_of_beq_eq_true hb
      subst this
      simp only [cond_true, Option.some.injEq] at hu
      subst hu
      rw [← e]; exact ha.get t _ ht
    | false => rw [hb] at hu; exact ha.get u v hu⟩
  by_cases hp : p
  · exact h1 hp a w (key true (by simp [hp])) hs
  · exact h2 hp a w (key false (by simp [hp])) hs
theorem L.splitB {b : Bool} (t : Nat) (ht : look env t = some (.bool b)) (h1 : b = true → L P Q n k ops l ((t, .bool true) :: env) H) (h2 : b = false → L P Q n k ops l ((t, .bool false) :: env) H) :
    L P Q n k ops l env H := by
  have e : look env t = some (.bool (decide (b = true))) := by rw [ht]; cases b <;> rfl
  exact L.split t e h1 (fun h => h2 (by simpa using h))

/-- a call -/
theorem L.call {g : FuncId} {c : Call} {args : List Value} {d : Nat} {post : Value → List Atom → Prop}
    (hop : op = .call c) (hc : ∀ ρ, Agrees env ρ → ∀ w, (do let d ← resolve ρ c ty; invoke d.target d.args).run P w = .ok (.enter g args.toArray) w)
    (hd : Nat.blt d n = true)
    (h : ∀ w, Sat w H → Calls P g args.toArray w (fun e w' => ∃ v H', e = .returned v ∧ Sat w' H' ∧ post v H'))
    (next : ∀ v H', post v H' → L P Q n k ops l ((d, v) :: env) H') :
    L P Q n k ops (⟨some d, op, ty, pos, after, none⟩ :: l) env H := fun a w ha hs => by
  subst hop
  refine wpList_plain rfl fun K hK => ?_
  unfold Oper.wp
  have hr : (execOp a.eval ⟨some d, .call c, ty, pos, after, none⟩).run P w = .ok (.enter g args.toArray) w := hc _ ha.agrees w
  rw [hr, Oper.upon_enter]
  refine (h w hs).mono fun e w' ⟨v, H', he, hs', hp⟩ => ?_
  subst he
  exact hK _ _ (next v H' hp _ _ (ha.put (d := some d) hd v) hs')
/-- a call, its post any -/
theorem L.callR {g : FuncId} {c : Call} {args : List Value} {d : Nat} {R' : Ending → World → Prop}
    (hop : op = .call c) (hc : ∀ ρ, Agrees env ρ → ∀ w, (do let d ← resolve ρ c ty; invoke d.target d.args).run P w = .ok (.enter g args.toArray) w)
    (hd : Nat.blt d n = true)
    (h : ∀ w, Sat w H → Calls P g args.toArray w R')
    (next : ∀ e w', R' e w' → ∃ v H', e = .returned v ∧ Sat w' H' ∧ L P Q n k ops l ((d, v) :: env) H') :
    L P Q n k ops (⟨some d, op, ty, pos, after, none⟩ :: l) env H := fun a w ha hs => by
  subst hop
  refine wpList_plain rfl fun K hK => ?_
  unfold Oper.wp
  have hr : (execOp a.eval ⟨some d, .call c, ty, pos, after, none⟩).run P w = .ok (.enter g args.toArray) w := hc _ ha.agrees w
  rw [hr, Oper.upon_enter]
  refine (h w hs).mono fun e w' hR => ?_
  obtain ⟨v, H', he, hs', hL⟩ := next e w' hR
  subst he
  exact hK _ _ (hL _ _ (ha.put (d := some d) hd v) hs')
end steps

/-! ## The rules -/
section
variable [Ref] {P : Program} {env : Env} {H : List Atom} {ty : TypeId} {x y : Operand} {v : Value} {t ty' : TypeId} {b o : Nat}

def evalsE (env : Env) : List Operand → Option (List Value)
  | [] => some []
  | x :: r => match evalE env x with
    | some v => match evalsE env r with
      | some vs => some (v :: vs)
      | none => none
    | none => none

theorem evals_map {env : Env} {ρ : Operand → Value} (ha : Agrees env ρ) : ∀ {xs : List Operand} {vs : List Value}, evalsE env xs = some vs → xs.map ρ = vs
  | [], vs, h => by cases h; rfl
  | x :: r, vs, h => by
    simp only [evalsE] at h
    cases hx : evalE env x with
    | none => rw [hx] at h; cases h
    | some v =>
      rw [hx] at h
      cases hr : evalsE env r with
      | none => rw [hr] at h; cases h
      | some us => rw [hr] at h; cases h; simp [ha _ _ hx, evals_map ha hr]

/-- a function of Go called by its name: which one is entered -/
theorem hc_func {g : FuncId} {fn : Func} {xs : List Operand} {args : List Value} {ats : Array TypeId} (hf : P.funcs[g]? = some fn) (hname : fn.name ≠ "runtime.NumGoroutine") (hbody : fn.body.isNone = false)
    (hx : evalsE env xs = some args) : ∀ ρ, Agrees env ρ → ∀ w, (do let d ← resolve ρ ⟨.value (.func g), xs.toArray, ats⟩ ty; invoke d.target d.args).run P w = .ok (.enter g args.toArray) w := by
  intro ρ ha w
  have h0 : ρ (.func g) = .func (.func g) #[] #[] := ha _ _ rfl
  have h1 := evals_map ha hx
  have h2 : xs.toArray.map ρ = args.toArray := by simp [h1]
  have hb' : fn.body ≠ none := by intro e; rw [e] at hbody; cases hbody
  simp [resolve, h0, h2, Deferred.ofValue, invoke, callFunc, hf, hname, hb']

theorem o_move (hx : evalE env x = some v) : Pure P (.move x) ty env H v := fun w _ ρ ha _ _ _ _ => by simp [execOp, ha _ _ hx]
theorem o_assign (hx : evalE env x = some v) : Pure P (.assign x) ty env H v := fun w _ ρ ha _ _ _ _ => by simp [execOp, ha _ _ hx]
theorem o_pickT {c : Operand} (hc : evalE env c = some (.bool true)) (hx : evalE env x = some v) : Pure P (.pick c x y) ty env H v := fun w _ ρ ha _ _ _ _ => by
  simp [execOp, ha _ _ hc, ha _ _ hx, asBool]
theorem o_pickF {c : Operand} (hc : evalE env c = some (.bool false)) (hy : evalE env y = some v) : Pure P (.pick c x y) ty env H v := fun w _ ρ ha _ _ _ _ => by
  simp [execOp, ha _ _ hc, ha _ _ hy, asBool]
theorem o_nil {a : Addr} (hx : evalE env x = some (.pointer (some a))) : Pure P (.nilCheck x) ty env H (.pointer (some a)) := fun w _ ρ ha _ _ _ _ => by
  simp [execOp, ha _ _ hx]
theorem o_nilFn {f : FuncId} {fs cap : Array Value} (hx : evalE env x = some (.func (.func f) fs cap)) : Pure P (.nilCheck x) ty env H (.func (.func f) fs cap) := fun w _ ρ ha _ _ _ _ => by
  simp [execOp, ha _ _ hx]

theorem add_off {b o m : Nat} : (⟨b, o, none⟩ : Addr).add m = ⟨b, o + m, none⟩ := by
  unfold Addr.add; split <;> simp_all

theorem o_fld {s : TypeId} {f off r : Nat} [hf : TField P s f off] (hx : evalE env x = some (.pointer (some ⟨b, o, none⟩))) [hr : NAdd o off r] : Pure P (.fieldAddr s x f) ty env H (.pointer (some ⟨b, r, none⟩)) := fun w _ ρ ha _ _ _ _ => by
  obtain ⟨fs, fd, m, hu, hfd, hoff, hsz⟩ := hf.out
  have h1 : (fieldPlace ⟨b, o, none⟩ fd).run P w = .ok ⟨b, r, none⟩ w := by
    cases hi : P.info? fd.type with
    | none => rw [hi] at hsz; cases hsz
    | some i =>
      rw [hi] at hsz
      have hsz : i.size = m + 1 := by simpa using hsz
      simp [fieldPlace, sizeOf, typeInfo, hi, hsz, add_off, hoff, hr.out]
  simp [execOp, ha _ _ hx, Instr.fieldAt, run_underlying hu, hfd, Instr.sureAddr, h1]

theorem run_isAgg {d : TypeDesc} (hu : P.underlying t = some d) (w : World) : (isAgg t).run P w = .ok (aggD d) w := by
  unfold isAgg
  rw [Sem.run_bind, run_underlying hu w]
  cases d <;> simp [aggD]

theorem o_part1 {s f ft off : Nat} {cs : List Value} [hf : TPart P s f ft off] [ht : TCell P ft] (hx : evalE env x = some (.agg cs.toArray)) (hv : cs[off]? = some v) : Pure P (.field s x f) ty env H v := fun w _ ρ ha _ _ _ _ => by
  obtain ⟨fs, fd, hu, hfd, hoff, hty⟩ := hf.out
  obtain ⟨d, hd, hagg, _⟩ := ht.out
  simp [execOp, ha _ _ hx, Instr.field, run_underlying hu, hfd, asAgg, part, hty, run_isAgg hd, hagg, hoff, hv]

theorem o_partN {s f ft off m : Nat} {cs : List Value} [hf : TPart P s f ft off] [ht : TAgg P ft m] (hx : evalE env x = some (.agg cs.toArray)) : Pure P (.field s x f) ty env H (.agg ((cs.drop off).take m).toArray) := fun w _ ρ ha _ _ _ _ => by
  obtain ⟨fs, fd, hu, hfd, hoff, hty⟩ := hf.out
  obtain ⟨d, hd, hagg, hsz⟩ := ht.out
  cases hi : P.info? ft with
  | none => rw [hi] at hsz; cases hsz
  | some i =>
    rw [hi] at hsz
    have hm : i.size = m := by simpa using hsz
    simp [execOp, ha _ _ hx, Instr.field, run_underlying hu, hfd, asAgg, part, hty, run_isAgg hd, hagg, hoff, sizeOf, typeInfo, hi, hm]

theorem run_loadVar_cell [ht : TCell P t] {w : World} {a : Addr} {v : Value} (hc : w.cell? a = some v) : (loadVar t a).run P w = .ok v w := by
  obtain ⟨d, hd, hagg, _⟩ := ht.out
  simp [loadVar, run_isAgg hd, hagg, hc]

theorem run_loadVar_agg {m : Nat} [ht : TAgg P t m] {w : World} {T : TypeId} {cs : List Value} (hs : SatH w H) (hm : Atom.cells b T cs ∈ H) (hl : o + m ≤ cs.length) :
    (loadVar t ⟨b, o, none⟩).run P w = .ok (.agg ((cs.drop o).take m).toArray) w := by
  obtain ⟨d, hd, hagg, hsz⟩ := ht.out
  cases hi : P.info? t with
  | none => rw [hi] at hsz; cases hsz
  | some i =>
    rw [hi] at hsz
    have hm' : i.size = m := by simpa using hsz
    have hlen : ((cs.drop o).take m).length = m := by simp; omega
    have hl := run_loadCells_list (P := P) w ⟨b, o, none⟩ ((cs.drop o).take m) (fun j v hv => by
      rw [add_off, hs.cell hm]
      rw [List.getElem?_take] at hv
      split at hv
      · rw [List.getElem?_drop] at hv; exact hv
      · cases hv)
    rw [hlen] at hl
    simp [loadVar, run_isAgg hd, hagg, sizeOf, typeInfo, hi, hm', hl]

theorem o_load {T : TypeId} {cs : List Value} {put : Atom → List Atom} [ht : TCell P t] (hx : evalE env x = some (.pointer (some ⟨b, o, none⟩))) [hh : Has H b (.cells b T cs) put] (hv : cs[o]? = some v) :
    Pure P (.load t x) ty env H v := fun w hs ρ ha _ _ _ _ => by
  have h := run_loadVar_cell (P := P) (t := t) (w := w) (a := ⟨b, o, none⟩) (v := v) (by rw [hs.cell hh.mem, hv])
  simp [execOp, ha _ _ hx, Instr.loadAt, Instr.sureAddr, h]
theorem o_loadM {T : TypeId} {cs : List Value} [ht : TCell P t] (hx : evalE env x = some (.pointer (some ⟨b, o, none⟩))) (hh : Atom.cells b T cs ∈ H) (hv : cs[o]? = some v) :
    Pure P (.load t x) ty env H v := fun w hs ρ ha _ _ _ _ => by
  have h := run_loadVar_cell (P := P) (t := t) (w := w) (a := ⟨b, o, none⟩) (v := v) (by rw [hs.cell hh, hv])
  simp [execOp, ha _ _ hx, Instr.loadAt, Instr.sureAddr, h]
theorem o_loadN {T : TypeId} {cs : List Value} {m : Nat} {put : Atom → List Atom} [ht : TAgg P t m] (hx : evalE env x = some (.pointer (some ⟨b, o, none⟩))) [hh : Has H b (.cells b T cs) put] (hl : o + m ≤ cs.length) :
    Pure P (.load t x) ty env H (.agg ((cs.drop o).take m).toArray) := fun w hs ρ ha _ _ _ _ => by
  have h := run_loadVar_agg (P := P) (t := t) hs hh.mem hl
  simp [execOp, ha _ _ hx, Instr.loadAt, Instr.sureAddr, h]

theorem o_idx {e sz by_ len cap m r j : Nat} {kk : IntKind} {i : Int} [ht : TSlice P t e sz by_] (hx : evalE env x = some (.slice (some ⟨b, o, none⟩) len cap)) (hy : evalE env y = some (.int kk i))
    (hi : 0 ≤ i ∧ i < len) [hj : IntNat i j] [hm : NMul j sz m] [hr : NAdd o m r] : Pure P (.indexAddr t x y) ty env H (.pointer (some ⟨b, r, none⟩)) := fun w _ ρ ha _ _ _ _ => by
  obtain ⟨hu, hsz, _⟩ := ht.out
  cases hi' : P.info? e with
  | none => rw [hi'] at hsz; cases hsz
  | some inf =>
    rw [hi'] at hsz
    have hm' : inf.size = sz ∧ inf.bytes = by_ := by simpa using hsz
    simp [execOp, ha _ _ hx, ha _ _ hy, Instr.indexAt, asIntOf, run_underlying hu, hi, sizeOf, typeInfo, hi', hm'.1, add_off, hj.out, hm.out, hr.out]

theorem o_idxA {len e sz m r j : Nat} {kk : IntKind} {i : Int} [ht : TArr P t len e sz] (hx : evalE env x = some (.pointer (some ⟨b, o, none⟩))) (hy : evalE env y = some (.int kk i))
    (hi : 0 ≤ i ∧ i < len) [hj : IntNat i j] [hm : NMul j sz m] [hr : NAdd o m r] : Pure P (.indexAddr t x y) ty env H (.pointer (some ⟨b, r, none⟩)) := fun w _ ρ ha _ _ _ _ => by
  obtain ⟨hu, hsz, _, _⟩ := ht.out
  cases hi' : P.info? e with
  | none => rw [hi'] at hsz; cases hsz
  | some inf =>
    rw [hi'] at hsz
    have hm' : inf.size = sz := by simpa using hsz
    simp [execOp, ha _ _ hx, ha _ _ hy, Instr.indexAt, asIntOf, run_underlying hu, Instr.sureAddr, hi, sizeOf, typeInfo, hi', hm', add_off, hj.out, hm.out, hr.out]

theorem o_lenS {t' : TypeId} {a : Option Addr} {len cap e sz by_ : Nat} [ht : TSlice P t' e sz by_] (hx : evalE env x = some (.slice a len cap)) :
    Pure P (.call ⟨.builtin .len, #[x], #[t']⟩) ty env H (.int .i64 len) := fun w _ ρ ha _ _ _ _ => by
  obtain ⟨hu, _⟩ := ht.out
  simp [execOp, ha _ _ hx, resolve, invoke, builtin, Builtin.len_, run_underlying hu, goInt]
theorem o_capS {t' : TypeId} {a : Option Addr} {len cap e sz by_ : Nat} [ht : TSlice P t' e sz by_] (hx : evalE env x = some (.slice a len cap)) :
    Pure P (.call ⟨.builtin .cap, #[x], #[t']⟩) ty env H (.int .i64 cap) := fun w _ ρ ha _ _ _ _ => by
  obtain ⟨hu, _⟩ := ht.out
  simp [execOp, ha _ _ hx, resolve, invoke, builtin, Builtin.cap_, run_underlying hu, goInt]
theorem o_lenStr {t' : TypeId} {s : ByteArray} [ht : TStr P t'] (hx : evalE env x = some (.string s)) :
    Pure P (.call ⟨.builtin .len, #[x], #[t']⟩) ty env H (.int .i64 s.size) := fun w _ ρ ha _ _ _ _ => by
  have hu := ht.out
  simp [execOp, ha _ _ hx, resolve, invoke, builtin, Builtin.len_, run_underlying hu, goInt]

/-- sums that stay within an int -/
def I64 (z : Int) : Prop := -9223372036854775808 ≤ z ∧ z ≤ 9223372036854775807
theorem wrap_i64 {z : Int} (h : I64 z) : IntKind.i64.wrap z = z := IntWalk.i64_in z h

section bin
variable {kk : IntKind} {p q : Int} (hx : evalE env x = some (.int kk p)) (hy : evalE env y = some (.int kk q))
include hx hy
theorem o_addW : Pure P (.binOp .add t x y ty') ty env H (.int kk (kk.wrap (p + q))) := fun w _ ρ ha _ _ _ _ => by
  simp [execOp, ha _ _ hx, ha _ _ hy, eqGuard, binOp, Op.intArith]
theorem o_subW : Pure P (.binOp .sub t x y ty') ty env H (.int kk (kk.wrap (p - q))) := fun w _ ρ ha _ _ _ _ => by
  simp [execOp, ha _ _ hx, ha _ _ hy, eqGuard, binOp, Op.intArith]
theorem o_mulW : Pure P (.binOp .mul t x y ty') ty env H (.int kk (kk.wrap (p * q))) := fun w _ ρ ha _ _ _ _ => by
  simp [execOp, ha _ _ hx, ha _ _ hy, eqGuard, binOp, Op.intArith]
theorem o_lt : Pure P (.binOp .lss t x y ty') ty env H (.bool (decide (p < q))) := fun w _ ρ ha _ _ _ _ => by
  simp [execOp, ha _ _ hx, ha _ _ hy, eqGuard, binOp, Op.intCmp]
theorem o_le : Pure P (.binOp .leq t x y ty') ty env H (.bool (decide (p ≤ q))) := fun w _ ρ ha _ _ _ _ => by
  simp [execOp, ha _ _ hx, ha _ _ hy, eqGuard, binOp, Op.intCmp]
theorem o_gt : Pure P (.binOp .gtr t x y ty') ty env H (.bool (decide (q < p))) := fun w _ ρ ha _ _ _ _ => by
  simp [execOp, ha _ _ hx, ha _ _ hy, eqGuard, binOp, Op.intCmp]
theorem o_ge : Pure P (.binOp .geq t x y ty') ty env H (.bool (decide (q ≤ p))) := fun w _ ρ ha _ _ _ _ => by
  simp [execOp, ha _ _ hx, ha _ _ hy, eqGuard, binOp, Op.intCmp]
theorem o_eq : Pure P (.binOp .eql t x y ty') ty env H (.bool (decide (p = q))) := fun w _ ρ ha _ _ _ _ => by
  simp [execOp, ha _ _ hx, ha _ _ hy, eqGuard, binOp, Op.intCmp]
  rfl
theorem o_ne : Pure P (.binOp .neq t x y ty') ty env H (.bool (decide (¬ p = q))) := fun w _ ρ ha _ _ _ _ => by
  simp [execOp, ha _ _ hx, ha _ _ hy, eqGuard, binOp, Op.intCmp]
  by_cases e : p = q <;> simp [e]
end bin
theorem o_add {p q : Int} (hx : evalE env x = some (.int .i64 p)) (hy : evalE env y = some (.int .i64 q)) (h : I64 (p + q)) : Pure P (.binOp .add t x y ty') ty env H (.int .i64 (p + q)) := by
  have := o_addW (P := P) (t := t) (ty := ty) (ty' := ty') (H := H) hx hy
  rwa [wrap_i64 h] at this
theorem o_sub {p q : Int} (hx : evalE env x = some (.int .i64 p)) (hy : evalE env y = some (.int .i64 q)) (h : I64 (p - q)) : Pure P (.binOp .sub t x y ty') ty env H (.int .i64 (p - q)) := by
  have := o_subW (P := P) (t := t) (ty := ty) (ty' := ty') (H := H) hx hy
  rwa [wrap_i64 h] at this
theorem o_mul {p q : Int} (hx : evalE env x = some (.int .i64 p)) (hy : evalE env y = some (.int .i64 q)) (h : I64 (p * q)) : Pure P (.binOp .mul t x y ty') ty env H (.int .i64 (p * q)) := by
  have := o_mulW (P := P) (t := t) (ty := ty) (ty' := ty') (H := H) hx hy
  rwa [wrap_i64 h] at this

theorem o_notD {p : Prop} [Decidable p] (hx : evalE env x = some (.bool (decide p))) : Pure P (.unOp .not t x) ty env H (.bool (decide (¬ p))) := fun w _ ρ ha _ _ _ _ => by
  simp [execOp, ha _ _ hx, Op.unary]
theorem o_notT (hx : evalE env x = some (.bool true)) : Pure P (.unOp .not t x) ty env H (.bool false) := fun w _ ρ ha _ _ _ _ => by
  simp [execOp, ha _ _ hx, Op.unary]
theorem o_notF (hx : evalE env x = some (.bool false)) : Pure P (.unOp .not t x) ty env H (.bool true) := fun w _ ρ ha _ _ _ _ => by
  simp [execOp, ha _ _ hx, Op.unary]
theorem o_notB {b : Bool} (hx : evalE env x = some (.bool b)) : Pure P (.unOp .not t x) ty env H (.bool (!b)) := fun w _ ρ ha _ _ _ _ => by
  simp [execOp, ha _ _ hx, Op.unary]

theorem eqIn_ptr {d : Nat} {e : TypeId} {p q : Option Addr} (hu : P.underlying t = some (.pointer e)) (hn : p = none ∨ q = none) (w : World) :
    (Op.equalIn (d + 1) t (.pointer p) (.pointer q)).run P w = .ok (p.isNone && q.isNone) w := by
  rcases hn with rfl | rfl
  · simp [Op.equalIn, run_underlying hu]
  · cases p <;> simp [Op.equalIn, run_underlying hu]
theorem eq_ptr {e : TypeId} {p q : Option Addr} (hu : P.underlying t = some (.pointer e)) (hn : p = none ∨ q = none) (w : World) :
    (Op.equal t (.pointer p) (.pointer q)).run P w = .ok (p.isNone && q.isNone) w := eqIn_ptr (d := 9999) hu hn w
theorem o_ptrEq {p q : Option Addr} [ht : TPtr P t] (hx : evalE env x = some (.pointer p)) (hy : evalE env y = some (.pointer q)) (hn : p = none ∨ q = none) : Pure P (.binOp .eql t x y ty') ty env H (.bool (p.isNone && q.isNone)) := fun w _ ρ ha _ _ _ _ => by
  obtain ⟨e, hu⟩ := ht.out
  have h := eq_ptr hu hn w
  simp only [execOp, ha _ _ hx, ha _ _ hy, eqGuard]
  have hb : binOp .eql t (.pointer p) (.pointer q) = (do pure (.bool (← Op.equal t (.pointer p) (.pointer q)))) := by
    cases p <;> cases q <;> rfl
  rw [hb]
  simp [h]
theorem o_ptrNe {p q : Option Addr} [ht : TPtr P t] (hx : evalE env x = some (.pointer p)) (hy : evalE env y = some (.pointer q)) (hn : p = none ∨ q = none) : Pure P (.binOp .neq t x y ty') ty env H (.bool (!(p.isNone && q.isNone))) := fun w _ ρ ha _ _ _ _ => by
  obtain ⟨e, hu⟩ := ht.out
  have h := eq_ptr hu hn w
  simp only [execOp, ha _ _ hx, ha _ _ hy, eqGuard]
  have hb : binOp .neq t (.pointer p) (.pointer q) = (do pure (.bool (!(← Op.equal t (.pointer p) (.pointer q))))) := by
    cases p <;> cases q <;> rfl
  rw [hb]
  simp [h]
theorem o_ptrNil {a : Addr} [ht : TPtr P t] (hx : evalE env x = some (.pointer (some a))) (hy : evalE env y = some (.pointer none)) : Pure P (.binOp .eql t x y ty') ty env H (.bool false) := o_ptrEq hx hy (.inr rfl)
theorem o_nilNil [ht : TPtr P t] (hx : evalE env x = some (.pointer none)) (hy : evalE env y = some (.pointer none)) : Pure P (.binOp .eql t x y ty') ty env H (.bool true) := o_ptrEq hx hy (.inr rfl)
theorem o_ptrNilN {a : Addr} [ht : TPtr P t] (hx : evalE env x = some (.pointer (some a))) (hy : evalE env y = some (.pointer none)) : Pure P (.binOp .neq t x y ty') ty env H (.bool true) := o_ptrNe hx hy (.inr rfl)
theorem o_nilNilN [ht : TPtr P t] (hx : evalE env x = some (.pointer none)) (hy : evalE env y = some (.pointer none)) : Pure P (.binOp .neq t x y ty') ty env H (.bool false) := o_ptrNe hx hy (.inr rfl)

theorem o_ext {vs : List Value} {i : Nat} (hx : evalE env x = some (.tuple vs.toArray)) (hv : vs[i]? = some v) : Pure P (.extract x i) ty env H v := fun w _ ρ ha _ _ _ _ => by
  simp [execOp, ha _ _ hx, Instr.extract, hv]
end
attribute [irreducible] Pure Does
end Go.Proofs.Ytlecgoebbjnnmaa
