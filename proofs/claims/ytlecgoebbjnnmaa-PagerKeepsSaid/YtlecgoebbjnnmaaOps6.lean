/- Methods called through an interface; interface values; type assertions. -/
import Derived.Test.YtlecgoebbjnnmaaOps5
set_option linter.unusedVariables false
set_option linter.unusedSectionVars false
set_option linter.unusedSimpArgs false
namespace Go.Proofs.Ytlecgoebbjnnmaa
open Go
attribute [local semireducible] S L Pure Does Fin RV Ql

abbrev ptr (b : Nat) : Value := .pointer (some ⟨b, 0, none⟩)
theorem dec_congr {p q : Prop} [Decidable p] [Decidable q] (h : p ↔ q) : Value.bool (decide p) = Value.bool (decide q) := by simp [h]
theorem ret_congr {u v : Value} (h : u = v) : Ending.returned u = Ending.returned v := by rw [h]
theorem CellsAt.head {H : List Atom} {b T : Nat} {cs : List Value} (h : Atom.cells b T cs ∈ H) : CellsAt H b cs := .inl ⟨T, h⟩
theorem get_of_part {cs : List Value} {o len i : Nat} {l : List Value} (he : (cs.drop o).take len = l) (hi : i < len) : cs[o + i]? = l[i]? := by
  rw [← he, List.getElem?_take, if_pos hi, List.getElem?_drop]

def bls (l : List Bool) : List Value := l.map .bool
@[simp] theorem bls_length (l : List Bool) : (bls l).length = l.length := by simp [bls]
theorem bls_get {l : List Bool} {k : Nat} (h : k < l.length) : (bls l)[k]? = some (.bool (l.getD k false)) := by simp [bls, h]
theorem bls_set {l : List Bool} {k : Nat} {x : Bool} : (bls l).set k (.bool x) = bls (l.set k x) := by simp [bls, List.map_set]
theorem bls_replicate (k : Nat) : bls (List.replicate k false) = List.replicate k (.bool false) := by simp [bls]

/-- a slice of bools that can be read -/
inductive BoolsIn (H : List Atom) : Value → List Bool → Prop
  | none {a : Option Addr} {cap : Nat} : BoolsIn H (.slice a 0 cap) []
  | mk {b o len cap : Nat} {cs : List Value} {bs : List Bool} (hl : bs.length = len) (hc : len ≤ cap) (hh : CellsAt H b cs) (ho : o + len ≤ cs.length) (he : (cs.drop o).take len = bls bs) : BoolsIn H (.slice (some ⟨b, o, Option.none⟩) len cap) bs
theorem BoolsIn.mono {H H' : List Atom} {v : Value} {bs : List Bool} (h : BoolsIn H v bs) (hs : ∀ x ∈ H, x ∈ H') : BoolsIn H' v bs := by
  cases h with
  | none => exact .none
  | mk hl hc hh ho he => exact .mk hl hc (hh.mono hs) ho he

class TMeth (P : Program) (t : TypeId) (name : String) (g : outParam Nat) (pr : outParam Bool) : Prop where
  out : ((P.info? t).bind fun i => i.methods.find? (·.name == name)).map (fun m => (m.path, m.func)) = some (#[], some (g, pr))
class TPtrTo (P : Program) (t : TypeId) (e : outParam Nat) : Prop where
  out : P.underlying t = some (.pointer e)

section
variable [Ref] {P : Program} {Q : Exit → Act → World → Prop} {n : Nat} {k : List K} {env : Env} {H : List Atom} {ops : Array Oper} {l : List Oper}
variable {ty t t' ty' : TypeId} {pos : String} {after : Array Edge} {x y : Operand} {v : Value} {b o : Nat} {T : TypeId} {cs : List Value} {put : Atom → List Atom} {op : Op}

/-- a call, the operands' memory at hand -/
theorem L.callS {g : FuncId} {c : Call} {args : List Value} {d : Nat} {R' : Ending → World → Prop}
    (hop : op = .call c) (hc : ∀ w, Sat w H → ∀ ρ, Agrees env ρ → (do let d ← resolve ρ c ty; invoke d.target d.args).run P w = .ok (.enter g args.toArray) w)
    (hd : Nat.blt d n = true)
    (h : ∀ w, Sat w H → Calls P g args.toArray w R')
    (next : ∀ e w', R' e w' → ∃ v H', e = .returned v ∧ Sat w' H' ∧ L P Q n k ops l ((d, v) :: env) H') :
    L P Q n k ops (⟨some d, op, ty, pos, after, none⟩ :: l) env H := fun a w ha hs => by
  subst hop
  refine wpList_plain rfl fun K hK => ?_
  unfold Oper.wp
  have hr : (execOp a.eval ⟨some d, .call c, ty, pos, after, none⟩).run P w = .ok (.enter g args.toArray) w := hc w hs _ ha.agrees
  rw [hr, Oper.upon_enter]
  refine (h w hs).mono fun e w' hR => ?_
  obtain ⟨v, H', he, hs', hL⟩ := next e w' hR
  subst he
  exact hK _ _ (hL _ _ (ha.put (d := some d) hd v) hs')

theorem run_wrapNil {ts : Array TypeId} {t : TypeId} {a : Addr} {p q : ByteArray} (w : World) : (Builtin.ssaWrapNilChk_ ts t #[.pointer (some a), .string p, .string q]).run P w = .ok (.pointer (some a)) w := rfl
theorem run_method' (fuel : Nat) {name : String} {g : Nat} {pr : Bool} [hm : TMeth P t name g pr] {e : Nat} [hp : TPtrTo P t e] {a : Addr} {w : World} {u : Value}
    (hu : pr = true → u = .pointer (some a)) (hu' : pr = false → (loadVar e a).run P w = .ok u w) :
    (method (fuel + 1) t (.pointer (some a)) name).run P w = .ok (g, u) w := by
  have h0 := hm.out
  have hpo := hp.out
  cases hi : P.info? t with
  | none => rw [hi] at h0; cases h0
  | some i =>
    rw [hi] at h0
    simp only [Option.bind_some] at h0
    cases hf : i.methods.find? (·.name == name) with
    | none => rw [hf] at h0; cases h0
    | some m =>
      rw [hf] at h0
      have h1 : m.path = #[] ∧ m.func = some (g, pr) := by simpa using h0
      cases pr with
      | true =>
        have := hu rfl
        subst this
        simp [method, typeInfo, hi, hf, h1.1, h1.2, follow, receiverAt, run_underlying hpo, Place.get]
      | false =>
        have := hu' rfl
        simp [method, typeInfo, hi, hf, h1.1, h1.2, follow, receiverAt, run_underlying hpo, Place.get, run_wrapNil, strVal, asAddr, this]

theorem run_method {name : String} {g : Nat} {pr : Bool} [hm : TMeth P t name g pr] {e : Nat} [hp : TPtrTo P t e] {a : Addr} {w : World} {u : Value}
    (hu : pr = true → u = .pointer (some a)) (hu' : pr = false → (loadVar e a).run P w = .ok u w) :
    (method (P.types.size + Made.depth) t (.pointer (some a)) name).run P w = .ok (g, u) w := run_method' (P.types.size + 99) hu hu'

theorem hcs_ptr {name : String} {g e : Nat} {fn : Func} [hm : TMeth P t name g true] [hp : TPtrTo P t e] {a : Addr} {xs : List Operand} {args : List Value} {ats : Array TypeId} (hf : P.funcs[g]? = some fn) (hname : fn.name ≠ "runtime.NumGoroutine") (hbody : fn.body.isNone = false)
    (hr : evalE env x = some (.iface t (.pointer (some a)))) (hx : evalsE env xs = some args) :
    ∀ w, Sat w H → ∀ ρ, Agrees env ρ → (do let d ← resolve ρ ⟨.invoke x name, xs.toArray, ats⟩ ty; invoke d.target d.args).run P w = .ok (.enter g (.pointer (some a) :: args).toArray) w := by
  intro w hs ρ ha
  have h0 := ha _ _ hr
  have h1 := evals_map ha hx
  have hb' : fn.body ≠ none := by intro e; rw [e] at hbody; cases hbody
  have hmm := run_method (P := P) (t := t) (name := name) (a := a) (w := w) (u := .pointer (some a)) (fun _ => rfl) (fun h => by cases h)
  simp [resolve, h0, h1, invoke, callMethod, hmm, callFunc, hf, hname, hb']

theorem hcs_val {name : String} {g e : Nat} {fn : Func} [hm : TMeth P t name g false] [hp : TPtrTo P t e] [ht : TCell P e] {xs : List Operand} {args : List Value} {ats : Array TypeId} (hf : P.funcs[g]? = some fn) (hname : fn.name ≠ "runtime.NumGoroutine") (hbody : fn.body.isNone = false)
    (hr : evalE env x = some (.iface t (.pointer (some ⟨b, o, none⟩)))) (hx : evalsE env xs = some args) [hh : Has H b (.cells b T cs) put] (hv : cs[o]? = some v) :
    ∀ w, Sat w H → ∀ ρ, Agrees env ρ → (do let d ← resolve ρ ⟨.invoke x name, xs.toArray, ats⟩ ty; invoke d.target d.args).run P w = .ok (.enter g (v :: args).toArray) w := by
  intro w hs ρ ha
  have h0 := ha _ _ hr
  have h1 := evals_map ha hx
  have hb' : fn.body ≠ none := by intro e; rw [e] at hbody; cases hbody
  have hl := run_loadVar_cell (P := P) (t := e) (w := w) (a := ⟨b, o, none⟩) (v := v) (by rw [hs.cell hh.mem, hv])
  have hmm := run_method (P := P) (t := t) (name := name) (a := ⟨b, o, none⟩) (w := w) (u := v) (fun h => by cases h) (fun _ => hl)
  simp [resolve, h0, h1, invoke, callMethod, hmm, callFunc, hf, hname, hb']

theorem o_ifaceP {e : Nat} [hp : TPtrTo P t e] (hx : evalE env x = some v) : Pure P (.makeInterface t x) ty env H (.iface t v) := fun w _ ρ ha _ _ _ _ => by
  simp [execOp, ha _ _ hx, Instr.makeInterface, run_underlying hp.out]
theorem o_ifaceI {kk : IntKind} [hp : TInt P t kk] (hx : evalE env x = some v) : Pure P (.makeInterface t x) ty env H (.iface t v) := fun w _ ρ ha _ _ _ _ => by
  simp [execOp, ha _ _ hx, Instr.makeInterface, run_underlying hp.out]
theorem o_assertI {kk : IntKind} [hp : TInt P t' kk] (hx : evalE env x = some (.iface t' v)) : Pure P (.typeAssert x t t' false) ty env H v := fun w _ ρ ha _ _ _ _ => by
  simp [execOp, ha _ _ hx, Instr.typeAssert, run_underlying hp.out]
theorem o_quo {kk : IntKind} {p q : Int} (hx : evalE env x = some (.int kk p)) (hy : evalE env y = some (.int kk q)) (h0 : q ≠ 0) : Pure P (.binOp .quo t x y ty') ty env H (.int kk (kk.wrap (p.tdiv q))) := fun w _ ρ ha _ _ _ _ => by
  simp [execOp, ha _ _ hx, ha _ _ hy, eqGuard, binOp, Op.intDiv, h0]
theorem o_rem {kk : IntKind} {p q : Int} (hx : evalE env x = some (.int kk p)) (hy : evalE env y = some (.int kk q)) (h0 : q ≠ 0) : Pure P (.binOp .rem t x y ty') ty env H (.int kk (p.tmod q)) := fun w _ ρ ha _ _ _ _ => by
  simp [execOp, ha _ _ hx, ha _ _ hy, eqGuard, binOp, Op.intDiv, h0]
theorem o_quoE {kk : IntKind} {p q r : Int} (hx : evalE env x = some (.int kk p)) (hy : evalE env y = some (.int kk q)) (h0 : q ≠ 0) (he : kk.wrap (p.tdiv q) = r) : Pure P (.binOp .quo t x y ty') ty env H (.int kk r) := he ▸ o_quo hx hy h0
theorem o_subE {kk : IntKind} {p q r : Int} (hx : evalE env x = some (.int kk p)) (hy : evalE env y = some (.int kk q)) (he : kk.wrap (p - q) = r) : Pure P (.binOp .sub t x y ty') ty env H (.int kk r) := he ▸ o_subW hx hy
theorem o_addE {kk : IntKind} {p q r : Int} (hx : evalE env x = some (.int kk p)) (hy : evalE env y = some (.int kk q)) (he : kk.wrap (p + q) = r) : Pure P (.binOp .add t x y ty') ty env H (.int kk r) := he ▸ o_addW hx hy
theorem tdiv2 {p : Int} (h : -1 ≤ p ∧ p ≤ 9223372036854775807) : IntKind.i64.wrap (p.tdiv 2) = ((p.toNat / 2 : Nat) : Int) := by
  rcases h with ⟨h1, h2⟩
  by_cases h0 : p = -1
  · subst h0; rfl
  · obtain ⟨k, rfl⟩ : ∃ k : Nat, p = k := ⟨p.toNat, by omega⟩
    have : Int.tdiv (k : Int) 2 = ((k / 2 : Nat) : Int) := rfl
    rw [this, wrap_i64 (by unfold I64; omega)]
    simp
end
end Go.Proofs.Ytlecgoebbjnnmaa
