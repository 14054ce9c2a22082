/- Bytes; memory that is only looked at; function values; more operations. -/
import Derived.Test.YtlecgoebbjnnmaaOps4
set_option linter.unusedVariables false
set_option linter.unusedSectionVars false
set_option linter.unusedSimpArgs false
namespace Go.Proofs.Ytlecgoebbjnnmaa
open Go
attribute [local semireducible] S L Pure Does Fin RV

def vb (x : UInt8) : Value := .int .u8 x.toNat
def vbs (l : List UInt8) : List Value := l.map vb
@[simp] theorem vbs_length (l : List UInt8) : (vbs l).length = l.length := by simp [vbs]
theorem vbs_append (l m : List UInt8) : vbs (l ++ m) = vbs l ++ vbs m := by simp [vbs]
theorem vbs_take (l : List UInt8) (k : Nat) : (vbs l).take k = vbs (l.take k) := by simp [vbs, List.map_take]
theorem vbs_drop (l : List UInt8) (k : Nat) : (vbs l).drop k = vbs (l.drop k) := by simp [vbs, List.map_drop]
theorem vbs_one (l : List UInt8) : ∀ v ∈ vbs l, v.oneCell' = true := by
  intro v hv
  obtain ⟨x, _, rfl⟩ := List.mem_map.1 hv
  rfl
theorem vbs_get (l : List UInt8) (k : Nat) (h : k < l.length) : (vbs l)[k]? = some (vb l[k]) := by simp [vbs, h]
theorem vbs_inj {l m : List UInt8} (h : vbs l = vbs m) : l = m := by
  refine List.map_inj_right (f := vb) (fun x y hxy => ?_) |>.1 h
  simp only [vb, Value.int.injEq, true_and] at hxy
  exact UInt8.toNat_inj.1 (by omega)
theorem vbs_replicate (k : Nat) : vbs (List.replicate k 0) = List.replicate k (.int .u8 0) := by simp [vbs, vb]

/-- a list's part told anew -/
def setB (l : List UInt8) (o : Nat) (m : List UInt8) : List UInt8 := l.take o ++ m ++ l.drop (o + m.length)
theorem setAt_vbs (l m : List UInt8) (o : Nat) : setAt (vbs l) o (vbs m) = vbs (setB l o m) := by simp [setAt, setB, vbs_append, vbs_take, vbs_drop]
theorem setB_length {l m : List UInt8} {o : Nat} (h : o + m.length ≤ l.length) : (setB l o m).length = l.length := by simp [setB]; omega

/-- cells that are known, of whatever kind the atom is -/
def CellsAt (H : List Atom) (b : Nat) (cs : List Value) : Prop := (∃ T, Atom.cells b T cs ∈ H) ∨ (∃ T fr, Atom.raw b (.cells cs.toArray T fr) ∈ H)
theorem CellsAt.mono {H H' : List Atom} {b : Nat} {cs : List Value} (h : CellsAt H b cs) (hs : ∀ x ∈ H, x ∈ H') : CellsAt H' b cs := by
  rcases h with ⟨T, h⟩ | ⟨T, fr, h⟩
  · exact .inl ⟨T, hs _ h⟩
  · exact .inr ⟨T, fr, hs _ h⟩
theorem SatH.cellAt {w : World} {H : List Atom} {b : Nat} {cs : List Value} (hs : SatH w H) (h : CellsAt H b cs) (i : Nat) : w.cell? ⟨b, i, none⟩ = cs[i]? := by
  rcases h with ⟨T, h⟩ | ⟨T, fr, h⟩
  · exact hs.cell h i
  · have hh := hs.holds _ h
    simp only [Atom.holds] at hh
    simp [World.cell?, hh]

section
variable [Ref] {P : Program} {Q : Exit → Act → World → Prop} {n : Nat} {k : List K} {env : Env} {H : List Atom} {ops : Array Oper} {l : List Oper}
variable {ty t t' ty' : TypeId} {pos : String} {after : Array Edge} {x y : Operand} {v : Value} {b o : Nat} {T : TypeId} {cs : List Value} {put : Atom → List Atom}

theorem o_loadA [ht : TCell P t] (hx : evalE env x = some (.pointer (some ⟨b, o, none⟩))) (hh : CellsAt H b cs) (hv : cs[o]? = some v) :
    Pure P (.load t x) ty env H v := fun w hs ρ ha _ _ _ _ => by
  have h := run_loadVar_cell (P := P) (t := t) (w := w) (a := ⟨b, o, none⟩) (v := v) (by rw [hs.cellAt hh, hv])
  simp [execOp, ha _ _ hx, Instr.loadAt, Instr.sureAddr, h]
theorem run_loadCells_at {w : World} {m : Nat} (hs : SatH w H) (hh : CellsAt H b cs) (hl : o + m ≤ cs.length) : (loadCells ⟨b, o, none⟩ m).run P w = .ok ((cs.drop o).take m).toArray w := by
  have hlen : ((cs.drop o).take m).length = m := by simp; omega
  have hl := run_loadCells_list (P := P) w ⟨b, o, none⟩ ((cs.drop o).take m) (fun j v hv => by
    rw [add_off, hs.cellAt hh]
    rw [List.getElem?_take] at hv
    split at hv
    · rw [List.getElem?_drop] at hv; exact hv
    · cases hv)
  rwa [hlen] at hl
theorem o_loadNA {m : Nat} [ht : TAgg P t m] (hx : evalE env x = some (.pointer (some ⟨b, o, none⟩))) (hh : CellsAt H b cs) (hl : o + m ≤ cs.length) :
    Pure P (.load t x) ty env H (.agg ((cs.drop o).take m).toArray) := fun w hs ρ ha _ _ _ _ => by
  obtain ⟨d, hd, hagg, hsz⟩ := ht.out
  cases hi : P.info? t with
  | none => rw [hi] at hsz; cases hsz
  | some i =>
    rw [hi] at hsz
    have hm' : i.size = m := by simpa using hsz
    have h := run_loadCells_at (P := P) hs hh hl
    simp [execOp, ha _ _ hx, Instr.loadAt, Instr.sureAddr, loadVar, run_isAgg hd, hagg, sizeOf, typeInfo, hi, hm', h]
theorem Src.at {sz m len cap : Nat} (hh : CellsAt H b cs) (hl : o + m * sz ≤ cs.length) : Src P H sz m (.slice (some ⟨b, o, none⟩) len cap) ((cs.drop o).take (m * sz)) := fun w hs => by
  simp only [Builtin.firstCells]
  exact run_loadCells_at hs hh hl
theorem Src.congr {sz m : Nat} {x : Value} {news news' : List Value} (h : Src P H sz m x news) (e : news = news') : Src P H sz m x news' := e ▸ h

/-- a slice of bytes that can be read -/
inductive BytesIn (H : List Atom) : Value → List UInt8 → Prop
  | none {a : Option Addr} {cap : Nat} : BytesIn H (.slice a 0 cap) []
  | mk {b o len cap : Nat} {cs : List Value} {bs : List UInt8} (hl : bs.length = len) (hc : len ≤ cap) (hh : CellsAt H b cs) (ho : o + len ≤ cs.length) (he : (cs.drop o).take len = vbs bs) : BytesIn H (.slice (some ⟨b, o, none⟩) len cap) bs
theorem BytesIn.mono {H H' : List Atom} {v : Value} {bs : List UInt8} (h : BytesIn H v bs) (hs : ∀ x ∈ H, x ∈ H') : BytesIn H' v bs := by
  cases h with
  | none => exact .none
  | mk hl hc hh ho he => exact .mk hl hc (hh.mono hs) ho he
theorem BytesIn.len {v : Value} {bs : List UInt8} (h : BytesIn H v bs) : ∃ a cap, v = .slice a bs.length cap := by
  cases h with
  | none => exact ⟨_, _, rfl⟩
  | mk hl => exact ⟨_, _, by rw [hl]⟩
theorem BytesIn.src {v : Value} {bs : List UInt8} (h : BytesIn H v bs) {m : Nat} (hm : m ≤ bs.length) : Src P H 1 m v (vbs (bs.take m)) := by
  cases h with
  | none =>
    have : m = 0 := by simpa using hm
    subst this
    exact Src.zero
  | mk hl hc hh ho he =>
    refine (Src.at (m := m) hh (by omega)).congr ?_
    rw [Nat.mul_one, ← vbs_take, ← he, List.take_take, Nat.min_eq_left (by omega)]
theorem BytesIn.one {bs : List UInt8} {H : List Atom} {b T len : Nat} {extra : List Value} (hm : Atom.cells b T (vbs bs ++ extra) ∈ H) (hc : bs.length ≤ len) : BytesIn H (.slice (some ⟨b, 0, Option.none⟩) bs.length len) bs :=
  .mk (o := 0) (cs := vbs bs ++ extra) rfl hc (.inl ⟨T, hm⟩) (by simp) (by rw [List.drop_zero]; exact List.take_left' (by simp))
theorem Own.bytes {e : Nat} {v : Value} {bs : List UInt8} {A H : List Atom} (h : Own e 1 v (vbs bs) A) (hs : ∀ x ∈ A, x ∈ H) : BytesIn H v bs := by
  generalize hq : vbs bs = q at h
  cases h with
  | nil =>
    have : bs = [] := by simpa [vbs] using hq
    subst this; exact .none
  | @mk b len cap _ extra hx hc h1 =>
    subst hq
    simp only [vbs_length, Nat.mul_one] at hx
    subst hx
    exact .one (T := e) (extra := extra) (hs _ (by simp)) h1

/-- a function value called -/
theorem hc_val {g : FuncId} {fn : Func} {xs : List Operand} {args cap : List Value} {ats : Array TypeId} {f : Operand} (hf : P.funcs[g]? = some fn) (hname : fn.name ≠ "runtime.NumGoroutine") (hbody : fn.body.isNone = false)
    (h0 : evalE env f = some (.func (.func g) #[] cap.toArray)) (hx : evalsE env xs = some args) :
    ∀ ρ, Agrees env ρ → ∀ w, (do let d ← resolve ρ ⟨.value f, xs.toArray, ats⟩ ty; invoke d.target d.args).run P w = .ok (.enter g (args ++ cap).toArray) w := by
  intro ρ ha w
  have h0' := ha _ _ h0
  have h1 := evals_map ha hx
  have h2 : xs.toArray.map ρ = args.toArray := by simp [h1]
  have hb' : fn.body ≠ none := by intro e; rw [e] at hbody; cases hbody
  simp [resolve, h0', h2, Deferred.ofValue, invoke, callFunc, hf, hname, hb']

theorem o_func {g : FuncId} {xs : List Operand} {cap : List Value} (hx : evalsE env xs = some cap) : Pure P (.makeFunc (.func g) #[] xs.toArray) ty env H (.func (.func g) #[] cap.toArray) := fun w _ ρ ha _ _ _ _ => by
  have h1 := evals_map ha hx
  have h2 : xs.toArray.map ρ = cap.toArray := by simp [h1]
  simp [execOp, Instr.makeFunc, h2]

theorem o_max {t1 t2 : TypeId} {kk : IntKind} {p q : Int} (hx : evalE env x = some (.int kk p)) (hy : evalE env y = some (.int kk q)) : Pure P (.call ⟨.builtin .max, #[x, y], #[t1, t2]⟩) ty env H (.int kk (max p q)) := fun w _ ρ ha _ _ _ _ => by
  simp [execOp, resolve, ha _ _ hx, ha _ _ hy, invoke, builtin, Builtin.max_, Builtin.max2]
  omega
theorem o_min {t1 t2 : TypeId} {kk : IntKind} {p q : Int} (hx : evalE env x = some (.int kk p)) (hy : evalE env y = some (.int kk q)) : Pure P (.call ⟨.builtin .min, #[x, y], #[t1, t2]⟩) ty env H (.int kk (min p q)) := fun w _ ρ ha _ _ _ _ => by
  simp [execOp, resolve, ha _ _ hx, ha _ _ hy, invoke, builtin, Builtin.min_, Builtin.min2]
  omega

theorem o_loadE {m : Nat} {vs : List Value} [ht : TAgg P t m] (hx : evalE env x = some (.pointer (some ⟨b, o, none⟩))) [hh : Has H b (.cells b T cs) put] (hl : o + m ≤ cs.length) (he : (cs.drop o).take m = vs) :
    Pure P (.load t x) ty env H (.agg vs.toArray) := he ▸ o_loadN hx hl
theorem L.storeE {m : Nat} {vs cs' : List Value} [ht : TAgg P t m] (hx : evalE env x = some (.pointer (some ⟨b, o, none⟩))) (hy : evalE env y = some (.agg vs.toArray)) [hh : Has H b (.cells b T cs) put] (hm : vs.length = m) (ho : o + m ≤ cs.length)
    (hv : ∀ v ∈ vs, v.oneCell' = true) (he : setAt cs o vs = cs') (next : L P Q n k ops l env (put (.cells b T cs'))) : L P Q n k ops (⟨none, .store t x y, ty, pos, after, none⟩ :: l) env H :=
  L.storeN hx hy hm ho hv (he ▸ next)
theorem setAt_all {cs vs : List Value} (h : cs.length = vs.length) : setAt cs 0 vs = vs := by simp [setAt, List.drop_of_length_le (Nat.le_of_eq h)]
/-- the whole block told anew -/
theorem L.storeW {m : Nat} {vs : List Value} [ht : TAgg P t m] (hx : evalE env x = some (.pointer (some ⟨b, 0, none⟩))) (hy : evalE env y = some (.agg vs.toArray)) [hh : Has H b (.cells b T cs) put] (hm : vs.length = m) (hc : cs.length = m)
    (hv : ∀ v ∈ vs, v.oneCell' = true) (next : L P Q n k ops l env (put (.cells b T vs))) : L P Q n k ops (⟨none, .store t x y, ty, pos, after, none⟩ :: l) env H :=
  L.storeE hx hy hm (by omega) hv (setAt_all (by omega)) next
theorem L.copyE {e sz by_ d len cap m : Nat} {xv : Value} {news cs' : List Value} [ht : TSlice P t e sz by_] (hx : evalE env x = some (.slice (some ⟨b, o, none⟩) len cap)) (hy : evalE env y = some xv)
    [hh : Has H b (.cells b T cs) put] (hlen : ∀ w, (Builtin.lenOf xv).run P w = .ok m w) (hsrc : Src P H sz (min m len) xv news) (hnl : news.length = min m len * sz) (h1 : ∀ v ∈ news, v.oneCell' = true)
    (ho : o + min m len * sz ≤ cs.length) (he : setAt cs o news = cs') (hd : Nat.blt d n = true)
    (next : L P Q n k ops l ((d, .int .i64 (min m len : Nat)) :: env) (put (.cells b T cs'))) :
    L P Q n k ops (⟨some d, .call ⟨.builtin .copy, #[x, y], #[t, t']⟩, ty, pos, after, none⟩ :: l) env H :=
  L.copy hx hy hlen hsrc hnl h1 ho hd (he ▸ next)

theorem Own.src {e sz m : Nat} {v : Value} {xs : List Value} {A : List Atom} (h : Own e sz v xs A) (hA : ∀ x ∈ A, x ∈ H) (hm : xs.length = m * sz) (h0 : 0 < sz) : Src P H sz m v xs := by
  cases h with
  | nil =>
    have : m = 0 := by
      rcases Nat.eq_zero_or_pos m with h | h
      · exact h
      · have := Nat.mul_pos h h0; simp at hm; omega
    subst this; exact Src.zero
  | @mk b len cap _ extra hx hc h1 =>
    refine (Src.slice (T := e) (cs := xs ++ extra) (hA _ (by simp)) (by simp; omega)).congr ?_
    rw [List.drop_zero, ← hm, List.take_left]
end
end Go.Proofs.Ytlecgoebbjnnmaa
