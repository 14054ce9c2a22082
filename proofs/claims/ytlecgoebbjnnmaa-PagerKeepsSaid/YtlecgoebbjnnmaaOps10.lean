/- Strings. -/
import Derived.Test.YtlecgoebbjnnmaaOps9
import Derived.Laws.BytesString
import Derived.Laws.Strings
set_option linter.unusedVariables false
set_option linter.unusedSectionVars false
set_option linter.unusedSimpArgs false
namespace Go.Proofs.Ytlecgoebbjnnmaa
open Go
attribute [local semireducible] S L Pure Does Fin RV Ql B Br BH BrH

/-- a text's value -/
def strV (l : List UInt8) : Value := .string ⟨l.toArray⟩
instance {l : List UInt8} : OneC (strV l) := ⟨rfl⟩
theorem strV_one (l : List UInt8) : (strV l).oneCell' = true := rfl
theorem strV_inj {l m : List UInt8} (h : strV l = strV m) : l = m := by
  simp only [strV, Value.string.injEq, ByteArray.mk.injEq] at h
  simpa using h

theorem push_fold : ∀ (l : List UInt8) (s : ByteArray), (l.map fun b => (b.toNat : Int)).foldl (fun r n => r.push (UInt8.ofNat n.toNat)) s = ⟨s.data ++ l.toArray⟩
  | [], s => by simp
  | b :: l, s => by
    simp only [List.map_cons, List.foldl_cons]
    rw [push_fold l]
    have : UInt8.ofNat ((b.toNat : Int)).toNat = b := by simp
    rw [this]
    apply ByteArray.ext
    simp [ByteArray.push]

section
variable [Ref] {P : Program} {Q : Exit → Act → World → Prop} {n : Nat} {k : List K} {env : Env} {H : List Atom} {ops : Array Oper} {l : List Oper}
variable {ty t t' ty' : TypeId} {pos : String} {after : Array Edge} {x y : Operand} {v : Value} {b o : Nat} {T : TypeId} {cs : List Value} {put : Atom → List Atom}

theorem o_b2s {e by_ : Nat} {bs : List UInt8} [ht : TSlice P t e 1 by_] [he : TInt P e .u8] [hs : TStr P t'] (hx : evalE env x = some v) (hb : BytesIn H v bs) : Pure P (.convert t t' x) ty env H (strV bs) := fun w hw ρ ha _ _ _ _ => by
  obtain ⟨hu, _, _⟩ := ht.out
  have key : (Conv.bytesToString v).run P w = .ok (strV bs) w := by
    cases hb with
    | none =>
      rename_i a cap
      cases a with
      | none => rfl
      | some a =>
        have h := run_bytesToString (P := P) w a 0 cap [] (by simp [loadCells, loadCellsFrom])
        exact h
    | @mk b o len cap cs bs hl hc hh ho he' =>
      have hl2 := run_loadCells_at (P := P) hw hh (o := o) (m := len) ho
      rw [he'] at hl2
      have h := run_bytesToString (P := P) w ⟨b, o, none⟩ len cap (bs.map fun b => (b.toNat : Int)) (by rw [hl2]; simp [vbs, vb])
      rw [h, push_fold]
      simp [strV, ByteArray.empty, ByteArray.emptyWithCapacity]
      rfl
  obtain ⟨a, cap, rfl⟩ := hb.len
  have e1 := ha _ _ hx
  simp only [execOp, e1, convert, Sem.run_bind, run_underlying hu, run_underlying hs.out, run_underlying he.out, Result.andThen_ok, key]
  rfl

theorem toList_mk' (l : List UInt8) : (ByteArray.mk l.toArray).toList = l := ByteArray.toList_mk l
theorem o_strEq {p q : List UInt8} [hs : TStr P t] (hx : evalE env x = some (strV p)) (hy : evalE env y = some (strV q)) : Pure P (.binOp .eql t x y ty') ty env H (.bool (decide (p = q))) := fun w _ ρ ha _ _ _ _ => by
  have e1 := ha _ _ hx
  have e2 := ha _ _ hy
  simp only [strV] at e1 e2
  simp [execOp, e1, e2, eqGuard, binOp, Op.stringOp, run_underlying hs.out]
  rw [Bool.eq_iff_iff]; simp
theorem o_strNe {p q : List UInt8} [hs : TStr P t] (hx : evalE env x = some (strV p)) (hy : evalE env y = some (strV q)) : Pure P (.binOp .neq t x y ty') ty env H (.bool (decide (p ≠ q))) := fun w _ ρ ha _ _ _ _ => by
  have e1 := ha _ _ hx
  have e2 := ha _ _ hy
  simp only [strV] at e1 e2
  simp [execOp, e1, e2, eqGuard, binOp, Op.stringOp, run_underlying hs.out]
  rw [Bool.eq_iff_iff]; simp
end
end Go.Proofs.Ytlecgoebbjnnmaa
