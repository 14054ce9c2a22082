/- Bits and bytes: the unsigned kinds. -/
import Derived.Test.YtlecgoebbjnnmaaOps6
set_option linter.unusedVariables false
set_option linter.unusedSectionVars false
set_option linter.unusedSimpArgs false
namespace Go.Proofs.Ytlecgoebbjnnmaa
open Go
attribute [local semireducible] S L Pure Does Fin RV Ql

def v32 (x : BitVec 32) : Value := .int .u32 (x.toNat : Int)

section
variable [Ref] {P : Program} {Q : Exit → Act → World → Prop} {n : Nat} {k : List K} {env : Env} {H : List Atom} {ops : Array Oper} {l : List Oper}
variable {ty t t' ty' : TypeId} {pos : String} {after : Array Edge} {x y : Operand} {v : Value} {b o : Nat} {T : TypeId} {cs : List Value} {put : Atom → List Atom} {op : Op}

theorem ofInt32 (a : BitVec 32) : BitVec.ofInt 32 (a.toNat : Int) = a := by
  apply BitVec.eq_of_toNat_eq
  simp
theorem ofInt64 {a : Nat} (h : a < 18446744073709551616) : (BitVec.ofInt 64 (a : Int)).toNat = a := by
  simp; omega
theorem wrap32 (a : BitVec 32) : IntKind.u32.wrap (a.toNat : Int) = (a.toNat : Int) := by
  have := a.isLt
  simp only [IntKind.wrap, IntKind.bits, IntKind.signed, Bool.false_and, Bool.false_eq_true, if_false]
  omega
theorem wrap64u {a : Nat} (h : a < 18446744073709551616) : IntKind.u64.wrap (a : Int) = (a : Int) := by
  simp only [IntKind.wrap, IntKind.bits, IntKind.signed, Bool.false_and, Bool.false_eq_true, if_false]
  omega
theorem wrap_u8 (a : Nat) : IntKind.u8.wrap (a : Int) = ((a % 256 : Nat) : Int) := by
  simp only [IntKind.wrap, IntKind.bits, IntKind.signed, Bool.false_and, Bool.false_eq_true, if_false]
  omega

theorem o_xor32 {p q : BitVec 32} (hx : evalE env x = some (v32 p)) (hy : evalE env y = some (v32 q)) : Pure P (.binOp .xor t x y ty') ty env H (v32 (p ^^^ q)) := fun w _ ρ ha _ _ _ _ => by
  have e1 := ha _ _ hx
  have e2 := ha _ _ hy
  simp only [v32] at e1 e2 ⊢
  simp only [execOp, e1, e2, eqGuard, binOp, Op.intBits, IntKind.bits, ofInt32, wrap32]
  rfl
theorem o_and32 {p q : BitVec 32} (hx : evalE env x = some (v32 p)) (hy : evalE env y = some (v32 q)) : Pure P (.binOp .and t x y ty') ty env H (v32 (p &&& q)) := fun w _ ρ ha _ _ _ _ => by
  have e1 := ha _ _ hx
  have e2 := ha _ _ hy
  simp only [v32] at e1 e2 ⊢
  simp only [execOp, e1, e2, eqGuard, binOp, Op.intBits, IntKind.bits, ofInt32, wrap32]
  rfl
theorem o_not32 {p : BitVec 32} (hx : evalE env x = some (v32 p)) : Pure P (.unOp .xor t x) ty env H (v32 (~~~p)) := fun w _ ρ ha _ _ _ _ => by
  have e1 := ha _ _ hx
  simp only [v32] at e1 ⊢
  have hm : BitVec.ofInt 32 (IntKind.max .u32) = BitVec.allOnes 32 := by decide
  have hx2 : BitVec.allOnes 32 ^^^ p = ~~~ p := BitVec.allOnes_xor
  simp only [execOp, e1, Op.unary, Op.intBits, IntKind.bits, IntKind.signed, Bool.false_eq_true, if_false, ofInt32, hm]
  show Result.ok (Next.value (Value.int .u32 (IntKind.u32.wrap ((BitVec.allOnes 32 ^^^ p).toNat : Int)))) w = _
  rw [hx2, wrap32]
theorem o_shr32 {p : BitVec 32} {kk : IntKind} {j : Nat} {q : Int} (hx : evalE env x = some (v32 p)) (hy : evalE env y = some (.int kk q)) (hq : q = (j : Int)) (hj : j ≤ 32) : Pure P (.binOp .shr t x y ty') ty env H (v32 (p >>> j)) := fun w _ ρ ha _ _ _ _ => by
  have e1 := ha _ _ hx
  have e2 := ha _ _ hy
  subst hq
  simp only [v32] at e1 ⊢
  have h0 : ¬ ((j : Int) < 0) := by omega
  have h1 : min (j : Int).toNat 32 = j := by simp; omega
  simp only [execOp, e1, e2, eqGuard, binOp, Op.shift, IntKind.bits, h0, if_false, h1]
  have h2 : (0 : Int) ≤ 2 ^ j := by have := Int.natCast_nonneg (2 ^ j); simpa using this
  simp [Nat.shiftRight_eq_div_pow, Int.fdiv_eq_ediv_of_nonneg _ h2]
theorem o_u8to32 {p : UInt8} [ht : TInt P t' .u32] {d : TypeDesc} (hd : P.underlying t = some d) (hx : evalE env x = some (vb p)) : Pure P (.convert t t' x) ty env H (v32 (BitVec.ofNat 32 p.toNat)) := fun w _ ρ ha _ _ _ _ => by
  have e1 := ha _ _ hx
  have := p.toNat_lt
  simp only [vb, v32] at e1 ⊢
  simp [execOp, e1, convert, run_underlying hd, run_underlying ht.out, Conv.intToInt, IntKind.wrap, IntKind.bits, IntKind.signed]
  omega
/-- a conversion between kinds of integers -/
theorem o_conv {kk k2 : IntKind} {p r : Int} [ht : TInt P t' kk] [ht2 : TInt P t k2] (hx : evalE env x = some (.int k2 p)) (he : kk.wrap p = r) : Pure P (.convert t t' x) ty env H (.int kk r) := fun w _ ρ ha _ _ _ _ => by
  subst he
  simp [execOp, ha _ _ hx, convert, run_underlying ht2.out, run_underlying ht.out, Conv.intToInt]
theorem o_shr64 {kk : IntKind} {a j : Nat} {q : Int} (hx : evalE env x = some (.int .u64 (a : Int))) (hy : evalE env y = some (.int kk q)) (hq : q = (j : Int)) (hj : j ≤ 64) : Pure P (.binOp .shr t x y ty') ty env H (.int .u64 ((a / 2 ^ j : Nat) : Int)) := fun w _ ρ ha _ _ _ _ => by
  have e1 := ha _ _ hx
  have e2 := ha _ _ hy
  subst hq
  have h0 : ¬ ((j : Int) < 0) := by omega
  have h1 : min (j : Int).toNat 64 = j := by simp; omega
  simp only [execOp, e1, e2, eqGuard, binOp, Op.shift, IntKind.bits, h0, if_false, h1]
  have h2 : (0 : Int) ≤ 2 ^ j := by have := Int.natCast_nonneg (2 ^ j); simpa using this
  simp [Int.fdiv_eq_ediv_of_nonneg _ h2]
theorem o_shl64 {kk : IntKind} {a j : Nat} {q : Int} (hx : evalE env x = some (.int .u64 (a : Int))) (hy : evalE env y = some (.int kk q)) (hq : q = (j : Int)) (hj : j ≤ 64) (hb : a * 2 ^ j < 18446744073709551616) : Pure P (.binOp .shl t x y ty') ty env H (.int .u64 ((a * 2 ^ j : Nat) : Int)) := fun w _ ρ ha _ _ _ _ => by
  have e1 := ha _ _ hx
  have e2 := ha _ _ hy
  subst hq
  have h0 : ¬ ((j : Int) < 0) := by omega
  have h1 : min (j : Int).toNat 64 = j := by simp; omega
  have h2 := wrap64u hb
  simp only [execOp, e1, e2, eqGuard, binOp, Op.shift, IntKind.bits, h0, if_false, h1]
  have h3 : ((a : Int) * 2 ^ j) = ((a * 2 ^ j : Nat) : Int) := by simp
  rw [h3, h2]
  simp
theorem o_or64 {a c : Nat} (hx : evalE env x = some (.int .u64 (a : Int))) (hy : evalE env y = some (.int .u64 (c : Int))) (ha' : a < 18446744073709551616) (hc : c < 18446744073709551616) : Pure P (.binOp .or t x y ty') ty env H (.int .u64 ((a ||| c : Nat) : Int)) := fun w _ ρ ha _ _ _ _ => by
  have e1 := ha _ _ hx
  have e2 := ha _ _ hy
  have hlt : a ||| c < 2 ^ 64 := Nat.or_lt_two_pow (by omega) (by omega)
  have h2 := wrap64u (a := a ||| c) (by omega)
  simp only [execOp, e1, e2, eqGuard, binOp, Op.intBits, IntKind.bits]
  have h3 : (BitVec.ofInt 64 (a : Int) ||| BitVec.ofInt 64 (c : Int)).toNat = (a ||| c) := by rw [BitVec.toNat_or, ofInt64 ha', ofInt64 hc]
  show Result.ok (Next.value (Value.int .u64 (IntKind.u64.wrap ((BitVec.ofInt 64 (a : Int) ||| BitVec.ofInt 64 (c : Int)).toNat : Int)))) w = _
  rw [h3, h2]
end

/-- the bytes of a number, the highest first -/
def beB : Nat → Nat → List UInt8
  | 0, _ => []
  | m + 1, n => beB m (n / 256) ++ [UInt8.ofNat n]
@[simp] theorem beB_length : ∀ m n, (beB m n).length = m
  | 0, _ => rfl
  | m + 1, n => by simp [beB, beB_length m]
/-- the number that bytes are -/
def beN (l : List UInt8) : Nat := l.foldl (fun n c => n * 256 + c.toNat) 0
theorem beN_snoc (l : List UInt8) (c : UInt8) : beN (l ++ [c]) = beN l * 256 + c.toNat := by simp [beN]
theorem beN_beB : ∀ m n, n < 256 ^ m → beN (beB m n) = n
  | 0, n, h => by simp at h; subst h; rfl
  | m + 1, n, h => by
    have h1 : n / 256 < 256 ^ m := by
      rw [Nat.div_lt_iff_lt_mul (by decide)]; rw [Nat.pow_succ] at h; exact h
    rw [beB, beN_snoc, beN_beB m _ h1]
    simp; omega
theorem beN_lt : ∀ l : List UInt8, beN l < 256 ^ l.length := by
  intro l
  generalize hn : l.length = n
  induction n generalizing l with
  | zero => rw [List.eq_nil_of_length_eq_zero hn]; simp [beN]
  | succ n ih =>
    have hsp : l = l.take n ++ [l[n]] := by
      have h1 : l.take (n + 1) = l := List.take_of_length_le (by omega)
      rw [List.take_succ_eq_append_getElem (by omega)] at h1
      exact h1.symm
    rw [hsp, beN_snoc, Nat.pow_succ]
    have := ih (l.take n) (by simp; omega)
    have h2 := (l[n]).toNat_lt
    omega
theorem beB_beN : ∀ (m : Nat) (l : List UInt8), l.length = m → beB m (beN l) = l
  | 0, l, h => by rw [List.eq_nil_of_length_eq_zero h]; rfl
  | m + 1, l, h => by
    have hsp : l = l.take m ++ [l[m]] := by
      have h1 : l.take (m + 1) = l := List.take_of_length_le (by omega)
      rw [List.take_succ_eq_append_getElem (by omega)] at h1
      exact h1.symm
    rw [hsp, beN_snoc, beB]
    have h2 := (l[m]).toNat_lt
    have e1 : (beN (l.take m) * 256 + (l[m]).toNat) / 256 = beN (l.take m) := by omega
    rw [e1, beB_beN m _ (by simp; omega)]
    congr 2
    apply UInt8.toNat_inj.1
    simp
    try omega
end Go.Proofs.Ytlecgoebbjnnmaa
