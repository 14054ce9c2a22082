/- Acts: what they are, and what they do to a pager. -/
import Derived.Test.YtlecgoebbjnnmaaLaw2
set_option linter.unusedVariables false
set_option linter.unusedSimpArgs false
set_option linter.unusedSectionVars false
set_option linter.constructorNameAsVariable false
set_option maxRecDepth 100000
set_option maxHeartbeats 4000000
namespace Go.Proofs.Ytlecgoebbjnnmaa
open Go
variable [Ref]

structure ActM where
  kind : Int
  n : Int
  m : Int
  b : List UInt8
  short : Bool
  l : List Int
  keep : List Bool

inductive ActCells (H : List Atom) : ActM → List Value → Prop
  | mk {kind n m : Int} {b : List UInt8} {short : Bool} {l : List Int} {keep : List Bool} {vb vl vk : Value} (hb : BytesIn H vb b) (hl : IntsIn H l vl) (hk : BoolsIn H vk keep) (hi : -9223372036854775808 ≤ n ∧ n ≤ 9223372036854775807) :
    ActCells H ⟨kind, n, m, b, short, l, keep⟩ [.int .i64 kind, .int .i64 n, .int .i64 m, vb, .bool short, vl, vk]
theorem ActCells.mono {H H' : List Atom} {a : ActM} {cs : List Value} (h : ActCells H a cs) (hs : ∀ x ∈ H, x ∈ H') : ActCells H' a cs := by
  cases h with
  | mk hb hl hk hi => exact .mk (hb.mono hs) (hl.mono hs) (hk.mono hs) hi
theorem IntsIn.len {H : List Atom} {v : Value} {l : List Int} (h : IntsIn H l v) : ∃ a cap, v = .slice a l.length cap := by cases h <;> exact ⟨_, _, rfl⟩
theorem BoolsIn.len {H : List Atom} {v : Value} {l : List Bool} (h : BoolsIn H v l) : ∃ a cap, v = .slice a l.length cap := by
  cases h with
  | none => exact ⟨_, _, rfl⟩
  | mk hl => exact ⟨_, _, by rw [hl]⟩
def ActM.small (a : ActM) : Bool := decide (a.b.length ≤ 300 ∧ a.keep.length ≤ 400 ∧ a.l.length ≤ 40)
def ActM.bytes (a : ActM) : List UInt8 := if a.short then a.b else blockM a.b

theorem small_calls {w : World} {H : List Atom} {a : ActM} {cs : List Value} (ha : ActCells H a cs) (hs : Sat w H) :
    Calls Try.prog 22 [.agg cs.toArray].toArray w (fun e w' => e = .returned (.bool a.small) ∧ Sat w' H) := by
  cases ha with
  | @mk kind n m b short l keep vb vl vk hb hl hk hi =>
  obtain ⟨a1, c1, rfl⟩ := hb.len
  obtain ⟨a2, c2, rfl⟩ := hl.len
  obtain ⟨a3, c3, rfl⟩ := hk.len
  refine enter Try.func22 rfl Try.ntmps22 rfl hs ?_
  (repeat (first | refine S.seq ?_ | refine S.region ?_ | refine L.nil ?_ | refine L.p (by first | exact o_assign rfl | exact o_fld rfl | exact o_load rfl rfl | exact o_load rfl (by assumption) | exact o_lenS rfl | exact o_lenStr rfl | exact o_le rfl rfl | exact o_move rfl | exact o_pickT rfl rfl | exact o_pickF rfl rfl) rfl ?_ | refine L.gYes rfl rfl rfl ?_ | refine L.gNo rfl rfl rfl rfl rfl ?_ | refine L.gUnd rfl rfl rfl rfl ?_ | refine S.block ?_ | refine S.pop ?_ | refine S.skip ?_ | refine S.exit rfl ?_ | refine S.condT rfl ?_ | refine S.condF rfl ?_))
  refine L.boxN rfl rfl (fun b1 => ?_)
  (repeat (first | refine S.seq ?_ | refine S.region ?_ | refine L.nil ?_ | refine L.p (by first | exact o_assign rfl | exact o_fld rfl | exact o_load rfl rfl | exact o_load rfl (by assumption) | exact o_lenS rfl | exact o_lenStr rfl | exact o_le rfl rfl | exact o_move rfl | exact o_pickT rfl rfl | exact o_pickF rfl rfl) rfl ?_ | refine L.gYes rfl rfl rfl ?_ | refine L.gNo rfl rfl rfl rfl rfl ?_ | refine L.gUnd rfl rfl rfl rfl ?_ | refine S.block ?_ | refine S.pop ?_ | refine S.skip ?_ | refine S.exit rfl ?_ | refine S.condT rfl ?_ | refine S.condF rfl ?_))
  refine L.split 7 rfl (fun h1 => ?_) (fun h1 => ?_)
  · (repeat (first | refine S.seq ?_ | refine S.region ?_ | refine L.nil ?_ | refine L.p (by first | exact o_assign rfl | exact o_fld rfl | exact o_load rfl rfl | exact o_load rfl (by assumption) | exact o_lenS rfl | exact o_lenStr rfl | exact o_le rfl rfl | exact o_move rfl | exact o_pickT rfl rfl | exact o_pickF rfl rfl) rfl ?_ | refine L.gYes rfl rfl rfl ?_ | refine L.gNo rfl rfl rfl rfl rfl ?_ | refine L.gUnd rfl rfl rfl rfl ?_ | refine S.block ?_ | refine S.pop ?_ | refine S.skip ?_ | refine S.exit rfl ?_ | refine S.condT rfl ?_ | refine S.condF rfl ?_))
    refine L.split 13 rfl (fun h2 => ?_) (fun h2 => ?_)
    · (repeat (first | refine S.seq ?_ | refine S.region ?_ | refine L.nil ?_ | refine L.p (by first | exact o_assign rfl | exact o_fld rfl | exact o_load rfl rfl | exact o_load rfl (by assumption) | exact o_lenS rfl | exact o_lenStr rfl | exact o_le rfl rfl | exact o_move rfl | exact o_pickT rfl rfl | exact o_pickF rfl rfl) rfl ?_ | refine L.gYes rfl rfl rfl ?_ | refine L.gNo rfl rfl rfl rfl rfl ?_ | refine L.gUnd rfl rfl rfl rfl ?_ | refine S.block ?_ | refine S.pop ?_ | refine S.skip ?_ | refine S.exit rfl ?_ | refine S.condT rfl ?_ | refine S.condF rfl ?_))
      refine S.fin (Fin.one rfl (RV.tmp rfl)) (fun w hs => ?_)
      refine ⟨ret_congr (dec_congr ?_), hs.tail⟩
      show (_ : Prop) ↔ (b.length ≤ 300 ∧ keep.length ≤ 400 ∧ l.length ≤ 40)
      omega
    · (repeat (first | refine S.seq ?_ | refine S.region ?_ | refine L.nil ?_ | refine L.p (by first | exact o_assign rfl | exact o_fld rfl | exact o_load rfl rfl | exact o_load rfl (by assumption) | exact o_lenS rfl | exact o_lenStr rfl | exact o_le rfl rfl | exact o_move rfl | exact o_pickT rfl rfl | exact o_pickF rfl rfl) rfl ?_ | refine L.gYes rfl rfl rfl ?_ | refine L.gNo rfl rfl rfl rfl rfl ?_ | refine L.gUnd rfl rfl rfl rfl ?_ | refine S.block ?_ | refine S.pop ?_ | refine S.skip ?_ | refine S.exit rfl ?_ | refine S.condT rfl ?_ | refine S.condF rfl ?_))
      refine S.fin (Fin.one rfl (RV.tmp rfl)) (fun w hs => ?_)
      refine ⟨ret_congr ?_, hs.tail⟩
      have : ActM.small ⟨kind, n, m, b, short, l, keep⟩ = false := decide_eq_false (fun h => by have := h.2.1; simp only at this; omega)
      rw [this]
  · (repeat (first | refine S.seq ?_ | refine S.region ?_ | refine L.nil ?_ | refine L.p (by first | exact o_assign rfl | exact o_fld rfl | exact o_load rfl rfl | exact o_load rfl (by assumption) | exact o_lenS rfl | exact o_lenStr rfl | exact o_le rfl rfl | exact o_move rfl | exact o_pickT rfl rfl | exact o_pickF rfl rfl) rfl ?_ | refine L.gYes rfl rfl rfl ?_ | refine L.gNo rfl rfl rfl rfl rfl ?_ | refine L.gUnd rfl rfl rfl rfl ?_ | refine S.block ?_ | refine S.pop ?_ | refine S.skip ?_ | refine S.exit rfl ?_ | refine S.condT rfl ?_ | refine S.condF rfl ?_))
    refine S.fin (Fin.one rfl (RV.tmp rfl)) (fun w hs => ?_)
    refine ⟨ret_congr ?_, hs.tail⟩
    have : ActM.small ⟨kind, n, m, b, short, l, keep⟩ = false := decide_eq_false (fun h => by have := h.1; simp only at this; omega)
    rw [this]

theorem abytes_calls {w : World} {H : List Atom} {a : ActM} {cs : List Value} (ha : ActCells H a cs) (hl : a.b.length ≤ 1000000) (hs : Sat w H) :
    Calls Try.prog 61 [.agg cs.toArray].toArray w (fun e w' => ∃ v B, e = .returned v ∧ BytesIn B v a.bytes ∧ Sat w' (B ++ H)) := by
  cases ha with
  | @mk kind n m b short l keep vb vl vk hb hil hk hi =>
  simp only at hl
  obtain ⟨a1, c1, rfl⟩ := hb.len
  refine enter Try.func61 rfl Try.ntmps61 rfl hs ?_
  (repeat (first | refine S.seq ?_ | refine S.region ?_ | refine L.nil ?_ | refine L.p (by first | exact o_assign rfl | exact o_fld rfl | exact o_load rfl rfl | exact o_load rfl (by assumption)) rfl ?_ | refine S.block ?_ | refine S.pop ?_ | refine S.skip ?_ | refine S.exit rfl ?_ | refine S.condT rfl ?_ | refine S.condF rfl ?_))
  refine L.boxN rfl rfl (fun b1 => ?_)
  (repeat (first | refine S.seq ?_ | refine S.region ?_ | refine L.nil ?_ | refine L.p (by first | exact o_assign rfl | exact o_fld rfl | exact o_load rfl rfl | exact o_load rfl (by assumption)) rfl ?_ | refine S.block ?_ | refine S.pop ?_ | refine S.skip ?_ | refine S.exit rfl ?_ | refine S.condT rfl ?_ | refine S.condF rfl ?_))
  refine S.condB rfl (fun hsh => ?_) (fun hsh => ?_)
  · (repeat (first | refine S.seq ?_ | refine S.region ?_ | refine L.nil ?_ | refine L.p (by first | exact o_assign rfl | exact o_fld rfl | exact o_load rfl rfl | exact o_load rfl (by assumption)) rfl ?_ | refine S.block ?_ | refine S.pop ?_ | refine S.skip ?_ | refine S.exit rfl ?_ | refine S.condT rfl ?_ | refine S.condF rfl ?_))
    refine L.slice0 rfl (fun b5 => ?_)
    (repeat (first | refine S.seq ?_ | refine S.region ?_ | refine L.nil ?_ | refine L.p (by first | exact o_assign rfl | exact o_fld rfl | exact o_load rfl rfl | exact o_load rfl (by assumption)) rfl ?_ | refine S.block ?_ | refine S.pop ?_ | refine S.skip ?_ | refine S.exit rfl ?_ | refine S.condT rfl ?_ | refine S.condF rfl ?_))
    refine L.append (m := b.length) (cnt := 0) (news := vbs b) (A := [.cells b5 5 []]) (R := .cells b1 59 [.int .i64 kind, .int .i64 n, .int .i64 m, .slice a1 b.length c1, .bool short, vl, vk] :: H) rfl (Own.mk (xs := []) (extra := []) rfl rfl (Nat.le_refl 0)) rfl ?_ lenOf_slice (by simp) (vbs_one _) rfl (by omega) (by decide) rfl (by intro a; simp only [List.count_append, List.count_cons, List.count_nil] <;> omega) rfl (fun a' c' A' ho => ?_)
    · refine Src.congr (((hb.mono (H' := .cells b5 5 [] :: .cells b1 59 [.int .i64 kind, .int .i64 n, .int .i64 m, .slice a1 b.length c1, .bool short, vl, vk] :: H) (by intro x hx; simp [hx])).src (Nat.le_refl _))) (by rw [List.take_length])
    (repeat (first | refine S.seq ?_ | refine S.region ?_ | refine L.nil ?_ | refine L.p (by first | exact o_assign rfl | exact o_fld rfl | exact o_load rfl rfl | exact o_load rfl (by assumption)) rfl ?_ | refine S.block ?_ | refine S.pop ?_ | refine S.skip ?_ | refine S.exit rfl ?_ | refine S.condT rfl ?_ | refine S.condF rfl ?_))
    refine S.fin (Fin.one rfl (RV.tmp rfl)) (fun w hs => ?_)
    have hby : ActM.bytes ⟨kind, n, m, b, short, l, keep⟩ = b := by simp [ActM.bytes, hsh]
    rw [hby]
    exact ⟨_, A', rfl, Own.bytes (e := 5) (by simpa using ho) (fun x hx => hx), hs.less (by intro a; simp only [List.count_append, List.count_cons, List.count_nil] <;> omega)⟩
  · (repeat (first | refine S.seq ?_ | refine S.region ?_ | refine L.nil ?_ | refine L.p (by first | exact o_assign rfl | exact o_fld rfl | exact o_load rfl rfl | exact o_load rfl (by assumption)) rfl ?_ | refine S.block ?_ | refine S.pop ?_ | refine S.skip ?_ | refine S.exit rfl ?_ | refine S.condT rfl ?_ | refine S.condF rfl ?_))
    refine L.callR rfl (hc_func Try.func27 (by decide) rfl rfl) rfl (fun w hs => block_calls (hb.mono (by intro x hx; simp [hx])) hl hs) ?_
    rintro e w' ⟨x, rfl, hs'⟩
    refine ⟨_, _, rfl, (by assumption), ?_⟩
    (repeat (first | refine S.seq ?_ | refine S.region ?_ | refine L.nil ?_ | refine L.p (by first | exact o_assign rfl | exact o_fld rfl | exact o_load rfl rfl | exact o_load rfl (by assumption)) rfl ?_ | refine S.block ?_ | refine S.pop ?_ | refine S.skip ?_ | refine S.exit rfl ?_ | refine S.condT rfl ?_ | refine S.condF rfl ?_))
    refine S.fin (Fin.one rfl (RV.tmp rfl)) (fun w hs => ?_)
    have hby : ActM.bytes ⟨kind, n, m, b, short, l, keep⟩ = blockM b := by simp [ActM.bytes, hsh]
    rw [hby]
    exact ⟨_, [.cells x 5 (vbs (blockM b))], rfl, bytes_new (H := []) (blockM_length b), hs.less (by intro a; simp only [List.count_append, List.count_cons, List.count_nil] <;> omega)⟩

def and3 (m : Int) : Nat := (BitVec.ofInt 64 m &&& 3#64).toNat
theorem and3_le (m : Int) : and3 m ≤ 3 := by
  unfold and3
  rw [BitVec.toNat_and]
  exact Nat.and_le_right
theorem o_and3 {P : Program} {t ty ty' : TypeId} {env : Env} {H : List Atom} {x y : Operand} {m : Int} (hx : evalE env x = some (.int .i64 m)) (hy : evalE env y = some (.int .i64 3)) : Pure P (.binOp .and t x y ty') ty env H (.int .i64 (and3 m : Nat)) := by
  unfold Pure
  intro w _ ρ ha _ _ _ _
  have e1 := ha _ _ hx
  have e2 := ha _ _ hy
  simp only [execOp, e1, e2, eqGuard, binOp, Op.intBits, IntKind.bits]
  have h3 : BitVec.ofInt 64 3 = 3#64 := by decide
  rw [h3]
  have hw : IntKind.i64.wrap ((and3 m : Nat) : Int) = (and3 m : Nat) := wrap_i64 (by have := and3_le m; unfold I64; omega)
  show Result.ok (Next.value (Value.int .i64 (IntKind.i64.wrap ((and3 m : Nat) : Int)))) w = _
  rw [hw]
def epA (e : Nat) (m : Int) : Nat := (e + and3 m) % 18446744073709551616
/-- (written so that no great number is reckoned down one by one) -/
def epochM (e : Nat) (m : Int) : Nat := if epA e m = 0 then 18446744073709551615 else epA e m - 1
theorem epochM_lt (e : Nat) (m : Int) : epochM e m < 18446744073709551616 := by
  have h : epA e m < 18446744073709551616 := Nat.mod_lt _ (by decide)
  unfold epochM
  split <;> omega
theorem ep_add (e : Nat) (m : Int) : IntKind.u64.wrap ((e : Int) + ((and3 m : Nat) : Int)) = ((epA e m : Nat) : Int) := by
  simp only [IntKind.wrap, IntKind.bits, IntKind.signed, Bool.false_and, Bool.false_eq_true, if_false]
  unfold epA
  omega
theorem ep_sub (e : Nat) (m : Int) : IntKind.u64.wrap (((epA e m : Nat) : Int) - 1) = ((epochM e m : Nat) : Int) := by
  simp only [IntKind.wrap, IntKind.bits, IntKind.signed, Bool.false_and, Bool.false_eq_true, if_false]
  have h : epA e m < 18446744073709551616 := Nat.mod_lt _ (by decide)
  unfold epochM
  split <;> omega
attribute [irreducible] epA epochM and3

/-- an act on a pager; what it tells -/
def playM (p : PgM) (D : DiskM) (a : ActM) : PgM × DiskM × Int × Int :=
  if a.kind = 1 then (p.take.1, D, p.take.2.1, p.take.2.2)
  else if a.kind = 2 then ((p.write D a.n a.bytes).1, (p.write D a.n a.bytes).2.1, 0, (p.write D a.n a.bytes).2.2)
  else if a.kind = 3 then ((p.drop a.n).1, D, 0, (p.drop a.n).2)
  else if a.kind = 4 then ((p.commit D a.n (epochM p.epoch a.m)).1, (p.commit D a.n (epochM p.epoch a.m)).2.1, 0, (p.commit D a.n (epochM p.epoch a.m)).2.2)
  else if a.kind = 5 then (p.undo, D, 0, 0)
  else if a.kind = 6 then ((p.use a.l).1, D, 0, (p.use a.l).2)
  else (p, D, 0, 0)

theorem wrapU (n : Nat) : IntKind.u64.wrap (n : Int) = ((n % 18446744073709551616 : Nat) : Int) := by
  simp only [IntKind.wrap, IntKind.bits, IntKind.signed, Bool.false_and, Bool.false_eq_true, if_false]
  omega

theorem play_calls {w : World} {A Ad H : List Atom} {bp bd n : Nat} {p : PgM} {D : DiskM} {a : ActM} {cs : List Value} (hpb : D.pend.length ≤ 800000) (hfr : ∀ x ∈ p.fresh, 0 ≤ x ∧ x < p.pages) (hn : D.n = n) (ha : ActCells H a cs) (hsm : a.small = true)
    (hP : PagerAt bp bd n p A) (hD : DiskAt bd D Ad) (hs : Sat w (A ++ (Ad ++ H))) :
    Calls Try.prog 23 [ptr bp, .agg cs.toArray].toArray w (fun e w' => ∃ A' Ad', e = .returned (.tuple #[.int .i64 (playM p D a).2.2.1, .int .i64 (playM p D a).2.2.2]) ∧ PagerAt bp bd n (playM p D a).1 A' ∧ DiskAt bd (playM p D a).2.1 Ad' ∧ Sat w' (A' ++ (Ad' ++ H))) := by
  have hn2 := hD.wf.n2
  have hwf := hP.wf
  have hsm2 := of_decide_eq_true hsm
  have ha0 := ha
  cases ha with
  | @mk kind nn m b short l keep vb vl vk hb hl hk hi =>
  simp only at hsm2
  refine enter Try.func23 rfl Try.ntmps23 rfl hs ?_
  (repeat (first | refine S.seq ?_ | refine S.region ?_ | refine L.nil ?_ | refine L.p (by first | exact o_assign rfl | exact o_fld rfl | exact o_load rfl rfl | exact o_load rfl (by assumption) | exact o_eq rfl rfl | exact o_ptrNil rfl rfl | exact o_nilNil rfl rfl | exact o_move rfl | exact o_ext rfl rfl | exact o_add rfl rfl (by unfold I64; omega) | exact o_sub rfl rfl (by unfold I64; omega)) rfl ?_ | refine S.block ?_ | refine S.pop ?_ | refine S.skip ?_ | refine S.exit rfl ?_ | refine S.condT rfl ?_ | refine S.condF rfl ?_))
  refine L.boxN rfl rfl (fun b3 => ?_)
  (repeat (first | refine S.seq ?_ | refine S.region ?_ | refine L.nil ?_ | refine L.p (by first | exact o_assign rfl | exact o_fld rfl | exact o_load rfl rfl | exact o_load rfl (by assumption) | exact o_eq rfl rfl | exact o_ptrNil rfl rfl | exact o_nilNil rfl rfl | exact o_move rfl | exact o_ext rfl rfl | exact o_add rfl rfl (by unfold I64; omega) | exact o_sub rfl rfl (by unfold I64; omega)) rfl ?_ | refine S.block ?_ | refine S.pop ?_ | refine S.skip ?_ | refine S.exit rfl ?_ | refine S.condT rfl ?_ | refine S.condF rfl ?_))
  refine S.condD rfl (fun k1 => ?_) (fun k1 => ?_)
  · have hpl : playM p D ⟨kind, nn, m, b, short, l, keep⟩ = (p.take.1, D, p.take.2.1, p.take.2.2) := by unfold playM; rw [if_pos k1]
    rw [hpl]
    dsimp only
    (repeat (first | refine S.seq ?_ | refine S.region ?_ | refine L.nil ?_ | refine L.p (by first | exact o_assign rfl | exact o_fld rfl | exact o_load rfl rfl | exact o_load rfl (by assumption) | exact o_eq rfl rfl | exact o_ptrNil rfl rfl | exact o_nilNil rfl rfl | exact o_move rfl | exact o_ext rfl rfl | exact o_add rfl rfl (by unfold I64; omega) | exact o_sub rfl rfl (by unfold I64; omega)) rfl ?_ | refine S.block ?_ | refine S.pop ?_ | refine S.skip ?_ | refine S.exit rfl ?_ | refine S.condT rfl ?_ | refine S.condF rfl ?_))
    refine L.callR rfl (hc_func Try.func28 (by decide) rfl rfl) rfl (fun w hs => ptake_calls (H := .cells b3 59 [.int .i64 kind, .int .i64 nn, .int .i64 m, vb, .bool short, vl, vk] :: (Ad ++ H)) hP (hs.re (by intro a; simp only [List.count_append, List.count_cons, List.count_nil] <;> omega))) ?_
    rintro e w' ⟨rfl, A', hP', hs'⟩
    refine ⟨_, _, rfl, (by assumption), ?_⟩
    (repeat (first | refine S.seq ?_ | refine S.region ?_ | refine L.nil ?_ | refine L.p (by first | exact o_assign rfl | exact o_fld rfl | exact o_load rfl rfl | exact o_load rfl (by assumption) | exact o_eq rfl rfl | exact o_ptrNil rfl rfl | exact o_nilNil rfl rfl | exact o_move rfl | exact o_ext rfl rfl | exact o_add rfl rfl (by unfold I64; omega) | exact o_sub rfl rfl (by unfold I64; omega)) rfl ?_ | refine S.block ?_ | refine S.pop ?_ | refine S.skip ?_ | refine S.exit rfl ?_ | refine S.condT rfl ?_ | refine S.condF rfl ?_))
    refine S.fin (Fin.two rfl (RV.tmp rfl) (RV.tmp rfl)) (fun w hs => ?_)
    exact ⟨A', Ad, rfl, hP', hD, hs.less (by intro a; simp only [List.count_append, List.count_cons, List.count_nil] <;> omega)⟩
  · (repeat (first | refine S.seq ?_ | refine S.region ?_ | refine L.nil ?_ | refine L.p (by first | exact o_assign rfl | exact o_fld rfl | exact o_load rfl rfl | exact o_load rfl (by assumption) | exact o_eq rfl rfl | exact o_ptrNil rfl rfl | exact o_nilNil rfl rfl | exact o_move rfl | exact o_ext rfl rfl | exact o_add rfl rfl (by unfold I64; omega) | exact o_sub rfl rfl (by unfold I64; omega)) rfl ?_ | refine S.block ?_ | refine S.pop ?_ | refine S.skip ?_ | refine S.exit rfl ?_ | refine S.condT rfl ?_ | refine S.condF rfl ?_))
    refine S.condD rfl (fun k2 => ?_) (fun k2 => ?_)
    · have hpl : playM p D ⟨kind, nn, m, b, short, l, keep⟩ = ((p.write D nn (ActM.bytes ⟨kind, nn, m, b, short, l, keep⟩)).1, (p.write D nn (ActM.bytes ⟨kind, nn, m, b, short, l, keep⟩)).2.1, 0, (p.write D nn (ActM.bytes ⟨kind, nn, m, b, short, l, keep⟩)).2.2) := by
        unfold playM; rw [if_neg (by simp only; omega), if_pos k2]
      rw [hpl]
      dsimp only
      (repeat (first | refine S.seq ?_ | refine S.region ?_ | refine L.nil ?_ | refine L.p (by first | exact o_assign rfl | exact o_fld rfl | exact o_load rfl rfl | exact o_load rfl (by assumption) | exact o_eq rfl rfl | exact o_ptrNil rfl rfl | exact o_nilNil rfl rfl | exact o_move rfl | exact o_ext rfl rfl | exact o_add rfl rfl (by unfold I64; omega) | exact o_sub rfl rfl (by unfold I64; omega)) rfl ?_ | refine S.block ?_ | refine S.pop ?_ | refine S.skip ?_ | refine S.exit rfl ?_ | refine S.condT rfl ?_ | refine S.condF rfl ?_))
      refine S.anyH (id := 5) ([.cells b3 59 [.int .i64 kind, .int .i64 nn, .int .i64 m, vb, .bool short, vl, vk]]) (by kernel_rfl) ?_
      refine BH.take 0 rfl (by kernel_rfl) (by decide +kernel) (by decide +kernel) rfl (o_move rfl) rfl (by intro a; simp only [List.count_append, List.count_cons, List.count_nil] <;> omega) ?_
      refine BH.take 1 rfl (by kernel_rfl) (by decide +kernel) (by decide +kernel) rfl (o_fld rfl) rfl (by intro a; simp only [List.count_append, List.count_cons, List.count_nil] <;> omega) ?_
      (first | refine BH.take 2 rfl (by kernel_rfl) (by decide +kernel) (by decide +kernel) rfl (o_load rfl rfl) rfl (by intro a; simp only [List.count_append, List.count_cons, List.count_nil] <;> omega) ?_ | refine BH.take 2 rfl (by kernel_rfl) (by decide +kernel) (by decide +kernel) rfl (o_load rfl (by assumption)) rfl (by intro a; simp only [List.count_append, List.count_cons, List.count_nil] <;> omega) ?_)
      refine BH.take 3 rfl (by kernel_rfl) (by decide +kernel) (by decide +kernel) rfl (o_loadE (vs := [.int .i64 kind, .int .i64 nn, .int .i64 m, vb, .bool short, vl, vk]) rfl (Nat.le_refl 7) rfl) rfl (by intro a; simp only [List.count_append, List.count_cons, List.count_nil] <;> omega) ?_
      refine BH.branch [4] (by kernel_rfl) (by simp) ?_
      refine BrH.cons rfl rfl ?_ BrH.nil
      refine L.callR rfl (hc_func Try.func61 (by decide) rfl rfl) rfl (fun w hs => abytes_calls (a := ⟨kind, nn, m, b, short, l, keep⟩) (H := .cells b3 59 [.int .i64 kind, .int .i64 nn, .int .i64 m, vb, .bool short, vl, vk] :: (A ++ (Ad ++ H))) (ha0.mono (by intro x hx; simp [hx])) (by simp only; omega) (hs.re (by intro a; simp only [List.count_append, List.count_cons, List.count_nil] <;> omega))) ?_
      rintro e w' ⟨v, B, rfl, hB, hs'⟩
      refine ⟨_, _, rfl, (by assumption), ?_⟩
      refine L.nil ?_
      refine BH.go (by intro a; simp only [List.count_append, List.count_cons, List.count_nil] <;> omega) ?_
      refine BH.branch [5] (by kernel_rfl) (by simp) ?_
      refine BrH.cons rfl rfl ?_ BrH.nil
      refine L.callR rfl (hc_func Try.func26 (by decide) rfl rfl) rfl (fun w hs => pwrite_calls (H := B ++ (.cells b3 59 [.int .i64 kind, .int .i64 nn, .int .i64 m, vb, .bool short, vl, vk] :: H)) (i := nn) (by omega) hfr hn (hB.mono (by intro x hx; simp [hx])) hP hD (hs.re (by intro a; simp only [List.count_append, List.count_cons, List.count_nil] <;> omega))) ?_
      rintro e w' ⟨rfl, A', Ad', hP', hD', hs'⟩
      refine ⟨_, _, rfl, (by assumption), ?_⟩
      refine L.nil ?_
      refine BH.go (by intro a; simp only [List.count_append, List.count_cons, List.count_nil] <;> omega) ?_
      refine BH.take 6 rfl (by kernel_rfl) (by decide +kernel) (by decide +kernel) rfl (o_assign rfl) rfl (by intro a; simp only [List.count_append, List.count_cons, List.count_nil] <;> omega) ?_
      refine BH.take 7 rfl (by kernel_rfl) (by decide +kernel) (by decide +kernel) rfl (o_assign rfl) rfl (by intro a; simp only [List.count_append, List.count_cons, List.count_nil] <;> omega) ?_
      refine BH.done (by decide +kernel) ?_
      (repeat (first | refine S.seq ?_ | refine S.region ?_ | refine L.nil ?_ | refine L.p (by first | exact o_assign rfl | exact o_fld rfl | exact o_load rfl rfl | exact o_load rfl (by assumption) | exact o_eq rfl rfl | exact o_ptrNil rfl rfl | exact o_nilNil rfl rfl | exact o_move rfl | exact o_ext rfl rfl | exact o_add rfl rfl (by unfold I64; omega) | exact o_sub rfl rfl (by unfold I64; omega)) rfl ?_ | refine S.block ?_ | refine S.pop ?_ | refine S.skip ?_ | refine S.exit rfl ?_ | refine S.condT rfl ?_ | refine S.condF rfl ?_))
      refine S.fin (Fin.two rfl (RV.tmp rfl) (RV.tmp rfl)) (fun w hs => ?_)
      exact ⟨A', Ad', rfl, hP', hD', hs.less (by intro a; simp only [List.count_append, List.count_cons, List.count_nil] <;> omega)⟩
    · (repeat (first | refine S.seq ?_ | refine S.region ?_ | refine L.nil ?_ | refine L.p (by first | exact o_assign rfl | exact o_fld rfl | exact o_load rfl rfl | exact o_load rfl (by assumption) | exact o_eq rfl rfl | exact o_ptrNil rfl rfl | exact o_nilNil rfl rfl | exact o_move rfl | exact o_ext rfl rfl | exact o_add rfl rfl (by unfold I64; omega) | exact o_sub rfl rfl (by unfold I64; omega)) rfl ?_ | refine S.block ?_ | refine S.pop ?_ | refine S.skip ?_ | refine S.exit rfl ?_ | refine S.condT rfl ?_ | refine S.condF rfl ?_))
      refine S.condD rfl (fun k3 => ?_) (fun k3 => ?_)
      · have hpl : playM p D ⟨kind, nn, m, b, short, l, keep⟩ = ((p.drop nn).1, D, 0, (p.drop nn).2) := by
          unfold playM; rw [if_neg (by simp only; omega), if_neg (by simp only; omega), if_pos k3]
        rw [hpl]
        dsimp only
        (repeat (first | refine S.seq ?_ | refine S.region ?_ | refine L.nil ?_ | refine L.p (by first | exact o_assign rfl | exact o_fld rfl | exact o_load rfl rfl | exact o_load rfl (by assumption) | exact o_eq rfl rfl | exact o_ptrNil rfl rfl | exact o_nilNil rfl rfl | exact o_move rfl | exact o_ext rfl rfl | exact o_add rfl rfl (by unfold I64; omega) | exact o_sub rfl rfl (by unfold I64; omega)) rfl ?_ | refine S.block ?_ | refine S.pop ?_ | refine S.skip ?_ | refine S.exit rfl ?_ | refine S.condT rfl ?_ | refine S.condF rfl ?_))
        refine L.callR rfl (hc_func Try.func30 (by decide) rfl rfl) rfl (fun w hs => pdrop_calls (i := nn) (H := .cells b3 59 [.int .i64 kind, .int .i64 nn, .int .i64 m, vb, .bool short, vl, vk] :: (Ad ++ H)) (by omega) hP (hs.re (by intro a; simp only [List.count_append, List.count_cons, List.count_nil] <;> omega))) ?_
        rintro e w' ⟨rfl, A', hP', hs'⟩
        refine ⟨_, _, rfl, (by assumption), ?_⟩
        (repeat (first | refine S.seq ?_ | refine S.region ?_ | refine L.nil ?_ | refine L.p (by first | exact o_assign rfl | exact o_fld rfl | exact o_load rfl rfl | exact o_load rfl (by assumption) | exact o_eq rfl rfl | exact o_ptrNil rfl rfl | exact o_nilNil rfl rfl | exact o_move rfl | exact o_ext rfl rfl | exact o_add rfl rfl (by unfold I64; omega) | exact o_sub rfl rfl (by unfold I64; omega)) rfl ?_ | refine S.block ?_ | refine S.pop ?_ | refine S.skip ?_ | refine S.exit rfl ?_ | refine S.condT rfl ?_ | refine S.condF rfl ?_))
        refine S.fin (Fin.two rfl (RV.tmp rfl) (RV.tmp rfl)) (fun w hs => ?_)
        exact ⟨A', Ad, rfl, hP', hD, hs.less (by intro a; simp only [List.count_append, List.count_cons, List.count_nil] <;> omega)⟩
      · (repeat (first | refine S.seq ?_ | refine S.region ?_ | refine L.nil ?_ | refine L.p (by first | exact o_assign rfl | exact o_fld rfl | exact o_load rfl rfl | exact o_load rfl (by assumption) | exact o_eq rfl rfl | exact o_ptrNil rfl rfl | exact o_nilNil rfl rfl | exact o_move rfl | exact o_ext rfl rfl | exact o_add rfl rfl (by unfold I64; omega) | exact o_sub rfl rfl (by unfold I64; omega)) rfl ?_ | refine S.block ?_ | refine S.pop ?_ | refine S.skip ?_ | refine S.exit rfl ?_ | refine S.condT rfl ?_ | refine S.condF rfl ?_))
        refine S.condD rfl (fun k4 => ?_) (fun k4 => ?_)
        · have hpl : playM p D ⟨kind, nn, m, b, short, l, keep⟩ = ((p.commit D nn (epochM p.epoch m)).1, (p.commit D nn (epochM p.epoch m)).2.1, 0, (p.commit D nn (epochM p.epoch m)).2.2) := by
            unfold playM; rw [if_neg (by simp only; omega), if_neg (by simp only; omega), if_neg (by simp only; omega), if_pos k4]
          rw [hpl]
          dsimp only
          have h3 := and3_le m
          have hep := hwf.epoch
          (repeat (first | refine S.seq ?_ | refine S.region ?_ | refine L.nil ?_ | refine L.p (by first | exact o_assign rfl | exact o_fld rfl | exact o_load rfl rfl | exact o_load rfl (by assumption) | exact o_eq rfl rfl | exact o_ptrNil rfl rfl | exact o_nilNil rfl rfl | exact o_move rfl | exact o_ext rfl rfl | exact o_add rfl rfl (by unfold I64; omega) | exact o_sub rfl rfl (by unfold I64; omega)) rfl ?_ | refine S.block ?_ | refine S.pop ?_ | refine S.skip ?_ | refine S.exit rfl ?_ | refine S.condT rfl ?_ | refine S.condF rfl ?_))
          refine S.anyH (id := 9) ([.cells b3 59 [.int .i64 kind, .int .i64 nn, .int .i64 m, vb, .bool short, vl, vk]]) (by kernel_rfl) ?_
          refine BH.take 0 rfl (by kernel_rfl) (by decide +kernel) (by decide +kernel) rfl (o_move rfl) rfl (by intro a; simp only [List.count_append, List.count_cons, List.count_nil] <;> omega) ?_
          refine BH.take 1 rfl (by kernel_rfl) (by decide +kernel) (by decide +kernel) rfl (o_fld rfl) rfl (by intro a; simp only [List.count_append, List.count_cons, List.count_nil] <;> omega) ?_
          (first | refine BH.take 2 rfl (by kernel_rfl) (by decide +kernel) (by decide +kernel) rfl (o_load rfl rfl) rfl (by intro a; simp only [List.count_append, List.count_cons, List.count_nil] <;> omega) ?_ | refine BH.take 2 rfl (by kernel_rfl) (by decide +kernel) (by decide +kernel) rfl (o_load rfl (by assumption)) rfl (by intro a; simp only [List.count_append, List.count_cons, List.count_nil] <;> omega) ?_)
          refine BH.take 3 rfl (by kernel_rfl) (by decide +kernel) (by decide +kernel) rfl (o_move rfl) rfl (by intro a; simp only [List.count_append, List.count_cons, List.count_nil] <;> omega) ?_
          refine BH.take 5 rfl (by kernel_rfl) (by decide +kernel) (by decide +kernel) rfl (o_fld rfl) rfl (by intro a; simp only [List.count_append, List.count_cons, List.count_nil] <;> omega) ?_
          (first | refine BH.take 6 rfl (by kernel_rfl) (by decide +kernel) (by decide +kernel) rfl (o_load rfl rfl) rfl (by intro a; simp only [List.count_append, List.count_cons, List.count_nil] <;> omega) ?_ | refine BH.take 6 rfl (by kernel_rfl) (by decide +kernel) (by decide +kernel) rfl (o_load rfl (by assumption)) rfl (by intro a; simp only [List.count_append, List.count_cons, List.count_nil] <;> omega) ?_)
          refine BH.take 7 rfl (by kernel_rfl) (by decide +kernel) (by decide +kernel) rfl (o_and3 rfl rfl) rfl (by intro a; simp only [List.count_append, List.count_cons, List.count_nil] <;> omega) ?_
          refine BH.take 8 rfl (by kernel_rfl) (by decide +kernel) (by decide +kernel) rfl (o_conv (kk := .u64) (k2 := .i64) (r := ((and3 m : Nat) : Int)) rfl (wrap64u (by omega))) rfl (by intro a; simp only [List.count_append, List.count_cons, List.count_nil] <;> omega) ?_
          refine BH.branch [4] (by kernel_rfl) (by simp) ?_
          refine BrH.cons rfl rfl ?_ BrH.nil
          refine L.callR rfl (hc_func Try.func18 (by decide) rfl rfl) rfl (fun w hs => pepoch_calls (H := .cells b3 59 [.int .i64 kind, .int .i64 nn, .int .i64 m, vb, .bool short, vl, vk] :: (Ad ++ H)) hP (hs.re (by intro a; simp only [List.count_append, List.count_cons, List.count_nil] <;> omega))) ?_
          rintro e w' ⟨rfl, hs'⟩
          refine ⟨_, _, rfl, (by assumption), ?_⟩
          refine L.nil ?_
          refine BH.go (by intro a; simp only [List.count_append, List.count_cons, List.count_nil] <;> omega) ?_
          refine BH.take 9 rfl (by kernel_rfl) (by decide +kernel) (by decide +kernel) rfl (o_addE (r := ((epA p.epoch m : Nat) : Int)) rfl rfl (ep_add p.epoch m)) rfl (by intro a; simp only [List.count_append, List.count_cons, List.count_nil] <;> omega) ?_
          refine BH.take 10 rfl (by kernel_rfl) (by decide +kernel) (by decide +kernel) rfl (o_subE (r := ((epochM p.epoch m : Nat) : Int)) rfl rfl (ep_sub p.epoch m)) rfl (by intro a; simp only [List.count_append, List.count_cons, List.count_nil] <;> omega) ?_
          refine BH.branch [11] (by kernel_rfl) (by simp) ?_
          refine BrH.cons rfl rfl ?_ BrH.nil
          refine L.callR rfl (hc_func Try.func24 (by decide) rfl rfl) rfl (fun w hs => pcommit_calls (H := .cells b3 59 [.int .i64 kind, .int .i64 nn, .int .i64 m, vb, .bool short, vl, vk] :: H) (root := nn) (epoch := epochM p.epoch m) (epochM_lt _ _) hpb hn hP hD (hs.re (by intro a; simp only [List.count_append, List.count_cons, List.count_nil] <;> omega))) ?_
          rintro e w' ⟨rfl, A', Ad', hP', hD', hs'⟩
          refine ⟨_, _, rfl, (by assumption), ?_⟩
          refine L.nil ?_
          refine BH.go (by intro a; simp only [List.count_append, List.count_cons, List.count_nil] <;> omega) ?_
          refine BH.take 12 rfl (by kernel_rfl) (by decide +kernel) (by decide +kernel) rfl (o_assign rfl) rfl (by intro a; simp only [List.count_append, List.count_cons, List.count_nil] <;> omega) ?_
          refine BH.take 13 rfl (by kernel_rfl) (by decide +kernel) (by decide +kernel) rfl (o_assign rfl) rfl (by intro a; simp only [List.count_append, List.count_cons, List.count_nil] <;> omega) ?_
          refine BH.done (by decide +kernel) ?_
          (repeat (first | refine S.seq ?_ | refine S.region ?_ | refine L.nil ?_ | refine L.p (by first | exact o_assign rfl | exact o_fld rfl | exact o_load rfl rfl | exact o_load rfl (by assumption) | exact o_eq rfl rfl | exact o_ptrNil rfl rfl | exact o_nilNil rfl rfl | exact o_move rfl | exact o_ext rfl rfl | exact o_add rfl rfl (by unfold I64; omega) | exact o_sub rfl rfl (by unfold I64; omega)) rfl ?_ | refine S.block ?_ | refine S.pop ?_ | refine S.skip ?_ | refine S.exit rfl ?_ | refine S.condT rfl ?_ | refine S.condF rfl ?_))
          refine S.fin (Fin.two rfl (RV.tmp rfl) (RV.tmp rfl)) (fun w hs => ?_)
          exact ⟨A', Ad', rfl, hP', hD', hs.less (by intro a; simp only [List.count_append, List.count_cons, List.count_nil] <;> omega)⟩
        · (repeat (first | refine S.seq ?_ | refine S.region ?_ | refine L.nil ?_ | refine L.p (by first | exact o_assign rfl | exact o_fld rfl | exact o_load rfl rfl | exact o_load rfl (by assumption) | exact o_eq rfl rfl | exact o_ptrNil rfl rfl | exact o_nilNil rfl rfl | exact o_move rfl | exact o_ext rfl rfl | exact o_add rfl rfl (by unfold I64; omega) | exact o_sub rfl rfl (by unfold I64; omega)) rfl ?_ | refine S.block ?_ | refine S.pop ?_ | refine S.skip ?_ | refine S.exit rfl ?_ | refine S.condT rfl ?_ | refine S.condF rfl ?_))
          refine S.condD rfl (fun k5 => ?_) (fun k5 => ?_)
          · have hpl : playM p D ⟨kind, nn, m, b, short, l, keep⟩ = (p.undo, D, 0, 0) := by
              unfold playM; rw [if_neg (by simp only; omega), if_neg (by simp only; omega), if_neg (by simp only; omega), if_neg (by simp only; omega), if_pos k5]
            rw [hpl]
            dsimp only
            (repeat (first | refine S.seq ?_ | refine S.region ?_ | refine L.nil ?_ | refine L.p (by first | exact o_assign rfl | exact o_fld rfl | exact o_load rfl rfl | exact o_load rfl (by assumption) | exact o_eq rfl rfl | exact o_ptrNil rfl rfl | exact o_nilNil rfl rfl | exact o_move rfl | exact o_ext rfl rfl | exact o_add rfl rfl (by unfold I64; omega) | exact o_sub rfl rfl (by unfold I64; omega)) rfl ?_ | refine S.block ?_ | refine S.pop ?_ | refine S.skip ?_ | refine S.exit rfl ?_ | refine S.condT rfl ?_ | refine S.condF rfl ?_))
            refine L.callR rfl (hc_func Try.func29 (by decide) rfl rfl) rfl (fun w hs => pundo_calls (H := .cells b3 59 [.int .i64 kind, .int .i64 nn, .int .i64 m, vb, .bool short, vl, vk] :: (Ad ++ H)) (by omega) hP (hs.re (by intro a; simp only [List.count_append, List.count_cons, List.count_nil] <;> omega))) ?_
            rintro e w' ⟨rfl, A', hP', hs'⟩
            refine ⟨_, _, rfl, (by assumption), ?_⟩
            (repeat (first | refine S.seq ?_ | refine S.region ?_ | refine L.nil ?_ | refine L.p (by first | exact o_assign rfl | exact o_fld rfl | exact o_load rfl rfl | exact o_load rfl (by assumption) | exact o_eq rfl rfl | exact o_ptrNil rfl rfl | exact o_nilNil rfl rfl | exact o_move rfl | exact o_ext rfl rfl | exact o_add rfl rfl (by unfold I64; omega) | exact o_sub rfl rfl (by unfold I64; omega)) rfl ?_ | refine S.block ?_ | refine S.pop ?_ | refine S.skip ?_ | refine S.exit rfl ?_ | refine S.condT rfl ?_ | refine S.condF rfl ?_))
            refine S.fin (Fin.two rfl (RV.tmp rfl) (RV.tmp rfl)) (fun w hs => ?_)
            exact ⟨A', Ad, rfl, hP', hD, hs.less (by intro a; simp only [List.count_append, List.count_cons, List.count_nil] <;> omega)⟩
          · (repeat (first | refine S.seq ?_ | refine S.region ?_ | refine L.nil ?_ | refine L.p (by first | exact o_assign rfl | exact o_fld rfl | exact o_load rfl rfl | exact o_load rfl (by assumption) | exact o_eq rfl rfl | exact o_ptrNil rfl rfl | exact o_nilNil rfl rfl | exact o_move rfl | exact o_ext rfl rfl | exact o_add rfl rfl (by unfold I64; omega) | exact o_sub rfl rfl (by unfold I64; omega)) rfl ?_ | refine S.block ?_ | refine S.pop ?_ | refine S.skip ?_ | refine S.exit rfl ?_ | refine S.condT rfl ?_ | refine S.condF rfl ?_))
            refine S.condD rfl (fun k6 => ?_) (fun k6 => ?_)
            · have hpl : playM p D ⟨kind, nn, m, b, short, l, keep⟩ = ((p.use l).1, D, 0, (p.use l).2) := by
                unfold playM; rw [if_neg (by simp only; omega), if_neg (by simp only; omega), if_neg (by simp only; omega), if_neg (by simp only; omega), if_neg (by simp only; omega), if_pos k6]
              rw [hpl]
              dsimp only
              (repeat (first | refine S.seq ?_ | refine S.region ?_ | refine L.nil ?_ | refine L.p (by first | exact o_assign rfl | exact o_fld rfl | exact o_load rfl rfl | exact o_load rfl (by assumption) | exact o_eq rfl rfl | exact o_ptrNil rfl rfl | exact o_nilNil rfl rfl | exact o_move rfl | exact o_ext rfl rfl | exact o_add rfl rfl (by unfold I64; omega) | exact o_sub rfl rfl (by unfold I64; omega)) rfl ?_ | refine S.block ?_ | refine S.pop ?_ | refine S.skip ?_ | refine S.exit rfl ?_ | refine S.condT rfl ?_ | refine S.condF rfl ?_))
              refine L.callR rfl (hc_func Try.func31 (by decide) rfl rfl) rfl (fun w hs => puse_calls (l := l) (H := .cells b3 59 [.int .i64 kind, .int .i64 nn, .int .i64 m, vb, .bool short, vl, vk] :: (Ad ++ H)) (hl.mono (by intro x hx; simp [hx])) (by omega) hP (hs.re (by intro a; simp only [List.count_append, List.count_cons, List.count_nil] <;> omega))) ?_
              rintro e w' ⟨rfl, A', hP', hs'⟩
              refine ⟨_, _, rfl, (by assumption), ?_⟩
              (repeat (first | refine S.seq ?_ | refine S.region ?_ | refine L.nil ?_ | refine L.p (by first | exact o_assign rfl | exact o_fld rfl | exact o_load rfl rfl | exact o_load rfl (by assumption) | exact o_eq rfl rfl | exact o_ptrNil rfl rfl | exact o_nilNil rfl rfl | exact o_move rfl | exact o_ext rfl rfl | exact o_add rfl rfl (by unfold I64; omega) | exact o_sub rfl rfl (by unfold I64; omega)) rfl ?_ | refine S.block ?_ | refine S.pop ?_ | refine S.skip ?_ | refine S.exit rfl ?_ | refine S.condT rfl ?_ | refine S.condF rfl ?_))
              refine S.fin (Fin.two rfl (RV.tmp rfl) (RV.tmp rfl)) (fun w hs => ?_)
              exact ⟨A', Ad, rfl, hP', hD, hs.less (by intro a; simp only [List.count_append, List.count_cons, List.count_nil] <;> omega)⟩
            · have hpl : playM p D ⟨kind, nn, m, b, short, l, keep⟩ = (p, D, 0, 0) := by
                unfold playM; rw [if_neg (by simp only; omega), if_neg (by simp only; omega), if_neg (by simp only; omega), if_neg (by simp only; omega), if_neg (by simp only; omega), if_neg (by simp only; omega)]
              rw [hpl]
              dsimp only
              (repeat (first | refine S.seq ?_ | refine S.region ?_ | refine L.nil ?_ | refine L.p (by first | exact o_assign rfl | exact o_fld rfl | exact o_load rfl rfl | exact o_load rfl (by assumption) | exact o_eq rfl rfl | exact o_ptrNil rfl rfl | exact o_nilNil rfl rfl | exact o_move rfl | exact o_ext rfl rfl | exact o_add rfl rfl (by unfold I64; omega) | exact o_sub rfl rfl (by unfold I64; omega)) rfl ?_ | refine S.block ?_ | refine S.pop ?_ | refine S.skip ?_ | refine S.exit rfl ?_ | refine S.condT rfl ?_ | refine S.condF rfl ?_))
              refine S.fin (Fin.two rfl (RV.tmp rfl) (RV.tmp rfl)) (fun w hs => ?_)
              exact ⟨A, Ad, rfl, hP, hD, hs.less (by intro a; simp only [List.count_append, List.count_cons, List.count_nil] <;> omega)⟩
end Go.Proofs.Ytlecgoebbjnnmaa

