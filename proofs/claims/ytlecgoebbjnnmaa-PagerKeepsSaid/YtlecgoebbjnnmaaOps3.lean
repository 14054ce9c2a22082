/- The rules of append, copy, slices that are written out, conversions, strings. -/
import Derived.Test.YtlecgoebbjnnmaaOps2
set_option linter.unusedVariables false
set_option linter.unusedSectionVars false
set_option linter.unusedSimpArgs false
namespace Go.Proofs.Ytlecgoebbjnnmaa
open Go
attribute [local semireducible] S L Pure Does Fin RV

section
variable [Ref] {P : Program} {Q : Exit → Act → World → Prop} {n : Nat} {k : List K} {env : Env} {H : List Atom} {ops : Array Oper} {l : List Oper}
variable {ty t t' : TypeId} {pos : String} {after : Array Edge} {x y : Operand} {v : Value} {b o : Nat} {T : TypeId} {cs : List Value} {put : Atom → List Atom}

/-- what stands in memory, told by the atoms: m elements of so many cells from a value on -/
def Src (P : Program) (H : List Atom) (sz m : Nat) (x : Value) (news : List Value) : Prop :=
  ∀ w, SatH w H → (Builtin.firstCells sz m x).run P w = .ok news.toArray w

theorem Src.slice {sz m len cap : Nat} (hm : Atom.cells b T cs ∈ H) (hl : o + m * sz ≤ cs.length) : Src P H sz m (.slice (some ⟨b, o, none⟩) len cap) ((cs.drop o).take (m * sz)) := fun w hs => by
  have hlen : ((cs.drop o).take (m * sz)).length = m * sz := by simp; omega
  have hl := run_loadCells_list (P := P) w ⟨b, o, none⟩ ((cs.drop o).take (m * sz)) (fun j v hv => by
    rw [add_off, hs.cell hm]
    rw [List.getElem?_take] at hv
    split at hv
    · rw [List.getElem?_drop] at hv; exact hv
    · cases hv)
  rw [hlen] at hl
  simp only [Builtin.firstCells]
  exact hl
theorem Src.nil {sz m len cap : Nat} : Src P H sz m (.slice none len cap) [] := fun w hs => by simp [Builtin.firstCells]
theorem Src.zero {sz len cap : Nat} {a : Option Addr} : Src P H sz 0 (.slice a len cap) [] := fun w hs => by
  cases a with
  | none => simp [Builtin.firstCells]
  | some a => simp [Builtin.firstCells, loadCells, loadCellsFrom]
theorem Src.str {m : Nat} {s : List UInt8} (hm : m = s.length) : Src P H 1 m (.string ⟨s.toArray⟩) (s.map fun b => .int .u8 b.toNat) := fun w hs => by
  subst hm
  have : ((⟨s.toArray⟩ : ByteArray).extract 0 s.length) = ⟨s.toArray⟩ := by
    apply ByteArray.ext
    simp
  simp only [Builtin.firstCells, this, Sem.run_pure]
  simp

/-- a slice that is owned: its elements' cells, its atoms -/
inductive Own (e sz : Nat) : Value → List Value → List Atom → Prop
  | nil : Own e sz (.slice none 0 0) [] []
  | mk {b len cap : Nat} {xs extra : List Value} (hx : xs.length = len * sz) (hc : xs.length + extra.length = cap * sz) (h1 : len ≤ cap) : Own e sz (.slice (some ⟨b, 0, none⟩) len cap) xs [.cells b e (xs ++ extra)]

theorem Own.len {e sz : Nat} {v : Value} {xs : List Value} {A : List Atom} (h : Own e sz v xs A) : ∃ a len cap, v = .slice a len cap ∧ xs.length = len * sz := by
  cases h with
  | nil => exact ⟨_, _, _, rfl, by simp⟩
  | mk hx hc h1 => exact ⟨_, _, _, rfl, hx⟩

theorem Own.some' {e sz : Nat} {v : Value} {xs : List Value} {A : List Atom} (h : Own e sz v xs A) : ∀ {a : Option Addr} {len cap : Nat}, v = .slice a len cap → 0 < len →
    ∃ b extra, a = some ⟨b, 0, none⟩ ∧ A = [.cells b e (xs ++ extra)] ∧ xs.length + extra.length = cap * sz ∧ len ≤ cap := by
  intro a len cap hv hl
  cases h with
  | nil => cases hv; omega
  | @mk b len' cap' _ extra hx hc h1 => cases hv; exact ⟨b, extra, rfl, rfl, hc, h1⟩

theorem nextcap_le (need cap : Nat) (h : cap < need) : Builtin.nextslicecap need cap ≤ 2 * need + 4096 := by
  unfold Builtin.nextslicecap
  split
  · omega
  · split
    · omega
    · have key : ∀ (r c : Nat), c ≤ 2 * need + 4096 → Builtin.growBy need r c ≤ 2 * need + 4096 := by
        intro r
        induction r with
        | zero => intro c h; exact h
        | succ r ih =>
          intro c hc
          unfold Builtin.growBy
          split
          · exact hc
          · exact ih _ (by omega)
      exact key _ _ (by omega)

class TNoInt (P : Program) (t : TypeId) : Prop where
  out : (∃ e, P.underlying t = some (.slice e)) ∨ P.underlying t = some .string
instance TNoInt.ofSlice {e sz by_ : Nat} [h : TSlice P t e sz by_] : TNoInt P t := ⟨.inl ⟨_, h.out.1⟩⟩
instance TNoInt.ofStr [h : TStr P t] : TNoInt P t := ⟨.inr h.out⟩

theorem run_append_room {e sz by_ : Nat} {news : List Value} {xv : Value} {m len cap : Nat} {a : Option Addr} {w : World}
    [ht : TSlice P t e sz by_] [hn : TNoInt P t'] (hsrc : (Builtin.firstCells sz m xv).run P w = .ok news.toArray w) (hlen : (Builtin.lenOf xv).run P w = .ok m w) (hroom : len + m ≤ cap) :
    (Builtin.append_ #[t, t'] ty #[.slice a len cap, xv]).run P w = (match a with
      | some a => (storeCells (a.add (len * sz)) news).run P w
      | none => .ok () w).andThen fun _ w' => .ok (.slice a (len + m) cap) w' := by
  obtain ⟨hu, hsz, hsz0⟩ := ht.out
  cases hi : P.info? e with
  | none => rw [hi] at hsz; cases hsz
  | some inf =>
    rw [hi] at hsz
    have hm' : inf.size = sz ∧ inf.bytes = by_ := by simpa using hsz
    rcases hn.out with ⟨e', hd'⟩ | hd'
    all_goals cases a <;> simp [Builtin.append_, run_underlying hu, run_underlying hd', sizeOf, typeInfo, hi, hm'.1, hlen, hroom, hsrc]

theorem run_append_grow {e sz by_ : Nat} {xs news z : List Value} {xv : Value} {m len cap : Nat} {a : Option Addr} {w : World}
    [ht : TSlice P t e sz by_] [hn : TNoInt P t'] [hz' : TZero P e z] (hold : ∀ w', w'.heap = w.heap → (Builtin.firstCells sz len (.slice a len cap)).run P w' = .ok xs.toArray w')
    (hsrc : ∀ w', w'.heap = w.heap → (Builtin.firstCells sz m xv).run P w' = .ok news.toArray w') (hlen : (Builtin.lenOf xv).run P w = .ok m w) (hroom : cap < len + m)
    (hb : (2 * (len + m) + 4096) * by_ ≤ 281474976710656) (h63 : (len + m : Int) ≤ 9223372036854775807) (hby : 0 < by_) :
    ∃ c, len + m ≤ c ∧ (Builtin.append_ #[t, t'] ty #[.slice a len cap, xv]).run P w =
      .ok (.slice (some ⟨w.heap.size, 0, none⟩) (len + m) c) (w.drew.alloc (.cells (xs ++ news ++ (Builtin.zeroCells z.toArray (c - (len + m))).toList).toArray e)) := by
  obtain ⟨hu, hsz, hsz0⟩ := ht.out
  have hz := hz'.out
  cases hi : P.info? e with
  | none => rw [hi] at hsz; cases hsz
  | some inf =>
    rw [hi] at hsz hz
    have hm' : inf.size = sz ∧ inf.bytes = by_ := by simpa using hsz
    simp only [Option.bind_some] at hz
    cases hz0 : inf.zero with
    | none => rw [hz0] at hz; cases hz
    | some v0 =>
      rw [hz0] at hz
      have hz1 : v0.cells.toList = z := by simpa using hz
      have hz2 : v0.cells = z.toArray := by rw [← hz1]
      have hcap := nextcap_le (len + m) cap hroom
      have hbig : ¬ (281474976710656 < Builtin.nextslicecap (len + m) cap * by_) := by
        have h1 : Builtin.nextslicecap (len + m) cap * by_ ≤ (2 * (len + m) + 4096) * by_ := Nat.mul_le_mul_right _ hcap
        omega
      have hnr : ¬ (len + m ≤ cap) := by omega
      have hby0 : ¬ by_ = 0 := by omega
      have o1 := hold w.drew rfl
      have o2 := hsrc w.drew rfl
      refine ⟨(Question.appendCap (len + m) cap e).cut (w.tape w.drawn (.appendCap (len + m) cap e)), ?_, ?_⟩
      · simp only [Question.cut]; omega
      · rcases hn.out with ⟨e', hd'⟩ | hd'
        all_goals
          simp [Builtin.append_, run_underlying hu, run_underlying hd', sizeOf, typeInfo, hi, hm'.1, hm'.2, hlen, hnr, hbig, hby0, zeroValue, hz0, hz2, newRow, o1, o2, Question.forced]
          congr 2
          apply Array.ext'
          simp

theorem length_zeroCells (z : List Value) (c : Nat) : (Builtin.zeroCells z.toArray c).toList.length = c * z.length := by simp [Builtin.zeroCells]

theorem Own.old {e sz : Nat} {a : Option Addr} {len cap : Nat} {xs : List Value} {A R : List Atom} (h : Own e sz (.slice a len cap) xs A) : Src P (A ++ R) sz len (.slice a len cap) xs := by
  cases h with
  | nil => exact Src.nil
  | mk hx hc h1 =>
    rename_i b extra
    have := Src.slice (P := P) (H := [.cells b e (xs ++ extra)] ++ R) (sz := sz) (m := len) (len := len) (cap := cap) (b := b) (o := 0) (T := e) (cs := xs ++ extra) (by simp) (by simp; omega)
    rw [List.drop_zero, ← hx, List.take_left] at this
    exact this

/-- append onto an owned slice -/
theorem L.append {e sz by_ d : Nat} {z xs news : List Value} {A R : List Atom} {u xv : Value} {m cnt : Nat}
    [ht : TSlice P t e sz by_] [hn : TNoInt P t'] [hz' : TZero P e z] (hx : evalE env x = some u) (hown : Own e sz u xs A) (hy : evalE env y = some xv)
    (hsrc : Src P H sz m xv news) (hlen : ∀ w, (Builtin.lenOf xv).run P w = .ok m w) (hnl : news.length = m * sz) (h1 : ∀ v ∈ news, v.oneCell' = true)
    (hxl : xs.length = cnt * sz) (hb : (cnt + m) * by_ ≤ 70368744177664 ∧ 2048 * by_ ≤ 70368744177664 ∧ cnt + m ≤ 70368744177664) (hby : 0 < by_) (hzl : z.length = sz)
    (hp : ∀ a : Atom, H.count a = (A ++ R).count a) (hd : Nat.blt d n = true)
    (next : ∀ a' c' A', Own e sz (.slice a' (cnt + m) c') (xs ++ news) A' → L P Q n k ops l ((d, .slice a' (cnt + m) c') :: env) (A' ++ R)) :
    L P Q n k ops (⟨some d, .call ⟨.builtin .append, #[x, y], #[t, t']⟩, ty, pos, after, none⟩ :: l) env H := by
  have hsz0 : 0 < sz := ht.out.2.2
  refine L.e (post := fun v' H' => ∃ A', Own e sz v' (xs ++ news) A' ∧ H' = A' ++ R) ?_ hd (fun v' H' ⟨A', h1, h2⟩ => by
    obtain ⟨a', l', c', rfl, hl'⟩ := h1.len
    have : l' = cnt + m := Nat.eq_of_mul_eq_mul_right hsz0 (by rw [← hl', List.length_append, hxl, hnl, Nat.add_mul])
    subst this
    exact h2 ▸ next a' c' A' h1)
  intro w hs ρ ha d pos after g
  have hs2 : Sat w (A ++ R) := hs.re hp
  have main : ∃ v' w' A', (Builtin.append_ #[t, t'] ty #[u, xv]).run P w = .ok v' w' ∧ Own e sz v' (xs ++ news) A' ∧ Sat w' (A' ++ R) := by
    obtain ⟨a, len, cap, rfl, hlx⟩ := hown.len
    have hcnt : len = cnt := Nat.eq_of_mul_eq_mul_right hsz0 (by rw [← hlx, ← hxl])
    subst hcnt
    by_cases hroom : len + m ≤ cap
    · have hr := run_append_room (P := P) (t := t) (t' := t') (ty := ty) (a := a) (cap := cap) (len := len) (hsrc w hs.toSatH) (hlen w) hroom
      cases hown with
      | nil =>
        have hm0 : m = 0 := by omega
        subst hm0
        have hnn : news = [] := List.eq_nil_of_length_eq_zero (by simpa using hnl)
        subst hnn
        exact ⟨_, w, [], by simpa using hr, Own.nil, hs2⟩
      | @mk b _ _ _ extra hx hc h1' =>
        have hfit : len * sz + m * sz ≤ cap * sz := by rw [← Nat.add_mul]; exact Nat.mul_le_mul_right _ hroom
        obtain ⟨w', hst, hs'⟩ := run_storeCells (A := []) (B := R) (b := b) (T := e) P news 0 (len * sz) (xs ++ extra) w hs2 h1 (by simp; omega)
        rw [Nat.add_zero, ← hx] at hs'
        have hset : setAt (xs ++ extra) xs.length news = (xs ++ news) ++ extra.drop news.length := by
          simp [setAt]
        rw [hset] at hs'
        refine ⟨_, w', _, ?_, Own.mk (b := b) (cap := cap) (extra := extra.drop news.length) ?_ ?_ hroom, hs'⟩
        · rw [hr]
          simp only [add_off, Nat.zero_add, hst, Result.andThen_ok]
        · simp [hx, hnl, Nat.add_mul]
        · simp [hnl]; omega
    · have hrm : cap < len + m := by omega
      have hgt : (2 * (len + m) + 4096) * by_ ≤ 281474976710656 := by
        rw [Nat.add_mul, Nat.mul_assoc]
        have : 4096 * by_ = 2 * (2048 * by_) := by omega
        omega
      obtain ⟨c, hc, hr⟩ := run_append_grow (P := P) (t := t) (t' := t') (ty := ty) (a := a) (cap := cap) (len := len) (m := m) (z := z) (w := w) (by_ := by_) (sz := sz) (xs := xs) (news := news) (xv := xv)
        (fun w' hw' => hown.old (R := R) w' (hs2.toSatH.heap hw')) (fun w' hw' => hsrc w' (hs.toSatH.heap hw')) (hlen w) hrm hgt (by omega) hby
      have hR : Sat w R := hs2.right
      refine ⟨_, _, _, hr, Own.mk (b := w.heap.size) (cap := c) (extra := (Builtin.zeroCells z.toArray (c - (len + m))).toList) ?_ ?_ hc, ?_⟩
      · simp [hlx, hnl, Nat.add_mul]
      · rw [length_zeroCells, hzl]
        simp [hlx, hnl, ← Nat.add_mul]
        congr 1
        omega
      · exact sat_alloc (w := w.drew) (sat_drew hR) e _
  obtain ⟨v', w', A', hr, ho, hs'⟩ := main
  refine ⟨v', A' ++ R, w', .value v', ?_, .inl rfl, hs', A', ho, rfl⟩
  simp [execOp, resolve, ha _ _ hx, ha _ _ hy, invoke, builtin, hr]

theorem lenOf_slice {a : Option Addr} {len cap : Nat} : ∀ w, (Builtin.lenOf (.slice a len cap)).run P w = .ok len w := fun w => rfl
theorem lenOf_str {s : List UInt8} : ∀ w, (Builtin.lenOf (.string ⟨s.toArray⟩)).run P w = .ok s.length w := fun w => by simp [Builtin.lenOf, ByteArray.size]

/-! ## What is put together -/
theorem foldl_set (off : Nat) : ∀ (l : List Value) (k : Nat) (cs : Array Value), off + k + l.length ≤ cs.size →
    (l.zipIdx k).foldl (fun (cs : Array Value) (x : Value × Nat) => cs.setIfInBounds (off + x.2) x.1) cs = (setAt cs.toList (off + k) l).toArray
  | [], k, cs, _ => by rw [setAt_nil]; simp
  | v :: l, k, cs, h => by
    simp only [List.length_cons] at h
    simp only [List.zipIdx_cons, List.foldl_cons]
    rw [foldl_set off l (k + 1) _ (by simp; omega)]
    simp only [Array.toList_setIfInBounds]
    rw [← Nat.add_assoc, setAt_cons (by simpa using (by omega : off + k < cs.size))]

theorem fill_cons {place : Nat → Option (Nat × Nat)} {cs : List Value} {i off : Nat} {v : Value} {vs : List Value} {r : List (Nat × Value)} (hp : place i = some (off, vs.length)) (hv : v.cells = vs.toArray) (hl : off + vs.length ≤ cs.length) :
    Instr.fill place cs.toArray ((i, v) :: r) = Instr.fill place (setAt cs off vs).toArray r := by
  have h1 : ¬ ((decide (v.cells.size ≠ vs.length) || decide (off + v.cells.size > cs.toArray.size)) = true) := by
    rw [hv]; simp; omega
  simp only [Instr.fill, hp]
  rw [if_neg h1, hv]
  congr 1
  rw [← Array.foldl_toList]
  have := foldl_set off vs 0 cs.toArray (by simpa using hl)
  simpa using this

/-- parts of one cell each, put into their places -/
class OneC (v : Value) : Prop where out : v.oneCell' = true
instance {b : Bool} : OneC (.bool b) := ⟨rfl⟩
instance {kk : IntKind} {i : Int} : OneC (.int kk i) := ⟨rfl⟩
instance {s : ByteArray} : OneC (.string s) := ⟨rfl⟩
instance {p : Option Addr} : OneC (.pointer p) := ⟨rfl⟩
instance {p : Option Addr} {len cap : Nat} : OneC (.slice p len cap) := ⟨rfl⟩
instance {p : Option Nat} : OneC (.map p) := ⟨rfl⟩
instance {f : Fn} {p q : Array Value} : OneC (.func f p q) := ⟨rfl⟩
instance : OneC .nilFunc := ⟨rfl⟩
instance : OneC .nilIface := ⟨rfl⟩
instance {t : TypeId} {v : Value} : OneC (.iface t v) := ⟨rfl⟩
theorem OneC.cells {v : Value} (h : OneC v) : v.cells = [v].toArray := by
  have := h.out
  cases v <;> first | rfl | (simp [Value.oneCell'] at this)

class Nth (pl : List (Nat × Nat)) (i : Nat) (off sz : outParam Nat) : Prop where out : pl[i]? = some (off, sz)
instance Nth.zero {off sz : Nat} {r : List (Nat × Nat)} : Nth ((off, sz) :: r) 0 off sz := ⟨rfl⟩
instance Nth.succ {x : Nat × Nat} {r : List (Nat × Nat)} {i off sz : Nat} [h : Nth r i off sz] : Nth (x :: r) (i + 1) off sz := ⟨by rw [List.getElem?_cons_succ, h.out]⟩

class TBuild (P : Program) (t : TypeId) (pl : outParam (List (Nat × Nat))) (z : outParam (List Value)) : Prop where
  out : ∃ fs, P.underlying t = some (.struct fs) ∧ fs.toList.map (fun f => (P.info? f.type).map fun i => (f.offset, i.size)) = pl.map some ∧ TZero P t z

theorem run_places (w : World) : ∀ (fs : List Field) (pl : List (Nat × Nat)), fs.map (fun f => (P.info? f.type).map fun i => (f.offset, i.size)) = pl.map some →
    (fs.mapM (fun f => (do pure (f.offset, ← sizeOf f.type) : Sem (Nat × Nat)))).run P w = .ok pl w
  | [], [], _ => by simp
  | [], _ :: _, h => by simp at h
  | _ :: _, [], h => by simp at h
  | f :: fs, p :: pl, h => by
    simp only [List.map_cons, List.cons.injEq] at h
    have ih := run_places w fs pl h.2
    cases hi : P.info? f.type with
    | none => rw [hi] at h; cases h.1
    | some i =>
      rw [hi] at h
      have h1 : (f.offset, i.size) = p := by simpa using h.1
      have hh : (do pure (f.offset, ← sizeOf f.type) : Sem (Nat × Nat)).run P w = .ok p w := by simp [sizeOf, typeInfo, hi, h1]
      rw [List.mapM_cons, Sem.run_bind, hh]
      simp only [Result.andThen_ok, Sem.run_bind]
      rw [ih]
      rfl

class Fill (pl : List (Nat × Nat)) (cs : List Value) (ps : List (Nat × Value)) (r : outParam (List Value)) : Prop where
  out : Instr.fill (fun i => pl[i]?) cs.toArray ps = some r.toArray
instance Fill.nil {pl : List (Nat × Nat)} {cs : List Value} : Fill pl cs [] cs := ⟨rfl⟩
class InB (o m : Nat) (cs : List Value) : Prop where out : o + m ≤ cs.length
instance InB.z {cs : List Value} : InB 0 0 cs := ⟨by simp⟩
instance InB.zs {v : Value} {m : Nat} {cs : List Value} [h : InB 0 m cs] : InB 0 (m + 1) (v :: cs) := ⟨by have := h.out; simp; omega⟩
instance InB.s {v : Value} {o m : Nat} {cs : List Value} [h : InB o m cs] : InB (o + 1) m (v :: cs) := ⟨by have := h.out; simp; omega⟩
instance Fill.one {pl : List (Nat × Nat)} {cs cs' r : List Value} {i off : Nat} {v : Value} {ps : List (Nat × Value)} [h1 : Nth pl i off 1] [h2 : OneC v] [h3 : InB off 1 cs] [h4 : SetC cs off v cs'] [h5 : Fill pl cs' ps r] : Fill pl cs ((i, v) :: ps) r := ⟨by
  have hl := h3.out
  rw [fill_cons (vs := [v]) (off := off) (by simpa using h1.out) h2.cells (by simpa using hl)]
  have e : setAt cs off [v] = cs' := by
    rw [← setAt_cons (by omega), setAt_nil, h4.out]
  rw [e]
  exact h5.out⟩

def evalPs (env : Env) : List (Nat × Operand) → Option (List (Nat × Value))
  | [] => some []
  | (i, x) :: r => match evalE env x with
    | some v => match evalPs env r with
      | some vs => some ((i, v) :: vs)
      | none => none
    | none => none
theorem evalPs_map {ρ : Operand → Value} (ha : Agrees env ρ) : ∀ {xs : List (Nat × Operand)} {vs : List (Nat × Value)}, evalPs env xs = some vs → xs.map (fun (i, x) => (i, ρ x)) = vs
  | [], vs, h => by cases h; rfl
  | (i, x) :: r, vs, h => by
    simp only [evalPs] at h
    cases hx : evalE env x with
    | none => rw [hx] at h; cases h
    | some v =>
      rw [hx] at h
      cases hr : evalPs env r with
      | none => rw [hr] at h; cases h
      | some us => rw [hr] at h; cases h; simp [ha _ _ hx, evalPs_map ha hr]

theorem o_build {pl : List (Nat × Nat)} {z r : List Value} {parts : List (Nat × Operand)} {ps : List (Nat × Value)} [ht : TBuild P t pl z] (hp : evalPs env parts = some ps) [hf : Fill pl z ps r] :
    Pure P (.build t parts.toArray) ty env H (.agg r.toArray) := fun w _ ρ ha _ _ _ _ => by
  obtain ⟨fs, hu, hpl, hz⟩ := ht.out
  have hzo := hz.out
  cases hi : P.info? t with
  | none => rw [hi] at hzo; cases hzo
  | some inf =>
    rw [hi] at hzo
    simp only [Option.bind_some] at hzo
    cases hz0 : inf.zero with
    | none => rw [hz0] at hzo; cases hzo
    | some v0 =>
      rw [hz0] at hzo
      have hz1 : v0.cells.toList = z := by simpa using hzo
      have hz2 : v0.cells = z.toArray := by rw [← hz1]
      have hps := evalPs_map ha hp
      have hps' : (parts.toArray.map fun (i, x) => (i, ρ x)) = ps.toArray := by simp [← hps]
      have hff := hf.out
      have hpl' : (fs.mapM (fun f => (do pure (f.offset, ← sizeOf f.type) : Sem (Nat × Nat)))).run P w = .ok pl.toArray w := by
        rw [Array.mapM_eq_mapM_toList, Sem.run_map, run_places w _ _ hpl]
        rfl
      simp only [execOp, hps', Instr.build, Sem.run_bind, zeroValue, typeInfo, run_program, Result.andThen_ok, hi, Sem.run_pure, hz0, run_underlying hu, hz2]
      rw [hpl']
      simp only [Result.andThen_ok, List.getElem?_toArray, hff, Sem.run_pure]
      try rfl

theorem L.slice1 {e sz by_ d : Nat} [ht : TSlice P t e sz by_] {z : List Value} [hz' : TZero P e z] (hx : evalE env x = some v) (vs : List Value) (hc : v.cells = vs.toArray) (hvs : vs.length = sz) (hz : z.length = sz) (hd : Nat.blt d n = true) (hsz : sz ≤ 16777216)
    (next : ∀ b, L P Q n k ops l ((d, .slice (some ⟨b, 0, none⟩) 1 1) :: env) (.cells b e vs :: H)) :
    L P Q n k ops (⟨some d, .buildSlice t 1 #[(0, x)], ty, pos, after, none⟩ :: l) env H := by
  refine L.e (post := fun u H' => ∃ b, u = .slice (some ⟨b, 0, none⟩) 1 1 ∧ H' = .cells b e vs :: H) ?_ hd (fun _ _ ⟨b, e1, e2⟩ => e1 ▸ e2 ▸ next b)
  intro w hs ρ ha d pos after g
  obtain ⟨hu, hsz', hsz0⟩ := ht.out
  have hzo := hz'.out
  cases hi : P.info? e with
  | none => rw [hi] at hzo; cases hzo
  | some inf =>
    rw [hi] at hzo hsz'
    have hm' : inf.size = sz ∧ inf.bytes = by_ := by simpa using hsz'
    simp only [Option.bind_some] at hzo
    cases hz0 : inf.zero with
    | none => rw [hz0] at hzo; cases hzo
    | some v0 =>
      rw [hz0] at hzo
      have hz1 : v0.cells.toList = z := by simpa using hzo
      have hz2 : v0.cells = z.toArray := by rw [← hz1]
      refine ⟨_, _, w.alloc (.cells vs.toArray e), .value (.slice (some ⟨w.heap.size, 0, none⟩) 1 1), ?_, .inl rfl, sat_alloc hs e _, ⟨_, rfl, rfl⟩⟩
      have hfill : ∀ Z : Array Value, Z.size = sz → Instr.fill (fun i => some (i * sz, sz)) Z [(0, v)] = some vs.toArray := by
        intro Z hZ
        have hZl : Z = Z.toList.toArray := by simp
        rw [hZl, fill_cons (off := 0) (vs := vs) (by simp [hvs]) hc (by simp [hZ, hvs])]
        simp only [Instr.fill, Option.some.injEq]
        simp [setAt, hvs, hZ, List.drop_of_length_le]
      simp only [execOp, Instr.buildSlice, Sem.run_bind, run_underlying hu, Result.andThen_ok, sizeOf, typeInfo, run_program, hi, Sem.run_pure, hm'.1]
      rw [if_neg (by omega), if_neg (by omega)]
      simp only [Sem.run_bind, zeroValue, typeInfo, run_program, Result.andThen_ok, hi, Sem.run_pure, hz0, hz2]
      have h2 : (Array.map (fun (p : Nat × Operand) => (p.1, ρ p.2)) #[(0, x)]).toList = [(0, v)] := by simp [ha _ _ hx]
      rw [h2, hfill _ (by simp)]
      simp [newRow]

/-! ## Copy -/
theorem L.copy {e sz by_ d len cap m : Nat} {xv : Value} {news : List Value} [ht : TSlice P t e sz by_] (hx : evalE env x = some (.slice (some ⟨b, o, none⟩) len cap)) (hy : evalE env y = some xv)
    [hh : Has H b (.cells b T cs) put] (hlen : ∀ w, (Builtin.lenOf xv).run P w = .ok m w) (hsrc : Src P H sz (min m len) xv news) (hnl : news.length = min m len * sz) (h1 : ∀ v ∈ news, v.oneCell' = true)
    (ho : o + min m len * sz ≤ cs.length) (hd : Nat.blt d n = true)
    (next : L P Q n k ops l ((d, .int .i64 (min m len : Nat)) :: env) (put (.cells b T (setAt cs o news)))) :
    L P Q n k ops (⟨some d, .call ⟨.builtin .copy, #[x, y], #[t, t']⟩, ty, pos, after, none⟩ :: l) env H := by
  refine L.e (post := fun u H' => u = .int .i64 (min m len : Nat) ∧ H' = put (.cells b T (setAt cs o news))) ?_ hd (fun _ _ ⟨e1, e2⟩ => e1 ▸ e2 ▸ next)
  intro w hs ρ ha d pos after g
  obtain ⟨hu, hsz, hsz0⟩ := ht.out
  obtain ⟨A, B, e1, hp⟩ := hh.split
  cases hi : P.info? e with
  | none => rw [hi] at hsz; cases hsz
  | some inf =>
    rw [hi] at hsz
    have hm' : inf.size = sz ∧ inf.bytes = by_ := by simpa using hsz
    obtain ⟨w', hr, hs'⟩ := run_storeCells (A := A) (B := B) (b := b) (T := T) P news 0 o cs w (e1 ▸ hs) h1 (by simpa [hnl] using ho)
    have h2 := hsrc w hs.toSatH
    have h3 := hlen w
    refine ⟨_, _, w', .value (.int .i64 (min m len : Nat)), ?_, .inl rfl, by rw [hp]; exact hs', rfl, rfl⟩
    have h4 : Nat.min m len = min m len := rfl
    simp [execOp, resolve, ha _ _ hx, ha _ _ hy, invoke, builtin, Builtin.copy_, run_underlying hu, sizeOf, typeInfo, hi, hm'.1, h3, h4, h2, hr, goInt]
end
end Go.Proofs.Ytlecgoebbjnnmaa
