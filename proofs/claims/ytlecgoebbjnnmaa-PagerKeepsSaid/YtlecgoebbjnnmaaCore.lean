/- The proof frame of this seat: worlds as lists of atoms (blocks with their contents), and the rules by which code is gone through. -/
import Derived.WalkKit
import Derived.Deep.Quiet
import Derived.StillTail
import Derived.KernelRfl
namespace Go.Proofs.Ytlecgoebbjnnmaa
open Go
set_option linter.unusedVariables false
set_option linter.unusedSectionVars false
set_option linter.unusedSimpArgs false

/-! ## Atoms -/
inductive Atom where
  | cells (b : Nat) (T : TypeId) (cs : List Value)
  | map (b : Nat) (es : List MapEntry) (clock : Nat)
  | raw (b : Nat) (o : Obj)

def Atom.blk : Atom → Nat
  | .cells b _ _ => b
  | .map b _ _ => b
  | .raw b _ => b

def Atom.holds (x : Atom) (h : Array Obj) : Prop := match x with
  | .cells b T cs => ∃ fr : Nat × Nat, (fr = (0, 0) ∨ cs.length ≤ fr.1) ∧ h[b]? = some (.cells cs.toArray T fr)
  | .map b es k => h[b]? = some (.map es.toArray k)
  | .raw b o => h[b]? = some o

theorem Atom.holds_of_same {h h' : Array Obj} {x : Atom} (hx : x.holds h) (e : h'[x.blk]? = h[x.blk]?) : x.holds h' := by
  cases x <;> simp only [Atom.holds, Atom.blk] at * <;> rw [e] <;> exact hx

theorem Atom.blk_lt {h : Array Obj} {x : Atom} (hx : x.holds h) : x.blk < h.size := by
  have key : ∀ o, h[x.blk]? = some o → x.blk < h.size := fun o ho => (Array.getElem?_eq_some_iff.1 ho).1
  cases x with
  | cells b T cs => obtain ⟨fr, _, hh⟩ := hx; exact key _ hh
  | map b es k => exact key _ hx
  | raw b o => exact key _ hx

structure SatH (w : World) (H : List Atom) : Prop where
  holds : ∀ x ∈ H, x.holds w.heap
  apart : H.Pairwise (fun x y => x.blk ≠ y.blk)

noncomputable instance : DecidableEq Atom := fun a b => Classical.propDecidable (a = b)

namespace SatH
variable {w w' : World} {H H' A B : List Atom} {x y : Atom}

theorem perm (hs : SatH w H) (h : H.Perm H') : SatH w H' :=
  ⟨fun x hx => hs.holds x (h.mem_iff.2 hx), h.pairwise hs.apart (fun h => h.symm)⟩

theorem re (hs : SatH w H) (h : ∀ a : Atom, H.count a = H'.count a) : SatH w H' := hs.perm (List.perm_iff_count.2 h)

theorem nil : SatH w [] := ⟨fun x hx => (by cases hx), List.Pairwise.nil⟩

theorem right (hs : SatH w (A ++ B)) : SatH w B :=
  ⟨fun x hx => hs.holds x (List.mem_append_right _ hx), (List.pairwise_append.1 hs.apart).2.1⟩

theorem left (hs : SatH w (A ++ B)) : SatH w A :=
  ⟨fun x hx => hs.holds x (List.mem_append_left _ hx), (List.pairwise_append.1 hs.apart).1⟩

theorem tail (hs : SatH w (x :: B)) : SatH w B := right (A := [x]) hs

theorem sub (hs : SatH w H) (h : H'.Sublist H) : SatH w H' :=
  ⟨fun x hx => hs.holds x (h.mem hx), hs.apart.sublist h⟩

theorem heap (hs : SatH w H) (h : w'.heap = w.heap) : SatH w' H := ⟨fun x hx => by rw [h]; exact hs.holds x hx, hs.apart⟩

theorem same (hs : SatH w H) (h : ∀ b, b < w.heap.size → w'.heap[b]? = w.heap[b]?) : SatH w' H :=
  ⟨fun x hx => Atom.holds_of_same (hs.holds x hx) (h _ (Atom.blk_lt (hs.holds x hx))), hs.apart⟩

/-- one new block -/
theorem new (hs : SatH w H) (hb : x.blk = w.heap.size) (hx : x.holds w'.heap) (h : ∀ b, b < w.heap.size → w'.heap[b]? = w.heap[b]?) : SatH w' (x :: H) :=
  ⟨fun y hy => by
    rcases List.mem_cons.1 hy with rfl | hy
    · exact hx
    · exact Atom.holds_of_same (hs.holds y hy) (h _ (Atom.blk_lt (hs.holds y hy))),
   List.pairwise_cons.2 ⟨fun y hy e => by have := Atom.blk_lt (hs.holds y hy); omega, hs.apart⟩⟩

theorem head_ne (hs : SatH w (x :: B)) (hy : y ∈ B) : x.blk ≠ y.blk := (List.pairwise_cons.1 hs.apart).1 y hy

/-- one block turned -/
theorem upd (hs : SatH w (A ++ x :: B)) (hb : y.blk = x.blk) (hy : y.holds w'.heap) (h : ∀ b, b ≠ x.blk → w'.heap[b]? = w.heap[b]?) : SatH w' (A ++ y :: B) := by
  have hp : (A ++ x :: B).Perm (x :: (A ++ B)) := List.perm_middle
  have h1 : SatH w (x :: (A ++ B)) := hs.perm hp
  have h2 : SatH w' (y :: (A ++ B)) := by
    refine ⟨fun z hz => ?_, List.pairwise_cons.2 ⟨fun z hz => by rw [hb]; exact h1.head_ne hz, (List.pairwise_cons.1 h1.apart).2⟩⟩
    rcases List.mem_cons.1 hz with rfl | hz
    · exact hy
    · exact Atom.holds_of_same (h1.holds z (List.mem_cons_of_mem _ hz)) (h _ (fun e => h1.head_ne hz e.symm))
  exact h2.perm List.perm_middle.symm

theorem cell {b T : Nat} {cs : List Value} (hs : SatH w H) (hm : Atom.cells b T cs ∈ H) (i : Nat) : w.cell? ⟨b, i, none⟩ = cs[i]? := by
  obtain ⟨fr, _, hh⟩ := hs.holds _ hm
  simp [World.cell?, hh]

theorem frozen {b T : Nat} {cs : List Value} (hs : SatH w H) (hm : Atom.cells b T cs ∈ H) (i : Nat) (hi : i < cs.length) : w.frozen? ⟨b, i, none⟩ = false := by
  obtain ⟨fr, hf, hh⟩ := hs.holds _ hm
  obtain ⟨lo, hi'⟩ := fr
  rcases hf with hf | hf
  · cases hf; simp [World.frozen?, hh]
  · simp only [World.frozen?, hh]
    simp only at hf
    have : ¬ (lo ≤ i) := by omega
    simp [this]
end SatH


/-- the world at the start: its streams stay as they are -/
class Ref where
  w : World

structure Sat [Ref] (w : World) (H : List Atom) : Prop extends SatH w H where
  os : w.os = Ref.w.os
  tape : w.tape = Ref.w.tape
  output : w.output = Ref.w.output

namespace Sat
variable [Ref] {w w' : World} {H H' A B : List Atom} {x y : Atom}

theorem perm (hs : Sat w H) (h : H.Perm H') : Sat w H' := ⟨hs.toSatH.perm h, hs.os, hs.tape, hs.output⟩
theorem re (hs : Sat w H) (h : ∀ a : Atom, H.count a = H'.count a) : Sat w H' := hs.perm (List.perm_iff_count.2 h)
theorem right (hs : Sat w (A ++ B)) : Sat w B := ⟨hs.toSatH.right, hs.os, hs.tape, hs.output⟩
theorem left (hs : Sat w (A ++ B)) : Sat w A := ⟨hs.toSatH.left, hs.os, hs.tape, hs.output⟩
theorem tail (hs : Sat w (x :: B)) : Sat w B := right (A := [x]) hs
theorem sub (hs : Sat w H) (h : H'.Sublist H) : Sat w H' := ⟨hs.toSatH.sub h, hs.os, hs.tape, hs.output⟩
theorem heap (hs : Sat w H) (h : w'.heap = w.heap) (ho : w'.os = w.os := by rfl) (ht : w'.tape = w.tape := by rfl) (hu : w'.output = w.output := by rfl) : Sat w' H :=
  ⟨hs.toSatH.heap h, ho.trans hs.os, ht.trans hs.tape, hu.trans hs.output⟩
theorem new (hs : Sat w H) (hb : x.blk = w.heap.size) (hx : x.holds w'.heap) (h : ∀ b, b < w.heap.size → w'.heap[b]? = w.heap[b]?)
    (ho : w'.os = w.os := by rfl) (ht : w'.tape = w.tape := by rfl) (hu : w'.output = w.output := by rfl) : Sat w' (x :: H) :=
  ⟨hs.toSatH.new hb hx h, ho.trans hs.os, ht.trans hs.tape, hu.trans hs.output⟩
theorem upd (hs : Sat w (A ++ x :: B)) (hb : y.blk = x.blk) (hy : y.holds w'.heap) (h : ∀ b, b ≠ x.blk → w'.heap[b]? = w.heap[b]?)
    (ho : w'.os = w.os := by rfl) (ht : w'.tape = w.tape := by rfl) (hu : w'.output = w.output := by rfl) : Sat w' (A ++ y :: B) :=
  ⟨hs.toSatH.upd hb hy h, ho.trans hs.os, ht.trans hs.tape, hu.trans hs.output⟩
end Sat

/-- where an atom stands in a list, and the list with another one in its place -/
class Has (H : List Atom) (b : Nat) (x : outParam Atom) (put : outParam (Atom → List Atom)) : Prop where
  at_ : x.blk = b ∧ ∃ A B, H = A ++ x :: B ∧ ∀ y, put y = A ++ y :: B

instance (priority := high) Has.headC {b T cs} {H : List Atom} : Has (.cells b T cs :: H) b (.cells b T cs) (fun y => y :: H) := ⟨rfl, [], H, rfl, fun _ => rfl⟩
instance (priority := high) Has.headM {b es k} {H : List Atom} : Has (.map b es k :: H) b (.map b es k) (fun y => y :: H) := ⟨rfl, [], H, rfl, fun _ => rfl⟩
instance Has.tail {z : Atom} {H : List Atom} {b : Nat} {x : Atom} {put : Atom → List Atom} [h : Has H b x put] : Has (z :: H) b x (fun y => z :: put y) := by
  obtain ⟨hb, A, B, e, hp⟩ := h.at_
  exact ⟨hb, z :: A, B, by rw [e]; rfl, fun y => by rw [hp]; rfl⟩
instance Has.appR {L H : List Atom} {b : Nat} {x : Atom} {put : Atom → List Atom} [h : Has H b x put] : Has (L ++ H) b x (fun y => L ++ put y) := by
  obtain ⟨hb, A, B, e, hp⟩ := h.at_
  exact ⟨hb, L ++ A, B, by rw [e]; simp, fun y => by rw [hp]; simp⟩
instance Has.appL {L H : List Atom} {b : Nat} {x : Atom} {put : Atom → List Atom} [h : Has L b x put] : Has (L ++ H) b x (fun y => put y ++ H) := by
  obtain ⟨hb, A, B, e, hp⟩ := h.at_
  exact ⟨hb, A, B ++ H, by rw [e]; simp, fun y => by rw [hp]; simp⟩

theorem Has.mem {H : List Atom} {b : Nat} {x : Atom} {put : Atom → List Atom} (h : Has H b x put) : x ∈ H := by
  obtain ⟨_, A, B, e, _⟩ := h.at_
  rw [e]; simp

theorem Has.upd [Ref] {H : List Atom} {b : Nat} {x y : Atom} {put : Atom → List Atom} {w w' : World} (h : Has H b x put) (hs : Sat w H) (hb : y.blk = b) (hy : y.holds w'.heap)
    (he : ∀ c, c ≠ b → w'.heap[c]? = w.heap[c]?) (ho : w'.os = w.os := by rfl) (ht : w'.tape = w.tape := by rfl) (hu : w'.output = w.output := by rfl) : Sat w' (put y) := by
  obtain ⟨hb', A, B, e, hp⟩ := h.at_
  rw [hp]
  rw [e] at hs
  exact hs.upd (by rw [hb, hb']) hy (by rw [hb']; exact he) ho ht hu

/-! ## The frame of slots -/
abbrev Env := List (Nat × Value)

def look : Env → Nat → Option Value
  | [], _ => none
  | (t', v) :: r, t => bif Nat.beq t' t then some v else look r t

def evalE (env : Env) : Operand → Option Value
  | .tmp t => look env t
  | .const v => some v
  | .global g => some (.pointer (some ⟨g, 0, none⟩))
  | .func f => some (.func (.func f) #[] #[])

def putE (d : Option Nat) (v : Value) (env : Env) : Env :=
  match d with
  | some t => (t, v) :: env
  | none => env

def inE (n : Nat) : Option Nat → Bool
  | some t => Nat.blt t n
  | none => true

structure Fits (n : Nat) (env : Env) (a : Act) : Prop where
  size : a.tmps.size = n
  defers : a.defers = []
  get : ∀ t v, look env t = some v → a.tmps.getD t undef = v

theorem Fits.eval {n : Nat} {env : Env} {a : Act} (h : Fits n env a) {x : Operand} {v : Value} (hx : evalE env x = some v) : a.eval x = v := by
  cases x with
  | tmp t => exact h.get t v hx
  | const u => exact Option.some.inj hx
  | global g => exact Option.some.inj hx
  | func f => exact Option.some.inj hx

theorem Fits.put {n : Nat} {env : Env} {a : Act} (h : Fits n env a) {d : Option Nat} (hd : inE n d = true) (v : Value) : Fits n (putE d v env) (a.put d v) := by
  cases d with
  | none => exact h
  | some t =>
    have ht : t < n := by simpa [inE] using hd
    refine ⟨by simp [Act.put, h.size], by simp [Act.put, h.defers], fun u x hu => ?_⟩
    simp only [putE, look] at hu
    by_cases e : t = u
    · subst e
      simp only [Nat.beq_refl, cond_true, Option.some.injEq] at hu
      subst hu
      simp [Act.put, h.size, ht]
    · have hb : Nat.beq t u = false := by
        cases hq : Nat.beq t u with
        | false => rfl
        | true => exact absurd (Nat.eq_of_beq_eq_true hq) e
      rw [hb] at hu
      have := h.get u x hu
      simp only [Act.put]
      rw [← this]
      rw [Array.getD_eq_getD_getElem?, Array.getD_eq_getD_getElem?, Array.getElem?_setIfInBounds_ne e]

/-- entries may be dropped, or told anew -/
theorem Fits.weaken {n : Nat} {env env' : Env} {a : Act} (h : Fits n env a) (he : ∀ t v, look env' t = some v → look env t = some v) : Fits n env' a :=
  ⟨h.size, h.defers, fun t v hv => h.get t v (he t v hv)⟩

/-! ## The judgements -/
inductive K where
  | code (c : Code)
  | blk (id : Nat)
  | loop (I : Act → World → Prop)

def Kq (P : Program) (Q : Exit → Act → World → Prop) : List K → Exit → Act → World → Prop
  | [] => Q
  | .code c :: k => Exit.then (c.wp P (Kq P Q k)) (Kq P Q k)
  | .blk id :: k => Exit.inBlock id (Kq P Q k)
  | .loop I :: k => Exit.then I (Kq P Q k)

/-- what is left to do is 'k' -/
def S [Ref] (P : Program) (Q : Exit → Act → World → Prop) (n : Nat) (k : List K) (env : Env) (H : List Atom) : Prop :=
  ∀ a w, Fits n env a → Sat w H → Kq P Q k .normal a w

/-- within a region -/
def L [Ref] (P : Program) (Q : Exit → Act → World → Prop) (n : Nat) (k : List K) (ops : Array Oper) (l : List Oper) (env : Env) (H : List Atom) : Prop :=
  ∀ a w, Fits n env a → Sat w H → wpList P ops (Kq P Q k) l a w

section rules
variable [Ref] {P : Program} {Q : Exit → Act → World → Prop} {n : Nat} {k : List K} {env : Env} {H : List Atom}

theorem S.seq {x y : Code} (h : S P Q n (.code x :: .code y :: k) env H) : S P Q n (.code (.seq x y) :: k) env H := fun a w ha hs =>
  wp_seq (h a w ha hs)

theorem S.skip (h : S P Q n k env H) : S P Q n (.code .skip :: k) env H := fun a w ha hs => wp_skip (h a w ha hs)

theorem S.block {id : Nat} {c : Code} (h : S P Q n (.code c :: .blk id :: k) env H) : S P Q n (.code (.block id c) :: k) env H := fun a w ha hs =>
  wp_block (h a w ha hs)

theorem S.pop {id : Nat} (h : S P Q n k env H) : S P Q n (.blk id :: k) env H := fun a w ha hs => h a w ha hs

def exitK (id : Nat) : List K → Option (List K)
  | [] => none
  | .blk i :: k => bif Nat.beq i id then some k else exitK id k
  | .code _ :: k => exitK id k
  | .loop _ :: k => exitK id k

theorem Kq_exit {id : Nat} : ∀ {k k' : List K}, exitK id k = some k' → ∀ a w, Kq P Q k' .normal a w → Kq P Q k (.exit id) a w
  | [], _, h, _, _, _ => by cases h
  | .blk i :: k, k', h, a, w, hq => by
    simp only [exitK] at h
    by_cases e : i = id
    · subst e
      simp only [Nat.beq_refl, cond_true, Option.some.injEq] at h
      subst h
      simp only [Kq, Exit.inBlock, if_true]
      exact hq
    · have hb : Nat.beq i id = false := by
        cases hx : Nat.beq i id with
        | false => rfl
        | true => exact absurd (Nat.eq_of_beq_eq_true hx) e
      rw [hb] at h
      simp only [Kq, Exit.inBlock]
      rw [if_neg (fun x => e x.symm)]
      exact Kq_exit h a w hq
  | .code c :: k, k', h, a, w, hq => by simp only [Kq, Exit.then]; exact Kq_exit (k := k) h a w hq
  | .loop c :: k, k', h, a, w, hq => by simp only [Kq, Exit.then]; exact Kq_exit (k := k) h a w hq

theorem S.exit {id : Nat} {k' : List K} (hk : exitK id k = some k') (h : S P Q n k' env H) : S P Q n (.code (.exit id) :: k) env H := fun a w ha hs =>
  wp_exit (Kq_exit hk a w (h a w ha hs))

theorem Kq_ret : ∀ (k : List K) (a : Act) (w : World), Q .ret a w → Kq P Q k .ret a w
  | [], _, _, h => h
  | .code _ :: k, a, w, h => Kq_ret k a w h
  | .blk _ :: k, a, w, h => Kq_ret k a w h
  | .loop _ :: k, a, w, h => Kq_ret k a w h

theorem S.ret (h : ∀ a w, Fits n env a → Sat w H → Q .ret a w) : S P Q n (.code .ret :: k) env H := fun a w ha hs => wp_ret (Kq_ret k a w (h a w ha hs))
theorem S.nil (h : ∀ a w, Fits n env a → Sat w H → Q .normal a w) : S P Q n [] env H := h

theorem S.condT {c : Operand} {x y : Code} (hc : evalE env c = some (.bool true)) (h : S P Q n (.code x :: k) env H) : S P Q n (.code (.cond c x y) :: k) env H :=
  fun a w ha hs => wp_cond_true (ha.eval hc) (h a w ha hs)
theorem S.condF {c : Operand} {x y : Code} (hc : evalE env c = some (.bool false)) (h : S P Q n (.code y :: k) env H) : S P Q n (.code (.cond c x y) :: k) env H :=
  fun a w ha hs => wp_cond_false (ha.eval hc) (h a w ha hs)
theorem S.condD {p : Prop} [Decidable p] {c : Operand} {x y : Code} (hc : evalE env c = some (.bool (decide p))) (h1 : p → S P Q n (.code x :: k) env H) (h2 : ¬ p → S P Q n (.code y :: k) env H) :
    S P Q n (.code (.cond c x y) :: k) env H := fun a w ha hs => by
  by_cases hp : p
  · exact wp_cond_true (by rw [ha.eval hc]; simp [hp]) (h1 hp a w ha hs)
  · exact wp_cond_false (by rw [ha.eval hc]; simp [hp]) (h2 hp a w ha hs)
theorem S.condB {b : Bool} {c : Operand} {x y : Code} (hc : evalE env c = some (.bool b)) (h1 : b = true → S P Q n (.code x :: k) env H) (h2 : b = false → S P Q n (.code y :: k) env H) :
    S P Q n (.code (.cond c x y) :: k) env H := fun a w ha hs => by
  cases b with
  | true => exact wp_cond_true (ha.eval hc) (h1 rfl a w ha hs)
  | false => exact wp_cond_false (ha.eval hc) (h2 rfl a w ha hs)

theorem S.region {id : Nat} {l : List Oper} (h : L P Q n k l.toArray l env H) : S P Q n (.code (.region id l.toArray false) :: k) env H := fun a w ha hs =>
  wp_region_lit (h a w ha hs)

theorem L.nil {ops : Array Oper} (h : S P Q n k env H) : L P Q n k ops [] env H := fun a w ha hs => wpList_nil (h a w ha hs)

/-- the frame and the atoms told anew -/
theorem S.turn {env' : Env} {H' : List Atom} (he : ∀ t v, look env' t = some v → look env t = some v) (hh : ∀ w, Sat w H → Sat w H') (h : S P Q n k env' H') : S P Q n k env H := fun a w ha hs =>
  h a w (ha.weaken he) (hh w hs)
theorem L.turn {env' : Env} {H' : List Atom} {ops : Array Oper} {l : List Oper} (he : ∀ t v, look env' t = some v → look env t = some v) (hh : ∀ w, Sat w H → Sat w H') (h : L P Q n k ops l env' H') : L P Q n k ops l env H :=
  fun a w ha hs => h a w (ha.weaken he) (hh w hs)
theorem S.re {H' : List Atom} (h : S P Q n k env H') (hh : ∀ a : Atom, H.count a = H'.count a) : S P Q n k env H := fun a w ha hs => h a w ha (hs.re hh)
theorem L.re {H' : List Atom} {ops : Array Oper} {l : List Oper} (h : L P Q n k ops l env H') (hh : ∀ a : Atom, H.count a = H'.count a) : L P Q n k ops l env H := fun a w ha hs => h a w ha (hs.re hh)

/-- only some slots are kept -/
def keepE (ts : List Nat) (env : Env) : Env := ts.filterMap fun t => (look env t).map fun v => (t, v)
theorem look_keep (ts : List Nat) (env : Env) : ∀ t v, look (keepE ts env) t = some v → look env t = some v := by
  induction ts with
  | nil => intro t v h; cases h
  | cons t' ts ih =>
    intro t v h
    have e : keepE (t' :: ts) env = (match look env t' with | some u => [(t', u)] | none => []) ++ keepE ts env := by
      simp only [keepE, List.filterMap_cons]
      cases look env t' <;> simp
    rw [e] at h
    cases hl : look env t' with
    | none => rw [hl] at h; exact ih t v h
    | some u =>
      rw [hl] at h
      simp only [List.cons_append, List.nil_append, look] at h
      cases hb : Nat.beq t' t with
      | true =>
        rw [hb] at h
        have := Nat.eq_of_beq_eq_true hb
        subst this
        simp only [cond_true, Option.some.injEq] at h
        subst h; exact hl
      | false => rw [hb] at h; exact ih t v h
theorem S.keep (ts : List Nat) (h : S P Q n k (keepE ts env) H) : S P Q n k env H := fun a w ha hs => h a w (ha.weaken (look_keep ts env)) hs
theorem L.keep {ops : Array Oper} {l : List Oper} (ts : List Nat) (h : L P Q n k ops l (keepE ts env) H) : L P Q n k ops l env H := fun a w ha hs => h a w (ha.weaken (look_keep ts env)) hs

/-- the entries of one frame stand in another one -/
def subE : Env → Env → Prop
  | [], _ => True
  | (t, v) :: r, big => look big t = some v ∧ subE r big
theorem look_sub : ∀ {small big : Env}, subE small big → ∀ t v, look small t = some v → look big t = some v
  | [], _, _, _, _, h => by cases h
  | (t', u) :: r, big, hs, t, v, h => by
    simp only [look] at h
    cases hb : Nat.beq t' t with
    | true =>
      rw [hb] at h
      have := Nat.eq_of_beq_eq_true hb
      subst this
      simp only [cond_true, Option.some.injEq] at h
      subst h; exact hs.1
    | false => rw [hb] at h; exact look_sub hs.2 t v h

/-- A loop: 'G' are its ghosts; in each round's head the frame is 'e g', the atoms are 'h g', 'ok g' holds. -/
theorem S.loop {G : Type} (ok : G → Prop) (e : G → Env) (h : G → List Atom) (μ : G → Nat) {c : Code} (g0 : G) (h0 : ok g0) (he0' : subE (e g0) env) (hh0 : ∀ w, Sat w H → Sat w (h g0))
    (round : ∀ g m, ok g → μ g = m → S P Q n (.code c :: .loop (fun a w => ∃ g', (ok g' ∧ μ g' < m) ∧ Fits n (e g') a ∧ Sat w (h g')) :: k) (e g) (h g)) :
    S P Q n (.code (.loop c) :: k) env H := fun a w ha hs => by
  have he0 := look_sub he0'
  intro b kk cs
  have key : ∀ m a w g, μ g = m → ok g → Fits n (e g) a → Sat w (h g) →
      ∃ ex a' w', Kq P Q k ex a' w' ∧ Arrives P (lone (b.at a (.code c :: .inLoop c :: kk)) cs w) b kk cs ex a' w' := by
    intro m
    induction m using Nat.strongRecOn with
    | _ m ih =>
      intro a w g hm hg hf hsat
      obtain ⟨ex, a₁, w₁, hq, harr⟩ := round g (μ g) hg rfl a w hf hsat b (.inLoop c :: kk) cs
      cases ex with
      | normal =>
        obtain ⟨g', ⟨hok, hlt⟩, hf', hs'⟩ := hq
        obtain ⟨e₂, a₂, w₂, hq₂, harr₂⟩ := ih (μ g') (hm ▸ hlt) a₁ w₁ g' rfl hok hf' hs'
        exact ⟨e₂, a₂, w₂, hq₂, .of_steps (Steps.trans harr (.one step_inLoop)) harr₂⟩
      | exit id => exact ⟨_, a₁, w₁, hq, .pass (x := .inLoop c) rfl (fun _ _ => .inl (by simp)) harr⟩
      | goto l => exact ⟨_, a₁, w₁, hq, .pass (x := .inLoop c) rfl (fun _ _ => .inl (by simp)) harr⟩
      | ret => exact ⟨_, a₁, w₁, hq, .pass (x := .inLoop c) rfl (fun _ _ => .inl (by simp)) harr⟩
      | panic ch => exact ⟨_, a₁, w₁, hq, .pass (x := .inLoop c) rfl (fun _ _ => .inl (by simp)) harr⟩
      | outgrown => exact ⟨_, a₁, w₁, hq, .pass (x := .inLoop c) rfl (fun _ _ => .inl (by simp)) harr⟩
  obtain ⟨ex, a', w', hq, harr⟩ := key _ a w g0 rfl h0 (ha.weaken he0) (hh0 w hs)
  exact ⟨ex, a', w', hq, .of_steps (.one step_loop) harr⟩

theorem S.again {G : Type} {ok : G → Prop} {e : G → Env} {h : G → List Atom} {μ : G → Nat} {m : Nat} (g' : G) (h1 : ok g') (h2 : μ g' < m) (h3 : subE (e g') env) (h4 : ∀ w, Sat w H → Sat w (h g')) :
    S P Q n (.loop (fun a w => ∃ g', (ok g' ∧ μ g' < m) ∧ Fits n (e g') a ∧ Sat w (h g')) :: k) env H := fun a w ha hs => ⟨g', ⟨h1, h2⟩, ha.weaken (look_sub h3), h4 w hs⟩
theorem S.round {I : Act → World → Prop} (h : ∀ a w, Fits n env a → Sat w H → I a w) : S P Q n (.loop I :: k) env H := h
/-- a piece of code by itself: what stands behind it is gone through once -/
theorem S.cut {G : Type} (ok : G → Prop) (e : G → Env) (h : G → List Atom) {c : Code} (h1 : S P Q n (.code c :: .loop (fun a w => ∃ g, ok g ∧ Fits n (e g) a ∧ Sat w (h g)) :: k) env H)
    (h2 : ∀ g, ok g → S P Q n k (e g) (h g)) : S P Q n (.code c :: k) env H := fun a w ha hs => by
  refine Code.wp_mono (fun ex a' w' hq => ?_) (h1 a w ha hs)
  cases ex with
  | normal =>
    obtain ⟨g, hg, hf, hs'⟩ := hq
    exact h2 g hg a' w' hf hs'
  | exit id => exact hq
  | goto l => exact hq
  | ret => exact hq
  | panic ch => exact hq
  | outgrown => exact hq
end rules
attribute [irreducible] S L
end Go.Proofs.Ytlecgoebbjnnmaa
