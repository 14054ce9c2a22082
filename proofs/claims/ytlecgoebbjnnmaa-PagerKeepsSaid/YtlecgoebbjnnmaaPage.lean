/- Lists that are looked through; heads of states. -/
import Derived.Test.YtlecgoebbjnnmaaCrc
set_option linter.unusedVariables false
set_option linter.unusedSimpArgs false
set_option linter.unusedSectionVars false
set_option linter.constructorNameAsVariable false
set_option maxRecDepth 100000
set_option maxHeartbeats 4000000
namespace Go.Proofs.Ytlecgoebbjnnmaa
open Go
variable [Ref]

theorem vb_ne {a b : UInt8} : ((a.toNat : Int) = (b.toNat : Int)) ↔ a = b := by
  constructor
  · intro h; exact UInt8.toNat_inj.1 (by omega)
  · rintro rfl; rfl

theorem equal_calls {w : World} {H : List Atom} {v1 v2 : Value} {l1 l2 : List UInt8} (h1 : BytesIn H v1 l1) (h2 : BytesIn H v2 l2) (hl : l1.length ≤ 1000000000) (hs : Sat w H) :
    Calls Try.prog 86 [v1, v2].toArray w (fun e w' => e = .returned (.bool (decide (l1 = l2))) ∧ Sat w' H) := by
  obtain ⟨a1, cap1, rfl, hat1⟩ := h1.at
  obtain ⟨a2, cap2, rfl, hat2⟩ := h2.at
  refine enter Try.func86 rfl Try.ntmps86 rfl hs ?_
  (repeat (first | refine S.seq ?_ | refine S.region ?_ | refine L.nil ?_ | refine L.p (by first | exact o_assign rfl | exact o_move rfl | exact o_lenS rfl | exact o_lenStr rfl | exact o_ne rfl rfl | exact o_ptrNilN rfl rfl | exact o_nilNilN rfl rfl | exact o_lt rfl rfl | exact o_idx rfl rfl (by omega) | exact o_idxA rfl rfl (by omega) | exact o_load rfl rfl | exact o_load rfl (by assumption) | exact o_add rfl rfl (by unfold I64; omega)) rfl ?_ | refine S.block ?_ | refine S.pop ?_ | refine S.skip ?_ | refine S.exit rfl ?_ | refine S.condT rfl ?_ | refine S.condF rfl ?_ | refine S.qt (id := 6) 9 (by kernel_rfl) (by kernel_rfl) ?_ | refine Ql.nil ?_ | refine Ql.p (by first | exact o_assign rfl | exact o_move rfl | exact o_lenS rfl | exact o_lenStr rfl | exact o_ne rfl rfl | exact o_ptrNilN rfl rfl | exact o_nilNilN rfl rfl | exact o_lt rfl rfl | exact o_idx rfl rfl (by omega) | exact o_idxA rfl rfl (by omega) | exact o_load rfl rfl | exact o_load rfl (by assumption) | exact o_add rfl rfl (by unfold I64; omega)) rfl ?_))
  refine S.condD rfl (fun hne => ?_) (fun hne => ?_)
  · (repeat (first | refine S.seq ?_ | refine S.region ?_ | refine L.nil ?_ | refine L.p (by first | exact o_assign rfl | exact o_move rfl | exact o_lenS rfl | exact o_lenStr rfl | exact o_ne rfl rfl | exact o_ptrNilN rfl rfl | exact o_nilNilN rfl rfl | exact o_lt rfl rfl | exact o_idx rfl rfl (by omega) | exact o_idxA rfl rfl (by omega) | exact o_load rfl rfl | exact o_load rfl (by assumption) | exact o_add rfl rfl (by unfold I64; omega)) rfl ?_ | refine S.block ?_ | refine S.pop ?_ | refine S.skip ?_ | refine S.exit rfl ?_ | refine S.condT rfl ?_ | refine S.condF rfl ?_ | refine S.qt (id := 6) 9 (by kernel_rfl) (by kernel_rfl) ?_ | refine Ql.nil ?_ | refine Ql.p (by first | exact o_assign rfl | exact o_move rfl | exact o_lenS rfl | exact o_lenStr rfl | exact o_ne rfl rfl | exact o_ptrNilN rfl rfl | exact o_nilNilN rfl rfl | exact o_lt rfl rfl | exact o_idx rfl rfl (by omega) | exact o_idxA rfl rfl (by omega) | exact o_load rfl rfl | exact o_load rfl (by assumption) | exact o_add rfl rfl (by unfold I64; omega)) rfl ?_))
    refine S.fin (Fin.one rfl (RV.tmp rfl)) (fun w hs => ?_)
    exact ⟨ret_congr (by have : l1 ≠ l2 := fun e => hne (by rw [e]); simp [this]), hs⟩
  · have hlen : l1.length = l2.length := by omega
    (repeat (first | refine S.seq ?_ | refine S.region ?_ | refine L.nil ?_ | refine L.p (by first | exact o_assign rfl | exact o_move rfl | exact o_lenS rfl | exact o_lenStr rfl | exact o_ne rfl rfl | exact o_ptrNilN rfl rfl | exact o_nilNilN rfl rfl | exact o_lt rfl rfl | exact o_idx rfl rfl (by omega) | exact o_idxA rfl rfl (by omega) | exact o_load rfl rfl | exact o_load rfl (by assumption) | exact o_add rfl rfl (by unfold I64; omega)) rfl ?_ | refine S.block ?_ | refine S.pop ?_ | refine S.skip ?_ | refine S.exit rfl ?_ | refine S.condT rfl ?_ | refine S.condF rfl ?_ | refine S.qt (id := 6) 9 (by kernel_rfl) (by kernel_rfl) ?_ | refine Ql.nil ?_ | refine Ql.p (by first | exact o_assign rfl | exact o_move rfl | exact o_lenS rfl | exact o_lenStr rfl | exact o_ne rfl rfl | exact o_ptrNilN rfl rfl | exact o_nilNilN rfl rfl | exact o_lt rfl rfl | exact o_idx rfl rfl (by omega) | exact o_idxA rfl rfl (by omega) | exact o_load rfl rfl | exact o_load rfl (by assumption) | exact o_add rfl rfl (by unfold I64; omega)) rfl ?_))
    refine S.loop (G := Nat) (fun i => i ≤ l1.length ∧ l1.take i = l2.take i)
      (fun i => [(0, .slice a1 l1.length cap1), (1, .slice a2 l2.length cap2), (12, .int .i64 l1.length), (13, .int .i64 i)])
      (fun i => H) (fun i => l1.length - i) 0 ⟨by simp, by simp⟩ (by repeat (first | exact trivial | refine ⟨rfl, ?_⟩)) (fun w hs => hs) ?_
    rintro i m ⟨h3, h4⟩ hm
    (repeat (first | refine S.seq ?_ | refine S.region ?_ | refine L.nil ?_ | refine L.p (by first | exact o_assign rfl | exact o_move rfl | exact o_lenS rfl | exact o_lenStr rfl | exact o_ne rfl rfl | exact o_ptrNilN rfl rfl | exact o_nilNilN rfl rfl | exact o_lt rfl rfl | exact o_idx rfl rfl (by omega) | exact o_idxA rfl rfl (by omega) | exact o_load rfl rfl | exact o_load rfl (by assumption) | exact o_add rfl rfl (by unfold I64; omega)) rfl ?_ | refine S.block ?_ | refine S.pop ?_ | refine S.skip ?_ | refine S.exit rfl ?_ | refine S.condT rfl ?_ | refine S.condF rfl ?_ | refine S.qt (id := 6) 9 (by kernel_rfl) (by kernel_rfl) ?_ | refine Ql.nil ?_ | refine Ql.p (by first | exact o_assign rfl | exact o_move rfl | exact o_lenS rfl | exact o_lenStr rfl | exact o_ne rfl rfl | exact o_ptrNilN rfl rfl | exact o_nilNilN rfl rfl | exact o_lt rfl rfl | exact o_idx rfl rfl (by omega) | exact o_idxA rfl rfl (by omega) | exact o_load rfl rfl | exact o_load rfl (by assumption) | exact o_add rfl rfl (by unfold I64; omega)) rfl ?_))
    refine S.condD rfl (fun hi => ?_) (fun hi => ?_)
    · have hi1 : i < l1.length := by omega
      have hi2 : i < l2.length := by omega
      cases hat1 with
      | none h => subst h; exact absurd hi1 (by simp)
      | @mk b1 o1 _ cs1 hc1 hh1 ho1 he1 =>
      cases hat2 with
      | none h => subst h; exact absurd hi2 (by simp)
      | @mk b2 o2 _ cs2 hc2 hh2 ho2 he2 =>
      have g1 := get_of_part he1 hi1
      rw [vbs_get l1 i hi1] at g1
      have g2 := get_of_part he2 hi2
      rw [vbs_get l2 i hi2] at g2
      (repeat (first | refine Ql.p (o_loadA (cs := cs1) (b := b1) rfl hh1 g1) rfl ?_ | refine Ql.p (o_loadA (cs := cs2) (b := b2) rfl hh2 g2) rfl ?_ | refine S.seq ?_ | refine S.region ?_ | refine L.nil ?_ | refine L.p (by first | exact o_assign rfl | exact o_move rfl | exact o_lenS rfl | exact o_lenStr rfl | exact o_ne rfl rfl | exact o_ptrNilN rfl rfl | exact o_nilNilN rfl rfl | exact o_lt rfl rfl | exact o_idx rfl rfl (by omega) | exact o_idxA rfl rfl (by omega) | exact o_load rfl rfl | exact o_load rfl (by assumption) | exact o_add rfl rfl (by unfold I64; omega)) rfl ?_ | refine S.block ?_ | refine S.pop ?_ | refine S.skip ?_ | refine S.exit rfl ?_ | refine S.condT rfl ?_ | refine S.condF rfl ?_ | refine S.qt (id := 6) 9 (by kernel_rfl) (by kernel_rfl) ?_ | refine Ql.nil ?_ | refine Ql.p (by first | exact o_assign rfl | exact o_move rfl | exact o_lenS rfl | exact o_lenStr rfl | exact o_ne rfl rfl | exact o_ptrNilN rfl rfl | exact o_nilNilN rfl rfl | exact o_lt rfl rfl | exact o_idx rfl rfl (by omega) | exact o_idxA rfl rfl (by omega) | exact o_load rfl rfl | exact o_load rfl (by assumption) | exact o_add rfl rfl (by unfold I64; omega)) rfl ?_))
      refine S.condD rfl (fun hx => ?_) (fun hx => ?_)
      · (repeat (first | refine S.seq ?_ | refine S.region ?_ | refine L.nil ?_ | refine L.p (by first | exact o_assign rfl | exact o_move rfl | exact o_lenS rfl | exact o_lenStr rfl | exact o_ne rfl rfl | exact o_ptrNilN rfl rfl | exact o_nilNilN rfl rfl | exact o_lt rfl rfl | exact o_idx rfl rfl (by omega) | exact o_idxA rfl rfl (by omega) | exact o_load rfl rfl | exact o_load rfl (by assumption) | exact o_add rfl rfl (by unfold I64; omega)) rfl ?_ | refine S.block ?_ | refine S.pop ?_ | refine S.skip ?_ | refine S.exit rfl ?_ | refine S.condT rfl ?_ | refine S.condF rfl ?_ | refine S.qt (id := 6) 9 (by kernel_rfl) (by kernel_rfl) ?_ | refine Ql.nil ?_ | refine Ql.p (by first | exact o_assign rfl | exact o_move rfl | exact o_lenS rfl | exact o_lenStr rfl | exact o_ne rfl rfl | exact o_ptrNilN rfl rfl | exact o_nilNilN rfl rfl | exact o_lt rfl rfl | exact o_idx rfl rfl (by omega) | exact o_idxA rfl rfl (by omega) | exact o_load rfl rfl | exact o_load rfl (by assumption) | exact o_add rfl rfl (by unfold I64; omega)) rfl ?_))
        refine S.fin (Fin.one rfl (RV.tmp rfl)) (fun w hs => ?_)
        have hne2 : ¬ l1 = l2 := fun e => hx (by subst e; rfl)
        exact ⟨ret_congr (by simp [hne2]), hs⟩
      · have hx' : l1[i] = l2[i] := vb_ne.1 (Decidable.not_not.1 hx)
        (repeat (first | refine S.seq ?_ | refine S.region ?_ | refine L.nil ?_ | refine L.p (by first | exact o_assign rfl | exact o_move rfl | exact o_lenS rfl | exact o_lenStr rfl | exact o_ne rfl rfl | exact o_ptrNilN rfl rfl | exact o_nilNilN rfl rfl | exact o_lt rfl rfl | exact o_idx rfl rfl (by omega) | exact o_idxA rfl rfl (by omega) | exact o_load rfl rfl | exact o_load rfl (by assumption) | exact o_add rfl rfl (by unfold I64; omega)) rfl ?_ | refine S.block ?_ | refine S.pop ?_ | refine S.skip ?_ | refine S.exit rfl ?_ | refine S.condT rfl ?_ | refine S.condF rfl ?_ | refine S.qt (id := 6) 9 (by kernel_rfl) (by kernel_rfl) ?_ | refine Ql.nil ?_ | refine Ql.p (by first | exact o_assign rfl | exact o_move rfl | exact o_lenS rfl | exact o_lenStr rfl | exact o_ne rfl rfl | exact o_ptrNilN rfl rfl | exact o_nilNilN rfl rfl | exact o_lt rfl rfl | exact o_idx rfl rfl (by omega) | exact o_idxA rfl rfl (by omega) | exact o_load rfl rfl | exact o_load rfl (by assumption) | exact o_add rfl rfl (by unfold I64; omega)) rfl ?_))
        refine S.round (fun ac_ w hac_ hs => ⟨((i + 1)), ⟨?_, (by (try dsimp only); omega)⟩, hac_.weaken (look_sub (by repeat (first | exact trivial | refine ⟨rfl, ?_⟩))), (by (try dsimp only); exact hs)⟩)
        exact ⟨by omega, by rw [take_snocB hi1, take_snocB hi2, h4, hx']⟩
    · (repeat (first | refine S.seq ?_ | refine S.region ?_ | refine L.nil ?_ | refine L.p (by first | exact o_assign rfl | exact o_move rfl | exact o_lenS rfl | exact o_lenStr rfl | exact o_ne rfl rfl | exact o_ptrNilN rfl rfl | exact o_nilNilN rfl rfl | exact o_lt rfl rfl | exact o_idx rfl rfl (by omega) | exact o_idxA rfl rfl (by omega) | exact o_load rfl rfl | exact o_load rfl (by assumption) | exact o_add rfl rfl (by unfold I64; omega)) rfl ?_ | refine S.block ?_ | refine S.pop ?_ | refine S.skip ?_ | refine S.exit rfl ?_ | refine S.condT rfl ?_ | refine S.condF rfl ?_ | refine S.qt (id := 6) 9 (by kernel_rfl) (by kernel_rfl) ?_ | refine Ql.nil ?_ | refine Ql.p (by first | exact o_assign rfl | exact o_move rfl | exact o_lenS rfl | exact o_lenStr rfl | exact o_ne rfl rfl | exact o_ptrNilN rfl rfl | exact o_nilNilN rfl rfl | exact o_lt rfl rfl | exact o_idx rfl rfl (by omega) | exact o_idxA rfl rfl (by omega) | exact o_load rfl rfl | exact o_load rfl (by assumption) | exact o_add rfl rfl (by unfold I64; omega)) rfl ?_))
      refine S.fin (Fin.one rfl (RV.tmp rfl)) (fun w hs => ?_)
      have hi' : i = l1.length := by omega
      subst hi'
      rw [List.take_length, hlen, List.take_length] at h4
      exact ⟨ret_congr (by simp [h4]), hs⟩

def zs (l : List Int) : List Value := l.map (.int .i64)
@[simp] theorem zs_length (l : List Int) : (zs l).length = l.length := by simp [zs]
theorem zs_get (l : List Int) (k : Nat) (h : k < l.length) : (zs l)[k]? = some (.int .i64 l[k]) := by simp [zs, h]
theorem ints_zs (l : List Nat) : ints l = zs (l.map (fun k : Nat => (k : Int))) := by simp [ints, zs]
/-- a slice of integers that can be read -/
inductive IntsIn (H : List Atom) (l : List Int) : Value → Prop
  | none {a : Option Addr} {cap : Nat} (h : l = []) : IntsIn H l (.slice a l.length cap)
  | mk {b o cap : Nat} {cs : List Value} (hc : l.length ≤ cap) (hh : CellsAt H b cs) (ho : o + l.length ≤ cs.length) (he : (cs.drop o).take l.length = zs l) : IntsIn H l (.slice (some ⟨b, o, Option.none⟩) l.length cap)
theorem IntsIn.mono {H H' : List Atom} {v : Value} {l : List Int} (h : IntsIn H l v) (hs : ∀ x ∈ H, x ∈ H') : IntsIn H' l v := by
  cases h with
  | none h => exact .none h
  | mk hc hh ho he => exact .mk hc (hh.mono hs) ho he

theorem index_calls {w : World} {H : List Atom} {v : Value} {l : List Int} {x : Int} (h1 : IntsIn H l v) (hl : l.length ≤ 1000000000) (hs : Sat w H) :
    Calls Try.prog 88 [v, .int .i64 x].toArray w (fun e w' => ∃ r : Int, e = .returned (.int .i64 r) ∧ (0 ≤ r ↔ x ∈ l) ∧ Sat w' H) := by
  have hv : ∃ a cap, v = .slice a l.length cap := by cases h1 <;> exact ⟨_, _, rfl⟩
  obtain ⟨a, cap, rfl⟩ := hv
  refine enter Try.func88 rfl Try.ntmps88 rfl hs ?_
  (repeat (first | refine S.seq ?_ | refine S.region ?_ | refine L.nil ?_ | refine L.p (by first | exact o_assign rfl | exact o_move rfl | exact o_lenS rfl | exact o_lenStr rfl | exact o_lt rfl rfl | exact o_idx rfl rfl (by omega) | exact o_idxA rfl rfl (by omega) | exact o_load rfl rfl | exact o_load rfl (by assumption) | exact o_eq rfl rfl | exact o_ptrNil rfl rfl | exact o_nilNil rfl rfl | exact o_add rfl rfl (by unfold I64; omega)) rfl ?_ | refine S.block ?_ | refine S.pop ?_ | refine S.skip ?_ | refine S.exit rfl ?_ | refine S.condT rfl ?_ | refine S.condF rfl ?_))
  refine S.loop (G := Nat) (fun i => i ≤ l.length ∧ x ∉ l.take i)
    (fun i => [(0, .slice a l.length cap), (1, .int .i64 x), (7, .int .i64 l.length), (8, .int .i64 i)])
    (fun i => H) (fun i => l.length - i) 0 ⟨by simp, by simp⟩ (by repeat (first | exact trivial | refine ⟨rfl, ?_⟩)) (fun w hs => hs) ?_
  rintro i m ⟨h3, h4⟩ hm
  (repeat (first | refine S.seq ?_ | refine S.region ?_ | refine L.nil ?_ | refine L.p (by first | exact o_assign rfl | exact o_move rfl | exact o_lenS rfl | exact o_lenStr rfl | exact o_lt rfl rfl | exact o_idx rfl rfl (by omega) | exact o_idxA rfl rfl (by omega) | exact o_load rfl rfl | exact o_load rfl (by assumption) | exact o_eq rfl rfl | exact o_ptrNil rfl rfl | exact o_nilNil rfl rfl | exact o_add rfl rfl (by unfold I64; omega)) rfl ?_ | refine S.block ?_ | refine S.pop ?_ | refine S.skip ?_ | refine S.exit rfl ?_ | refine S.condT rfl ?_ | refine S.condF rfl ?_))
  refine S.condD rfl (fun hi => ?_) (fun hi => ?_)
  · have hi1 : i < l.length := by omega
    generalize hq : Value.slice a l.length cap = q at h1
    cases h1 with
    | none h => subst h; exact absurd hi1 (by simp)
    | @mk b o _ cs hc hh ho he =>
    cases hq
    have g1 := get_of_part he hi1
    rw [zs_get l i hi1] at g1
    (repeat (first | refine L.p (o_loadA (cs := cs) (b := b) rfl hh g1) rfl ?_ | refine S.seq ?_ | refine S.region ?_ | refine L.nil ?_ | refine L.p (by first | exact o_assign rfl | exact o_move rfl | exact o_lenS rfl | exact o_lenStr rfl | exact o_lt rfl rfl | exact o_idx rfl rfl (by omega) | exact o_idxA rfl rfl (by omega) | exact o_load rfl rfl | exact o_load rfl (by assumption) | exact o_eq rfl rfl | exact o_ptrNil rfl rfl | exact o_nilNil rfl rfl | exact o_add rfl rfl (by unfold I64; omega)) rfl ?_ | refine S.block ?_ | refine S.pop ?_ | refine S.skip ?_ | refine S.exit rfl ?_ | refine S.condT rfl ?_ | refine S.condF rfl ?_))
    refine S.condD rfl (fun hx => ?_) (fun hx => ?_)
    · (repeat (first | refine S.seq ?_ | refine S.region ?_ | refine L.nil ?_ | refine L.p (by first | exact o_assign rfl | exact o_move rfl | exact o_lenS rfl | exact o_lenStr rfl | exact o_lt rfl rfl | exact o_idx rfl rfl (by omega) | exact o_idxA rfl rfl (by omega) | exact o_load rfl rfl | exact o_load rfl (by assumption) | exact o_eq rfl rfl | exact o_ptrNil rfl rfl | exact o_nilNil rfl rfl | exact o_add rfl rfl (by unfold I64; omega)) rfl ?_ | refine S.block ?_ | refine S.pop ?_ | refine S.skip ?_ | refine S.exit rfl ?_ | refine S.condT rfl ?_ | refine S.condF rfl ?_))
      refine S.fin (Fin.one rfl (RV.tmp rfl)) (fun w hs => ?_)
      exact ⟨_, rfl, ⟨fun _ => hx ▸ List.getElem_mem hi1, fun _ => by omega⟩, hs⟩
    · (repeat (first | refine S.seq ?_ | refine S.region ?_ | refine L.nil ?_ | refine L.p (by first | exact o_assign rfl | exact o_move rfl | exact o_lenS rfl | exact o_lenStr rfl | exact o_lt rfl rfl | exact o_idx rfl rfl (by omega) | exact o_idxA rfl rfl (by omega) | exact o_load rfl rfl | exact o_load rfl (by assumption) | exact o_eq rfl rfl | exact o_ptrNil rfl rfl | exact o_nilNil rfl rfl | exact o_add rfl rfl (by unfold I64; omega)) rfl ?_ | refine S.block ?_ | refine S.pop ?_ | refine S.skip ?_ | refine S.exit rfl ?_ | refine S.condT rfl ?_ | refine S.condF rfl ?_))
      refine S.round (fun ac_ w hac_ hs => ⟨((i + 1)), ⟨?_, (by (try dsimp only); omega)⟩, hac_.weaken (look_sub (by repeat (first | exact trivial | refine ⟨rfl, ?_⟩))), (by (try dsimp only); exact hs)⟩)
      exact ⟨by omega, by rw [List.take_succ_eq_append_getElem hi1, List.mem_append, List.mem_singleton]; exact fun e => e.elim h4 hx⟩
  · (repeat (first | refine S.seq ?_ | refine S.region ?_ | refine L.nil ?_ | refine L.p (by first | exact o_assign rfl | exact o_move rfl | exact o_lenS rfl | exact o_lenStr rfl | exact o_lt rfl rfl | exact o_idx rfl rfl (by omega) | exact o_idxA rfl rfl (by omega) | exact o_load rfl rfl | exact o_load rfl (by assumption) | exact o_eq rfl rfl | exact o_ptrNil rfl rfl | exact o_nilNil rfl rfl | exact o_add rfl rfl (by unfold I64; omega)) rfl ?_ | refine S.block ?_ | refine S.pop ?_ | refine S.skip ?_ | refine S.exit rfl ?_ | refine S.condT rfl ?_ | refine S.condF rfl ?_))
    refine S.fin (Fin.one rfl (RV.tmp rfl)) (fun w hs => ?_)
    have hi' : i = l.length := by omega
    subst hi'
    rw [List.take_length] at h4
    exact ⟨_, rfl, ⟨fun h => absurd h (by decide), fun h => absurd h h4⟩, hs⟩

theorem contains_calls {w : World} {H : List Atom} {v : Value} {l : List Int} {x : Int} (h1 : IntsIn H l v) (hl : l.length ≤ 1000000000) (hs : Sat w H) :
    Calls Try.prog 63 [v, .int .i64 x].toArray w (fun e w' => e = .returned (.bool (decide (x ∈ l))) ∧ Sat w' H) := by
  refine enter Try.func63 rfl Try.ntmps63 rfl hs ?_
  (repeat (first | refine S.seq ?_ | refine S.region ?_ | refine L.nil ?_ | refine L.p (by first | exact o_assign rfl | exact o_move rfl | exact o_ge rfl rfl) rfl ?_ | refine S.block ?_ | refine S.pop ?_ | refine S.skip ?_ | refine S.exit rfl ?_ | refine S.condT rfl ?_ | refine S.condF rfl ?_))
  refine L.callR rfl (hc_func Try.func88 (by decide) rfl rfl) rfl (fun w hs => index_calls h1 hl hs) ?_
  rintro e w' ⟨r, rfl, hr, hs'⟩
  refine ⟨_, _, rfl, (by assumption), ?_⟩
  (repeat (first | refine S.seq ?_ | refine S.region ?_ | refine L.nil ?_ | refine L.p (by first | exact o_assign rfl | exact o_move rfl | exact o_ge rfl rfl) rfl ?_ | refine S.block ?_ | refine S.pop ?_ | refine S.skip ?_ | refine S.exit rfl ?_ | refine S.condT rfl ?_ | refine S.condF rfl ?_))
  refine S.fin (Fin.one rfl (RV.tmp rfl)) (fun w hs => ?_)
  exact ⟨ret_congr (dec_congr hr), hs⟩

/-- which pages a list says; none: it says what can't be -/
def onlyM : List Int → List Bool → Option (List Bool)
  | [], t => some t
  | i :: l, t => if 0 ≤ i ∧ i < t.length ∧ t.getD i.toNat false = false then onlyM l (t.set i.toNat true) else none
theorem onlyM_snoc : ∀ (l : List Int) (i : Int) (t : List Bool), onlyM (l ++ [i]) t = (onlyM l t).bind fun t' => if 0 ≤ i ∧ i < t'.length ∧ t'.getD i.toNat false = false then some (t'.set i.toNat true) else none
  | [], i, t => by simp [onlyM]
  | j :: l, i, t => by
    simp only [List.cons_append, onlyM]
    split
    · exact onlyM_snoc l i _
    · rfl
theorem onlyM_append : ∀ (l m : List Int) (t : List Bool), onlyM (l ++ m) t = (onlyM l t).bind (onlyM m)
  | [], m, t => by simp [onlyM]
  | j :: l, m, t => by
    simp only [List.cons_append, onlyM]
    split
    · exact onlyM_append l m _
    · rfl
theorem onlyM_len : ∀ {l : List Int} {t t' : List Bool}, onlyM l t = some t' → t'.length = t.length
  | [], t, t', h => by simp only [onlyM, Option.some.injEq] at h; rw [h]
  | j :: l, t, t', h => by
    simp only [onlyM] at h
    split at h
    · have := onlyM_len h; simpa using this
    · cases h

theorem only_calls {w : World} {A H : List Atom} {bs : Nat} {t : List Bool} {v : Value} {l : List Int} (hS : SpaceAt bs t A) (hv : IntsIn H l v) (hl : l.length ≤ 1000000000) (hs : Sat w (A ++ H)) :
    Calls Try.prog 70 [ptr bs, v].toArray w (fun e w' => ∃ A', e = .returned (.int .i64 (if (onlyM l (List.replicate t.length false)).isSome then 0 else 1)) ∧
      SpaceAt bs ((onlyM l (List.replicate t.length false)).getD t) A' ∧ Sat w' (A' ++ H)) := by
  have hvv : ∃ a cap, v = .slice a l.length cap := by cases hv <;> exact ⟨_, _, rfl⟩
  obtain ⟨a, cap, rfl⟩ := hvv
  have hSp := hS
  cases hS with
  | @mk bt f A hn hf hh0 hL =>
  cases hL with
  | @mk af capf Ao hown =>
  simp only [List.cons_append] at hs ⊢
  refine enter Try.func70 rfl Try.ntmps70 rfl hs ?_
  (repeat (first | refine S.seq ?_ | refine S.region ?_ | refine L.nil ?_ | refine L.p (by first | exact o_assign rfl | exact o_move rfl | exact o_eq rfl rfl | exact o_ptrNil rfl rfl | exact o_nilNil rfl rfl | exact o_nil rfl | exact o_nilFn rfl | exact o_fld rfl | exact o_load rfl rfl | exact o_load rfl (by assumption) | exact o_lenS rfl | exact o_lenStr rfl | exact o_lt rfl rfl | exact o_idx rfl rfl (by omega) | exact o_idxA rfl rfl (by omega) | exact o_ge rfl rfl | exact o_pickT rfl rfl | exact o_pickF rfl rfl | exact o_add rfl rfl (by unfold I64; omega)) rfl ?_ | refine L.gYes rfl rfl rfl ?_ | refine L.gNo rfl rfl rfl rfl rfl ?_ | refine L.gUnd rfl rfl rfl rfl ?_ | refine L.store rfl rfl (blt_iff.1 rfl) rfl ?_ | refine S.block ?_ | refine S.pop ?_ | refine S.skip ?_ | refine S.exit rfl ?_ | refine S.condT rfl ?_ | refine S.condF rfl ?_))
  refine L.make1 rfl rfl (by omega) rfl (fun bk => ?_)
  rw [show List.replicate t.length (Value.bool false) = bls (List.replicate t.length false) from (bls_replicate _).symm]
  (repeat (first | refine S.seq ?_ | refine S.region ?_ | refine L.nil ?_ | refine L.p (by first | exact o_assign rfl | exact o_move rfl | exact o_eq rfl rfl | exact o_ptrNil rfl rfl | exact o_nilNil rfl rfl | exact o_nil rfl | exact o_nilFn rfl | exact o_fld rfl | exact o_load rfl rfl | exact o_load rfl (by assumption) | exact o_lenS rfl | exact o_lenStr rfl | exact o_lt rfl rfl | exact o_idx rfl rfl (by omega) | exact o_idxA rfl rfl (by omega) | exact o_ge rfl rfl | exact o_pickT rfl rfl | exact o_pickF rfl rfl | exact o_add rfl rfl (by unfold I64; omega)) rfl ?_ | refine L.gYes rfl rfl rfl ?_ | refine L.gNo rfl rfl rfl rfl rfl ?_ | refine L.gUnd rfl rfl rfl rfl ?_ | refine L.store rfl rfl (blt_iff.1 rfl) rfl ?_ | refine S.block ?_ | refine S.pop ?_ | refine S.skip ?_ | refine S.exit rfl ?_ | refine S.condT rfl ?_ | refine S.condF rfl ?_))
  refine S.loop (G := Nat × List Bool) (fun q => q.1 ≤ l.length ∧ onlyM (l.take q.1) (List.replicate t.length false) = some q.2)
    (fun q => [(0, ptr bs), (5, .slice (some ⟨bk, 0, none⟩) t.length t.length), (16, .slice a l.length cap), (17, .int .i64 l.length), (18, .int .i64 q.1)])
    (fun q => .cells bk 4 (bls q.2) :: .cells bs 143 [.slice (some ⟨bt, 0, none⟩) t.length t.length, .slice af f.length capf] :: (Ao ++ [.cells bt 4 (bls t)] ++ H)) (fun q => l.length - q.1) (0, List.replicate t.length false) ⟨by simp, by simp [onlyM]⟩ (by repeat (first | exact trivial | refine ⟨rfl, ?_⟩)) (fun w hs => hs) ?_
  rintro ⟨i, t2⟩ m ⟨h1, h2⟩ hm
  simp only at h1 h2 hm
  dsimp only
  have ht2 : t2.length = t.length := by have := onlyM_len h2; simpa using this
  (repeat (first | refine S.seq ?_ | refine S.region ?_ | refine L.nil ?_ | refine L.p (by first | exact o_assign rfl | exact o_move rfl | exact o_eq rfl rfl | exact o_ptrNil rfl rfl | exact o_nilNil rfl rfl | exact o_nil rfl | exact o_nilFn rfl | exact o_fld rfl | exact o_load rfl rfl | exact o_load rfl (by assumption) | exact o_lenS rfl | exact o_lenStr rfl | exact o_lt rfl rfl | exact o_idx rfl rfl (by omega) | exact o_idxA rfl rfl (by omega) | exact o_ge rfl rfl | exact o_pickT rfl rfl | exact o_pickF rfl rfl | exact o_add rfl rfl (by unfold I64; omega)) rfl ?_ | refine L.gYes rfl rfl rfl ?_ | refine L.gNo rfl rfl rfl rfl rfl ?_ | refine L.gUnd rfl rfl rfl rfl ?_ | refine L.store rfl rfl (blt_iff.1 rfl) rfl ?_ | refine S.block ?_ | refine S.pop ?_ | refine S.skip ?_ | refine S.exit rfl ?_ | refine S.condT rfl ?_ | refine S.condF rfl ?_))
  refine S.condD rfl (fun hi => ?_) (fun hi => ?_)
  · have hi1 : i < l.length := by omega
    have hstep : onlyM l (List.replicate t.length false) = (if 0 ≤ l[i] ∧ l[i] < t2.length ∧ t2.getD l[i].toNat false = false then some (t2.set l[i].toNat true) else none).bind (onlyM (l.drop (i + 1))) := by
      conv => lhs; rw [← List.take_append_drop (i + 1) l]
      rw [onlyM_append, List.take_succ_eq_append_getElem hi1, onlyM_snoc, h2, Option.bind_some]
    have hnext : onlyM (l.take (i + 1)) (List.replicate t.length false) = (if 0 ≤ l[i] ∧ l[i] < t2.length ∧ t2.getD l[i].toNat false = false then some (t2.set l[i].toNat true) else none) := by
      rw [List.take_succ_eq_append_getElem hi1, onlyM_snoc, h2, Option.bind_some]
    generalize hq : Value.slice a l.length cap = q at hv
    cases hv with
    | none h => subst h; exact absurd hi1 (by simp)
    | @mk b o _ cs hc hh ho he =>
    cases hq
    have g1 := get_of_part he hi1
    rw [zs_get l i hi1] at g1
    (repeat (first | refine L.p (o_loadA (cs := cs) (b := b) rfl (hh.mono (by intro x hx; simp [hx])) g1) rfl ?_ | refine S.seq ?_ | refine S.region ?_ | refine L.nil ?_ | refine L.p (by first | exact o_assign rfl | exact o_move rfl | exact o_eq rfl rfl | exact o_ptrNil rfl rfl | exact o_nilNil rfl rfl | exact o_nil rfl | exact o_nilFn rfl | exact o_fld rfl | exact o_load rfl rfl | exact o_load rfl (by assumption) | exact o_lenS rfl | exact o_lenStr rfl | exact o_lt rfl rfl | exact o_idx rfl rfl (by omega) | exact o_idxA rfl rfl (by omega) | exact o_ge rfl rfl | exact o_pickT rfl rfl | exact o_pickF rfl rfl | exact o_add rfl rfl (by unfold I64; omega)) rfl ?_ | refine L.gYes rfl rfl rfl ?_ | refine L.gNo rfl rfl rfl rfl rfl ?_ | refine L.gUnd rfl rfl rfl rfl ?_ | refine L.store rfl rfl (blt_iff.1 rfl) rfl ?_ | refine S.block ?_ | refine S.pop ?_ | refine S.skip ?_ | refine S.exit rfl ?_ | refine S.condT rfl ?_ | refine S.condF rfl ?_))
    refine L.split 24 rfl (fun hneg => ?_) (fun hneg => ?_)
    · (repeat (first | refine S.seq ?_ | refine S.region ?_ | refine L.nil ?_ | refine L.p (by first | exact o_assign rfl | exact o_move rfl | exact o_eq rfl rfl | exact o_ptrNil rfl rfl | exact o_nilNil rfl rfl | exact o_nil rfl | exact o_nilFn rfl | exact o_fld rfl | exact o_load rfl rfl | exact o_load rfl (by assumption) | exact o_lenS rfl | exact o_lenStr rfl | exact o_lt rfl rfl | exact o_idx rfl rfl (by omega) | exact o_idxA rfl rfl (by omega) | exact o_ge rfl rfl | exact o_pickT rfl rfl | exact o_pickF rfl rfl | exact o_add rfl rfl (by unfold I64; omega)) rfl ?_ | refine L.gYes rfl rfl rfl ?_ | refine L.gNo rfl rfl rfl rfl rfl ?_ | refine L.gUnd rfl rfl rfl rfl ?_ | refine L.store rfl rfl (blt_iff.1 rfl) rfl ?_ | refine S.block ?_ | refine S.pop ?_ | refine S.skip ?_ | refine S.exit rfl ?_ | refine S.condT rfl ?_ | refine S.condF rfl ?_))
      refine S.fin (Fin.one rfl (RV.tmp rfl)) (fun w hs => ?_)
      have hno : ¬ (0 ≤ l[i] ∧ l[i] < t2.length ∧ t2.getD l[i].toNat false = false) := fun h => by omega
      rw [if_neg hno] at hstep
      refine ⟨_, by rw [hstep]; rfl, by rw [hstep]; exact hSp, ?_⟩
      exact (hs.tail).re (by intro a; simp only [List.count_append, List.count_cons, List.count_nil] <;> omega)
    · (repeat (first | refine S.seq ?_ | refine S.region ?_ | refine L.nil ?_ | refine L.p (by first | exact o_assign rfl | exact o_move rfl | exact o_eq rfl rfl | exact o_ptrNil rfl rfl | exact o_nilNil rfl rfl | exact o_nil rfl | exact o_nilFn rfl | exact o_fld rfl | exact o_load rfl rfl | exact o_load rfl (by assumption) | exact o_lenS rfl | exact o_lenStr rfl | exact o_lt rfl rfl | exact o_idx rfl rfl (by omega) | exact o_idxA rfl rfl (by omega) | exact o_ge rfl rfl | exact o_pickT rfl rfl | exact o_pickF rfl rfl | exact o_add rfl rfl (by unfold I64; omega)) rfl ?_ | refine L.gYes rfl rfl rfl ?_ | refine L.gNo rfl rfl rfl rfl rfl ?_ | refine L.gUnd rfl rfl rfl rfl ?_ | refine L.store rfl rfl (blt_iff.1 rfl) rfl ?_ | refine S.block ?_ | refine S.pop ?_ | refine S.skip ?_ | refine S.exit rfl ?_ | refine S.condT rfl ?_ | refine S.condF rfl ?_))
      refine L.split 30 rfl (fun hbig => ?_) (fun hbig => ?_)
      · (repeat (first | refine S.seq ?_ | refine S.region ?_ | refine L.nil ?_ | refine L.p (by first | exact o_assign rfl | exact o_move rfl | exact o_eq rfl rfl | exact o_ptrNil rfl rfl | exact o_nilNil rfl rfl | exact o_nil rfl | exact o_nilFn rfl | exact o_fld rfl | exact o_load rfl rfl | exact o_load rfl (by assumption) | exact o_lenS rfl | exact o_lenStr rfl | exact o_lt rfl rfl | exact o_idx rfl rfl (by omega) | exact o_idxA rfl rfl (by omega) | exact o_ge rfl rfl | exact o_pickT rfl rfl | exact o_pickF rfl rfl | exact o_add rfl rfl (by unfold I64; omega)) rfl ?_ | refine L.gYes rfl rfl rfl ?_ | refine L.gNo rfl rfl rfl rfl rfl ?_ | refine L.gUnd rfl rfl rfl rfl ?_ | refine L.store rfl rfl (blt_iff.1 rfl) rfl ?_ | refine S.block ?_ | refine S.pop ?_ | refine S.skip ?_ | refine S.exit rfl ?_ | refine S.condT rfl ?_ | refine S.condF rfl ?_))
        refine S.fin (Fin.one rfl (RV.tmp rfl)) (fun w hs => ?_)
        have hno : ¬ (0 ≤ l[i] ∧ l[i] < t2.length ∧ t2.getD l[i].toNat false = false) := fun h => by omega
        rw [if_neg hno] at hstep
        refine ⟨_, by rw [hstep]; rfl, by rw [hstep]; exact hSp, ?_⟩
        exact (hs.tail).re (by intro a; simp only [List.count_append, List.count_cons, List.count_nil] <;> omega)
      · have g2 := bls_get (l := t2) (k := l[i].toNat) (by omega)
        (repeat (first | refine L.p (o_loadM (b := bk) (T := 4) (cs := bls t2) rfl (by simp) g2) rfl ?_ | refine S.seq ?_ | refine S.region ?_ | refine L.nil ?_ | refine L.p (by first | exact o_assign rfl | exact o_move rfl | exact o_eq rfl rfl | exact o_ptrNil rfl rfl | exact o_nilNil rfl rfl | exact o_nil rfl | exact o_nilFn rfl | exact o_fld rfl | exact o_load rfl rfl | exact o_load rfl (by assumption) | exact o_lenS rfl | exact o_lenStr rfl | exact o_lt rfl rfl | exact o_idx rfl rfl (by omega) | exact o_idxA rfl rfl (by omega) | exact o_ge rfl rfl | exact o_pickT rfl rfl | exact o_pickF rfl rfl | exact o_add rfl rfl (by unfold I64; omega)) rfl ?_ | refine L.gYes rfl rfl rfl ?_ | refine L.gNo rfl rfl rfl rfl rfl ?_ | refine L.gUnd rfl rfl rfl rfl ?_ | refine L.store rfl rfl (blt_iff.1 rfl) rfl ?_ | refine S.block ?_ | refine S.pop ?_ | refine S.skip ?_ | refine S.exit rfl ?_ | refine S.condT rfl ?_ | refine S.condF rfl ?_))
        refine S.condB rfl (fun hb => ?_) (fun hb => ?_)
        · (repeat (first | refine S.seq ?_ | refine S.region ?_ | refine L.nil ?_ | refine L.p (by first | exact o_assign rfl | exact o_move rfl | exact o_eq rfl rfl | exact o_ptrNil rfl rfl | exact o_nilNil rfl rfl | exact o_nil rfl | exact o_nilFn rfl | exact o_fld rfl | exact o_load rfl rfl | exact o_load rfl (by assumption) | exact o_lenS rfl | exact o_lenStr rfl | exact o_lt rfl rfl | exact o_idx rfl rfl (by omega) | exact o_idxA rfl rfl (by omega) | exact o_ge rfl rfl | exact o_pickT rfl rfl | exact o_pickF rfl rfl | exact o_add rfl rfl (by unfold I64; omega)) rfl ?_ | refine L.gYes rfl rfl rfl ?_ | refine L.gNo rfl rfl rfl rfl rfl ?_ | refine L.gUnd rfl rfl rfl rfl ?_ | refine L.store rfl rfl (blt_iff.1 rfl) rfl ?_ | refine S.block ?_ | refine S.pop ?_ | refine S.skip ?_ | refine S.exit rfl ?_ | refine S.condT rfl ?_ | refine S.condF rfl ?_))
          refine S.fin (Fin.one rfl (RV.tmp rfl)) (fun w hs => ?_)
          have hno : ¬ (0 ≤ l[i] ∧ l[i] < t2.length ∧ t2.getD l[i].toNat false = false) := fun h => by rw [h.2.2] at hb; cases hb
          rw [if_neg hno] at hstep
          refine ⟨_, by rw [hstep]; rfl, by rw [hstep]; exact hSp, ?_⟩
          exact (hs.tail).re (by intro a; simp only [List.count_append, List.count_cons, List.count_nil] <;> omega)
        · have hyes : 0 ≤ l[i] ∧ l[i] < t2.length ∧ t2.getD l[i].toNat false = false := ⟨by omega, by omega, by simpa using hb⟩
          rw [if_pos hyes] at hnext
          (repeat (first | refine S.seq ?_ | refine S.region ?_ | refine L.nil ?_ | refine L.p (by first | exact o_assign rfl | exact o_move rfl | exact o_eq rfl rfl | exact o_ptrNil rfl rfl | exact o_nilNil rfl rfl | exact o_nil rfl | exact o_nilFn rfl | exact o_fld rfl | exact o_load rfl rfl | exact o_load rfl (by assumption) | exact o_lenS rfl | exact o_lenStr rfl | exact o_lt rfl rfl | exact o_idx rfl rfl (by omega) | exact o_idxA rfl rfl (by omega) | exact o_ge rfl rfl | exact o_pickT rfl rfl | exact o_pickF rfl rfl | exact o_add rfl rfl (by unfold I64; omega)) rfl ?_ | refine L.gYes rfl rfl rfl ?_ | refine L.gNo rfl rfl rfl rfl rfl ?_ | refine L.gUnd rfl rfl rfl rfl ?_ | refine L.store rfl rfl (blt_iff.1 rfl) rfl ?_ | refine S.block ?_ | refine S.pop ?_ | refine S.skip ?_ | refine S.exit rfl ?_ | refine S.condT rfl ?_ | refine S.condF rfl ?_))
          refine L.store rfl rfl (by simp; omega) rfl ?_
          rw [bls_set]
          (repeat (first | refine S.seq ?_ | refine S.region ?_ | refine L.nil ?_ | refine L.p (by first | exact o_assign rfl | exact o_move rfl | exact o_eq rfl rfl | exact o_ptrNil rfl rfl | exact o_nilNil rfl rfl | exact o_nil rfl | exact o_nilFn rfl | exact o_fld rfl | exact o_load rfl rfl | exact o_load rfl (by assumption) | exact o_lenS rfl | exact o_lenStr rfl | exact o_lt rfl rfl | exact o_idx rfl rfl (by omega) | exact o_idxA rfl rfl (by omega) | exact o_ge rfl rfl | exact o_pickT rfl rfl | exact o_pickF rfl rfl | exact o_add rfl rfl (by unfold I64; omega)) rfl ?_ | refine L.gYes rfl rfl rfl ?_ | refine L.gNo rfl rfl rfl rfl rfl ?_ | refine L.gUnd rfl rfl rfl rfl ?_ | refine L.store rfl rfl (blt_iff.1 rfl) rfl ?_ | refine S.block ?_ | refine S.pop ?_ | refine S.skip ?_ | refine S.exit rfl ?_ | refine S.condT rfl ?_ | refine S.condF rfl ?_))
          refine S.round (fun ac_ w hac_ hs => ⟨((i + 1, t2.set l[i].toNat true)), ⟨?_, (by (try dsimp only); omega)⟩, hac_.weaken (look_sub (by repeat (first | exact trivial | refine ⟨rfl, ?_⟩))), (by (try dsimp only); exact hs)⟩)
          exact ⟨by omega, hnext⟩
  · have hfill : ∀ w, Sat w (.cells bs 143 [.slice (some ⟨bt, 0, none⟩) t.length t.length, .slice af f.length capf] :: .cells bk 4 (bls t2) :: (Ao ++ [.cells bt 4 (bls t)] ++ H)) → Calls Try.prog 87 [ptr bs, .slice (some ⟨bk, 0, none⟩) t.length t.length].toArray w (fun e w' => ∃ A', e = .returned (.tuple #[]) ∧ SpaceAt bs t2 A' ∧ Sat w' (A' ++ (Ao ++ [.cells bt 4 (bls t)] ++ H))) := by
      intro w hw
      rw [← ht2] at hw ⊢
      exact fill_calls (by omega) hw
    (repeat (first | refine S.seq ?_ | refine S.region ?_ | refine L.nil ?_ | refine L.p (by first | exact o_assign rfl | exact o_move rfl | exact o_eq rfl rfl | exact o_ptrNil rfl rfl | exact o_nilNil rfl rfl | exact o_nil rfl | exact o_nilFn rfl | exact o_fld rfl | exact o_load rfl rfl | exact o_load rfl (by assumption) | exact o_lenS rfl | exact o_lenStr rfl | exact o_lt rfl rfl | exact o_idx rfl rfl (by omega) | exact o_idxA rfl rfl (by omega) | exact o_ge rfl rfl | exact o_pickT rfl rfl | exact o_pickF rfl rfl | exact o_add rfl rfl (by unfold I64; omega)) rfl ?_ | refine L.gYes rfl rfl rfl ?_ | refine L.gNo rfl rfl rfl rfl rfl ?_ | refine L.gUnd rfl rfl rfl rfl ?_ | refine L.store rfl rfl (blt_iff.1 rfl) rfl ?_ | refine S.block ?_ | refine S.pop ?_ | refine S.skip ?_ | refine S.exit rfl ?_ | refine S.condT rfl ?_ | refine S.condF rfl ?_))
    refine L.callR rfl (hc_func Try.func87 (by decide) rfl rfl) rfl (fun w hs => hfill w (hs.re (by intro a; simp only [List.count_append, List.count_cons, List.count_nil] <;> omega))) ?_
    rintro e w' ⟨A', rfl, hSA, hs'⟩
    refine ⟨_, _, rfl, (by assumption), ?_⟩
    (repeat (first | refine S.seq ?_ | refine S.region ?_ | refine L.nil ?_ | refine L.p (by first | exact o_assign rfl | exact o_move rfl | exact o_eq rfl rfl | exact o_ptrNil rfl rfl | exact o_nilNil rfl rfl | exact o_nil rfl | exact o_nilFn rfl | exact o_fld rfl | exact o_load rfl rfl | exact o_load rfl (by assumption) | exact o_lenS rfl | exact o_lenStr rfl | exact o_lt rfl rfl | exact o_idx rfl rfl (by omega) | exact o_idxA rfl rfl (by omega) | exact o_ge rfl rfl | exact o_pickT rfl rfl | exact o_pickF rfl rfl | exact o_add rfl rfl (by unfold I64; omega)) rfl ?_ | refine L.gYes rfl rfl rfl ?_ | refine L.gNo rfl rfl rfl rfl rfl ?_ | refine L.gUnd rfl rfl rfl rfl ?_ | refine L.store rfl rfl (blt_iff.1 rfl) rfl ?_ | refine S.block ?_ | refine S.pop ?_ | refine S.skip ?_ | refine S.exit rfl ?_ | refine S.condT rfl ?_ | refine S.condF rfl ?_))
    refine S.fin (Fin.one rfl (RV.tmp rfl)) (fun w hs => ?_)
    have hil : i = l.length := by omega
    subst hil
    rw [List.take_length] at h2
    refine ⟨A' , by rw [h2]; rfl, by rw [h2]; exact hSA, ?_⟩
    exact hs.sub (List.Sublist.append (List.Sublist.refl _) (List.sublist_append_right _ _))
end Go.Proofs.Ytlecgoebbjnnmaa

