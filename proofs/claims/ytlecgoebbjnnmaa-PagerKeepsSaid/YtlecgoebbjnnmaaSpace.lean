/- Numbers, free or taken. -/
import Derived.Test.YtlecgoebbjnnmaaHeap2
set_option linter.unusedVariables false
set_option linter.unusedSimpArgs false
set_option linter.unusedSectionVars false
set_option linter.constructorNameAsVariable false
set_option maxRecDepth 100000
set_option maxHeartbeats 4000000
namespace Go.Proofs.Ytlecgoebbjnnmaa
open Go
variable [Ref]

/-- the numbers that are free, told as a list -/
def FreeOf (t : List Bool) (f : List Nat) : Prop := f.Nodup ∧ ∀ k, k ∈ f ↔ (k < t.length ∧ t.getD k false = false)
/-- how many are free -/
def freeN (t : List Bool) : Nat := t.count false

theorem filter_snoc (p : Nat → Bool) (i : Nat) : (List.range (i + 1)).filter p = (List.range i).filter p ++ (if p i then [i] else []) := by
  rw [List.range_succ, List.filter_append]
  cases h : p i <;> simp [List.filter_cons, h]

theorem freeOf_length : ∀ {t : List Bool} {f : List Nat}, FreeOf t f → f.length = freeN t := by
  have key : ∀ t : List Bool, ((List.range t.length).filter fun k => !t.getD k false).length = t.count false := by
    intro t
    generalize hn : t.length = n
    induction n generalizing t with
    | zero => simp [List.eq_nil_of_length_eq_zero hn]
    | succ n ih =>
      have hsp : t = t.take n ++ [t.getD n false] := by
        have h1 : t.take (n + 1) = t := List.take_of_length_le (by omega)
        rw [List.take_succ_eq_append_getElem (by omega)] at h1
        rw [show t.getD n false = t[n] by simp [hn]]
        exact h1.symm
      have hl : (t.take n).length = n := by simp; omega
      rw [filter_snoc, List.length_append]
      have h2 : (List.range n).filter (fun k => !t.getD k false) = (List.range n).filter (fun k => !(t.take n).getD k false) := by
        apply List.filter_congr
        intro k hk
        have hk' : k < n := List.mem_range.1 hk
        simp [List.getD_eq_getElem?_getD, List.getElem?_take, hk']
      rw [h2, ih _ hl]
      conv => rhs; rw [hsp, List.count_append]
      congr 1
      cases h : t.getD n false <;> rfl
  intro t f hf
  have hnd : ((List.range t.length).filter fun k => !t.getD k false).Nodup := List.Pairwise.filter _ List.nodup_range
  have hp := (List.perm_ext_iff_of_nodup hf.1 hnd).2 (fun a => by rw [hf.2]; simp [List.mem_filter])
  rw [hp.length_eq]; exact key t

theorem freeOf_take {t : List Bool} {f f' : List Nat} {x : Nat} (hf : FreeOf t f) (hp : (x :: f').Perm f) : FreeOf (t.set x true) f' := by
  have hnd := (hp.symm.nodup_iff).1 hf.1
  obtain ⟨h1, h2⟩ := List.nodup_cons.1 hnd
  refine ⟨h2, fun k => ?_⟩
  have hx : x ∈ f := hp.mem_iff.1 (by simp)
  have hxl := ((hf.2 x).1 hx).1
  have hm : k ∈ x :: f' ↔ k ∈ f := hp.mem_iff
  rw [hf.2 k, List.mem_cons] at hm
  simp only [List.length_set, List.getD_eq_getElem?_getD, List.getElem?_set] at hm ⊢
  by_cases e : k = x
  · subst e; simp [h1, hxl]
  · rw [if_neg (fun h => e h.symm)]
    simp only [e, false_or] at hm
    exact hm
theorem freeOf_give {t : List Bool} {f f' : List Nat} {x : Nat} (hf : FreeOf t f) (hx : x < t.length) (ht : t.getD x false = true) (hp : f'.Perm (f ++ [x])) : FreeOf (t.set x false) f' := by
  have hxn : x ∉ f := fun h => by have := ((hf.2 x).1 h).2; rw [ht] at this; cases this
  have hnd : (f ++ [x]).Nodup := by
    rw [List.nodup_append]
    exact ⟨hf.1, by simp, fun a ha b hb => by simp at hb; subst hb; exact fun e => hxn (e ▸ ha)⟩
  refine ⟨(hp.nodup_iff).2 hnd, fun k => ?_⟩
  rw [hp.mem_iff, List.mem_append, hf.2 k]
  simp only [List.length_set, List.getD_eq_getElem?_getD, List.getElem?_set, List.mem_singleton]
  by_cases e : k = x
  · subst e; simp [hx]
  · rw [if_neg (fun h => e h.symm)]; simp [e]

inductive SpaceAt (bs : Nat) (t : List Bool) : List Atom → Prop
  | mk {bt : Nat} {f : List Nat} {A : List Atom} (hn : t.length ≤ 4096) (hf : FreeOf t f) (hh0 : Heap f f.length) (hL : LeastAt bs (.slice (some ⟨bt, 0, none⟩) t.length t.length) f A) : SpaceAt bs t (A ++ [.cells bt 4 (bls t)])

theorem sfree_calls {w : World} {A H : List Atom} {bs : Nat} {t : List Bool} (hS : SpaceAt bs t A) (hs : Sat w (A ++ H)) :
    Calls Try.prog 60 [ptr bs].toArray w (fun e w' => e = .returned (.int .i64 (freeN t)) ∧ Sat w' (A ++ H)) := by
  cases hS with
  | @mk bt f A hn hf hh0 hL =>
  rw [← freeOf_length hf]
  cases hL with
  | @mk a cap Ao hown =>
  simp only [List.cons_append] at hs ⊢
  refine enter Try.func60 rfl Try.ntmps60 rfl hs ?_
  (repeat (first | refine S.seq ?_ | refine S.region ?_ | refine L.nil ?_ | refine L.p (by first | exact o_assign rfl | exact o_move rfl | exact o_eq rfl rfl | exact o_ptrNil rfl rfl | exact o_nilNil rfl rfl | exact o_nil rfl | exact o_nilFn rfl | exact o_fld rfl | exact o_load rfl rfl | exact o_load rfl (by assumption) | exact o_lenS rfl | exact o_lenStr rfl) rfl ?_ | refine S.block ?_ | refine S.pop ?_ | refine S.skip ?_ | refine S.exit rfl ?_ | refine S.condT rfl ?_ | refine S.condF rfl ?_))
  refine S.fin (Fin.one rfl (RV.tmp rfl)) (fun w hs => ?_)
  exact ⟨rfl, hs⟩

theorem staken_calls {w : World} {A H : List Atom} {bs : Nat} {t : List Bool} {i : Int} (hS : SpaceAt bs t A) (hs : Sat w (A ++ H)) :
    Calls Try.prog 62 [ptr bs, .int .i64 i].toArray w (fun e w' => e = .returned (.bool (decide (0 ≤ i ∧ i < t.length ∧ t.getD i.toNat false = true))) ∧ Sat w' (A ++ H)) := by
  cases hS with
  | @mk bt f A hn hf hh0 hL =>
  cases hL with
  | @mk a cap Ao hown =>
  simp only [List.cons_append] at hs ⊢
  refine enter Try.func62 rfl Try.ntmps62 rfl hs ?_
  (repeat (first | refine S.seq ?_ | refine S.region ?_ | refine L.nil ?_ | refine L.p (by first | exact o_assign rfl | exact o_move rfl | exact o_ne rfl rfl | exact o_ptrNilN rfl rfl | exact o_nilNilN rfl rfl | exact o_ge rfl rfl | exact o_pickT rfl rfl | exact o_pickF rfl rfl | exact o_nil rfl | exact o_nilFn rfl | exact o_fld rfl | exact o_load rfl rfl | exact o_load rfl (by assumption) | exact o_lenS rfl | exact o_lenStr rfl | exact o_lt rfl rfl | exact o_idx rfl rfl (by omega) | exact o_idxA rfl rfl (by omega)) rfl ?_ | refine L.gYes rfl rfl rfl ?_ | refine L.gNo rfl rfl rfl rfl rfl ?_ | refine L.gUnd rfl rfl rfl rfl ?_ | refine S.block ?_ | refine S.pop ?_ | refine S.skip ?_ | refine S.exit rfl ?_ | refine S.condT rfl ?_ | refine S.condF rfl ?_))
  refine L.split 11 rfl (fun h1 => ?_) (fun h1 => ?_)
  · (repeat (first | refine S.seq ?_ | refine S.region ?_ | refine L.nil ?_ | refine L.p (by first | exact o_assign rfl | exact o_move rfl | exact o_ne rfl rfl | exact o_ptrNilN rfl rfl | exact o_nilNilN rfl rfl | exact o_ge rfl rfl | exact o_pickT rfl rfl | exact o_pickF rfl rfl | exact o_nil rfl | exact o_nilFn rfl | exact o_fld rfl | exact o_load rfl rfl | exact o_load rfl (by assumption) | exact o_lenS rfl | exact o_lenStr rfl | exact o_lt rfl rfl | exact o_idx rfl rfl (by omega) | exact o_idxA rfl rfl (by omega)) rfl ?_ | refine L.gYes rfl rfl rfl ?_ | refine L.gNo rfl rfl rfl rfl rfl ?_ | refine L.gUnd rfl rfl rfl rfl ?_ | refine S.block ?_ | refine S.pop ?_ | refine S.skip ?_ | refine S.exit rfl ?_ | refine S.condT rfl ?_ | refine S.condF rfl ?_))
    refine L.split 20 rfl (fun h2 => ?_) (fun h2 => ?_)
    · have g := bls_get (l := t) (k := i.toNat) (by omega)
      (repeat (first | refine L.p (o_loadM (b := bt) (T := 4) (cs := bls t) rfl (by simp) g) rfl ?_ | refine S.seq ?_ | refine S.region ?_ | refine L.nil ?_ | refine L.p (by first | exact o_assign rfl | exact o_move rfl | exact o_ne rfl rfl | exact o_ptrNilN rfl rfl | exact o_nilNilN rfl rfl | exact o_ge rfl rfl | exact o_pickT rfl rfl | exact o_pickF rfl rfl | exact o_nil rfl | exact o_nilFn rfl | exact o_fld rfl | exact o_load rfl rfl | exact o_load rfl (by assumption) | exact o_lenS rfl | exact o_lenStr rfl | exact o_lt rfl rfl | exact o_idx rfl rfl (by omega) | exact o_idxA rfl rfl (by omega)) rfl ?_ | refine L.gYes rfl rfl rfl ?_ | refine L.gNo rfl rfl rfl rfl rfl ?_ | refine L.gUnd rfl rfl rfl rfl ?_ | refine S.block ?_ | refine S.pop ?_ | refine S.skip ?_ | refine S.exit rfl ?_ | refine S.condT rfl ?_ | refine S.condF rfl ?_))
      refine S.fin (Fin.one rfl (RV.tmp rfl)) (fun w hs => ?_)
      refine ⟨ret_congr ?_, hs⟩
      cases t.getD i.toNat false <;> simp [h1, h2]
    · (repeat (first | refine S.seq ?_ | refine S.region ?_ | refine L.nil ?_ | refine L.p (by first | exact o_assign rfl | exact o_move rfl | exact o_ne rfl rfl | exact o_ptrNilN rfl rfl | exact o_nilNilN rfl rfl | exact o_ge rfl rfl | exact o_pickT rfl rfl | exact o_pickF rfl rfl | exact o_nil rfl | exact o_nilFn rfl | exact o_fld rfl | exact o_load rfl rfl | exact o_load rfl (by assumption) | exact o_lenS rfl | exact o_lenStr rfl | exact o_lt rfl rfl | exact o_idx rfl rfl (by omega) | exact o_idxA rfl rfl (by omega)) rfl ?_ | refine L.gYes rfl rfl rfl ?_ | refine L.gNo rfl rfl rfl rfl rfl ?_ | refine L.gUnd rfl rfl rfl rfl ?_ | refine S.block ?_ | refine S.pop ?_ | refine S.skip ?_ | refine S.exit rfl ?_ | refine S.condT rfl ?_ | refine S.condF rfl ?_))
      refine S.fin (Fin.one rfl (RV.tmp rfl)) (fun w hs => ?_)
      exact ⟨ret_congr (by simp; omega), hs⟩
  · (repeat (first | refine S.seq ?_ | refine S.region ?_ | refine L.nil ?_ | refine L.p (by first | exact o_assign rfl | exact o_move rfl | exact o_ne rfl rfl | exact o_ptrNilN rfl rfl | exact o_nilNilN rfl rfl | exact o_ge rfl rfl | exact o_pickT rfl rfl | exact o_pickF rfl rfl | exact o_nil rfl | exact o_nilFn rfl | exact o_fld rfl | exact o_load rfl rfl | exact o_load rfl (by assumption) | exact o_lenS rfl | exact o_lenStr rfl | exact o_lt rfl rfl | exact o_idx rfl rfl (by omega) | exact o_idxA rfl rfl (by omega)) rfl ?_ | refine L.gYes rfl rfl rfl ?_ | refine L.gNo rfl rfl rfl rfl rfl ?_ | refine L.gUnd rfl rfl rfl rfl ?_ | refine S.block ?_ | refine S.pop ?_ | refine S.skip ?_ | refine S.exit rfl ?_ | refine S.condT rfl ?_ | refine S.condF rfl ?_))
    refine S.fin (Fin.one rfl (RV.tmp rfl)) (fun w hs => ?_)
    exact ⟨ret_congr (by simp; omega), hs⟩

/-- fill: which numbers are taken: a list that is handed over -/
theorem fill_calls {w : World} {H : List Atom} {bs bt : Nat} {c0 c1 : Value} {t : List Bool} (hn : t.length ≤ 4096) (hs : Sat w (.cells bs 143 [c0, c1] :: .cells bt 4 (bls t) :: H)) :
    Calls Try.prog 87 [ptr bs, .slice (some ⟨bt, 0, none⟩) t.length t.length].toArray w (fun e w' => ∃ A', e = .returned (.tuple #[]) ∧ SpaceAt bs t A' ∧ Sat w' (A' ++ H)) := by
  refine enter Try.func87 rfl Try.ntmps87 rfl hs ?_
  (repeat (first | refine S.seq ?_ | refine S.region ?_ | refine L.nil ?_ | refine L.p (by first | exact o_move rfl | exact o_nil rfl | exact o_nilFn rfl | exact o_fld rfl | exact o_lenS rfl | exact o_lenStr rfl | exact o_lt rfl rfl | exact o_idx rfl rfl (by omega) | exact o_idxA rfl rfl (by omega) | exact o_load rfl rfl | exact o_load rfl (by assumption) | exact o_assign rfl | exact o_notT rfl | exact o_notF rfl | exact o_notD rfl | exact o_notB rfl | exact o_add rfl rfl (by unfold I64; omega)) rfl ?_ | refine L.store rfl rfl (blt_iff.1 rfl) rfl ?_ | refine S.block ?_ | refine S.pop ?_ | refine S.skip ?_ | refine S.exit rfl ?_ | refine S.condT rfl ?_ | refine S.condF rfl ?_))
  refine S.loop (G := Nat × List Nat × Option Addr × Nat × List Atom) (fun s => s.1 ≤ t.length ∧ s.2.1 = (List.range s.1).filter (fun k => !t.getD k false) ∧ Own 3 1 (.slice s.2.2.1 s.2.1.length s.2.2.2.1) (ints s.2.1) s.2.2.2.2)
    (fun s => [(13, .slice (some ⟨bt, 0, none⟩) t.length t.length), (14, .int .i64 t.length), (15, .int .i64 s.1), (0, ptr bs)])
    (fun s => .cells bs 143 [.slice (some ⟨bt, 0, none⟩) t.length t.length, .slice s.2.2.1 s.2.1.length s.2.2.2.1] :: .cells bt 4 (bls t) :: (s.2.2.2.2 ++ H)) (fun s => t.length - s.1) (0, [], none, 0, []) ⟨by simp, rfl, .nil⟩ (by repeat (first | exact trivial | refine ⟨rfl, ?_⟩)) (fun w hs => hs) ?_
  rintro ⟨i, f, a, c, Af⟩ m ⟨h1, h2, h3⟩ hm
  simp only at h1 h2 h3 hm
  dsimp only
  have hfl : f.length ≤ i := by rw [h2]; exact Nat.le_trans (List.length_filter_le _ _) (by simp)
  (repeat (first | refine S.seq ?_ | refine S.region ?_ | refine L.nil ?_ | refine L.p (by first | exact o_move rfl | exact o_nil rfl | exact o_nilFn rfl | exact o_fld rfl | exact o_lenS rfl | exact o_lenStr rfl | exact o_lt rfl rfl | exact o_idx rfl rfl (by omega) | exact o_idxA rfl rfl (by omega) | exact o_load rfl rfl | exact o_load rfl (by assumption) | exact o_assign rfl | exact o_notT rfl | exact o_notF rfl | exact o_notD rfl | exact o_notB rfl | exact o_add rfl rfl (by unfold I64; omega)) rfl ?_ | refine L.store rfl rfl (blt_iff.1 rfl) rfl ?_ | refine S.block ?_ | refine S.pop ?_ | refine S.skip ?_ | refine S.exit rfl ?_ | refine S.condT rfl ?_ | refine S.condF rfl ?_))
  refine S.condD rfl (fun hi => ?_) (fun hi => ?_)
  · have hi' : i < t.length := by omega
    have g := bls_get hi'
    (repeat (first | refine S.seq ?_ | refine S.region ?_ | refine L.nil ?_ | refine L.p (by first | exact o_move rfl | exact o_nil rfl | exact o_nilFn rfl | exact o_fld rfl | exact o_lenS rfl | exact o_lenStr rfl | exact o_lt rfl rfl | exact o_idx rfl rfl (by omega) | exact o_idxA rfl rfl (by omega) | exact o_load rfl rfl | exact o_load rfl (by assumption) | exact o_assign rfl | exact o_notT rfl | exact o_notF rfl | exact o_notD rfl | exact o_notB rfl | exact o_add rfl rfl (by unfold I64; omega)) rfl ?_ | refine L.store rfl rfl (blt_iff.1 rfl) rfl ?_ | refine S.block ?_ | refine S.pop ?_ | refine S.skip ?_ | refine S.exit rfl ?_ | refine S.condT rfl ?_ | refine S.condF rfl ?_))
    refine S.condB rfl (fun hb => ?_) (fun hb => ?_)
    · have hb' : t.getD i false = false := by simpa using hb
      (repeat (first | refine S.seq ?_ | refine S.region ?_ | refine L.nil ?_ | refine L.p (by first | exact o_move rfl | exact o_nil rfl | exact o_nilFn rfl | exact o_fld rfl | exact o_lenS rfl | exact o_lenStr rfl | exact o_lt rfl rfl | exact o_idx rfl rfl (by omega) | exact o_idxA rfl rfl (by omega) | exact o_load rfl rfl | exact o_load rfl (by assumption) | exact o_assign rfl | exact o_notT rfl | exact o_notF rfl | exact o_notD rfl | exact o_notB rfl | exact o_add rfl rfl (by unfold I64; omega)) rfl ?_ | refine L.store rfl rfl (blt_iff.1 rfl) rfl ?_ | refine S.block ?_ | refine S.pop ?_ | refine S.skip ?_ | refine S.exit rfl ?_ | refine S.condT rfl ?_ | refine S.condF rfl ?_))
      refine L.slice1 rfl [.int .i64 i] rfl (by rfl) (by rfl) rfl (by decide) (fun b1 => ?_)
      (repeat (first | refine S.seq ?_ | refine S.region ?_ | refine L.nil ?_ | refine L.p (by first | exact o_move rfl | exact o_nil rfl | exact o_nilFn rfl | exact o_fld rfl | exact o_lenS rfl | exact o_lenStr rfl | exact o_lt rfl rfl | exact o_idx rfl rfl (by omega) | exact o_idxA rfl rfl (by omega) | exact o_load rfl rfl | exact o_load rfl (by assumption) | exact o_assign rfl | exact o_notT rfl | exact o_notF rfl | exact o_notD rfl | exact o_notB rfl | exact o_add rfl rfl (by unfold I64; omega)) rfl ?_ | refine L.store rfl rfl (blt_iff.1 rfl) rfl ?_ | refine S.block ?_ | refine S.pop ?_ | refine S.skip ?_ | refine S.exit rfl ?_ | refine S.condT rfl ?_ | refine S.condF rfl ?_))
      refine L.append (m := 1) (cnt := f.length) (news := [.int .i64 i]) (A := Af) (R := .cells b1 3 [.int .i64 i] :: .cells bs 143 [.slice (some ⟨bt, 0, none⟩) t.length t.length, .slice a f.length c] :: .cells bt 4 (bls t) :: H) rfl h3 rfl (Own.src3 (by simp)) lenOf_slice rfl (by simp [Value.oneCell']) (by simp) (by omega) (by decide) rfl (by intro a; simp only [List.count_append, List.count_cons, List.count_nil] <;> omega) rfl (fun a' c' A' ho => ?_)
      (repeat (first | refine S.seq ?_ | refine S.region ?_ | refine L.nil ?_ | refine L.p (by first | exact o_move rfl | exact o_nil rfl | exact o_nilFn rfl | exact o_fld rfl | exact o_lenS rfl | exact o_lenStr rfl | exact o_lt rfl rfl | exact o_idx rfl rfl (by omega) | exact o_idxA rfl rfl (by omega) | exact o_load rfl rfl | exact o_load rfl (by assumption) | exact o_assign rfl | exact o_notT rfl | exact o_notF rfl | exact o_notD rfl | exact o_notB rfl | exact o_add rfl rfl (by unfold I64; omega)) rfl ?_ | refine L.store rfl rfl (blt_iff.1 rfl) rfl ?_ | refine S.block ?_ | refine S.pop ?_ | refine S.skip ?_ | refine S.exit rfl ?_ | refine S.condT rfl ?_ | refine S.condF rfl ?_))
      have hf2 : (List.range (i + 1)).filter (fun k => !t.getD k false) = f ++ [i] := by
        rw [filter_snoc, ← h2]; simp only [hb']; rfl
      have hl2 : (f ++ [i]).length = f.length + 1 := by simp
      refine S.round (fun ac_ w hac_ hs => ⟨((i + 1, f ++ [i], a', c', A')), ⟨?_, (by (try dsimp only); omega)⟩, hac_.weaken (look_sub (by repeat (first | exact trivial | refine ⟨rfl, ?_⟩))), (by (try dsimp only); exact (by rw [hl2]; exact (hs.re (H' := .cells b1 3 [.int .i64 i] :: (.cells bs 143 [.slice (some ⟨bt, 0, none⟩) t.length t.length, .slice a' (f.length + 1) c'] :: .cells bt 4 (bls t) :: (A' ++ H))) (by intro a; simp only [List.count_append, List.count_cons, List.count_nil] <;> omega)).tail))⟩)
      exact ⟨by omega, hf2.symm, by simp only [hl2]; rw [show ints (f ++ [i]) = ints f ++ [.int .i64 i] by simp [ints]]; exact ho⟩
    · have hb' : t.getD i false = true := by simpa using hb
      (repeat (first | refine S.seq ?_ | refine S.region ?_ | refine L.nil ?_ | refine L.p (by first | exact o_move rfl | exact o_nil rfl | exact o_nilFn rfl | exact o_fld rfl | exact o_lenS rfl | exact o_lenStr rfl | exact o_lt rfl rfl | exact o_idx rfl rfl (by omega) | exact o_idxA rfl rfl (by omega) | exact o_load rfl rfl | exact o_load rfl (by assumption) | exact o_assign rfl | exact o_notT rfl | exact o_notF rfl | exact o_notD rfl | exact o_notB rfl | exact o_add rfl rfl (by unfold I64; omega)) rfl ?_ | refine L.store rfl rfl (blt_iff.1 rfl) rfl ?_ | refine S.block ?_ | refine S.pop ?_ | refine S.skip ?_ | refine S.exit rfl ?_ | refine S.condT rfl ?_ | refine S.condF rfl ?_))
      refine S.round (fun ac_ w hac_ hs => ⟨((i + 1, f, a, c, Af)), ⟨?_, (by (try dsimp only); omega)⟩, hac_.weaken (look_sub (by repeat (first | exact trivial | refine ⟨rfl, ?_⟩))), (by (try dsimp only); exact hs)⟩)
      exact ⟨by omega, by rw [filter_snoc, ← h2]; simp only [hb']; simp, h3⟩
  · (repeat (first | refine S.seq ?_ | refine S.region ?_ | refine L.nil ?_ | refine L.p (by first | exact o_move rfl | exact o_nil rfl | exact o_nilFn rfl | exact o_fld rfl | exact o_lenS rfl | exact o_lenStr rfl | exact o_lt rfl rfl | exact o_idx rfl rfl (by omega) | exact o_idxA rfl rfl (by omega) | exact o_load rfl rfl | exact o_load rfl (by assumption) | exact o_assign rfl | exact o_notT rfl | exact o_notF rfl | exact o_notD rfl | exact o_notB rfl | exact o_add rfl rfl (by unfold I64; omega)) rfl ?_ | refine L.store rfl rfl (blt_iff.1 rfl) rfl ?_ | refine S.block ?_ | refine S.pop ?_ | refine S.skip ?_ | refine S.exit rfl ?_ | refine S.condT rfl ?_ | refine S.condF rfl ?_))
    refine S.end (Fin.zero rfl) (fun w hs => ?_)
    have hit : i = t.length := by omega
    subst hit
    have hfo : FreeOf t f := ⟨by rw [h2]; exact List.Pairwise.filter _ List.nodup_range, fun k => by rw [h2]; simp [List.mem_filter]⟩
    have hsort : f.Pairwise (· < ·) := by rw [h2]; exact List.Pairwise.filter _ List.pairwise_lt_range
    have hheap : Heap f f.length := by
      intro k h0 hk
      have := List.pairwise_iff_getElem.1 hsort ((k - 1) / 2) k (by omega) hk (by omega)
      rw [show f.getD ((k - 1) / 2) 0 = f[(k - 1) / 2] by simp [show (k - 1) / 2 < f.length by omega], show f.getD k 0 = f[k] by simp [hk]]
      omega
    refine ⟨_, rfl, .mk (bt := bt) hn hfo hheap (.mk h3), ?_⟩
    exact hs.re (by intro a; simp only [List.count_append, List.count_cons, List.count_nil] <;> omega)
end Go.Proofs.Ytlecgoebbjnnmaa

