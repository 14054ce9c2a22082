/- Numbers, free or taken: taken, given back, told anew. -/
import Derived.Test.YtlecgoebbjnnmaaSpace
set_option linter.unusedVariables false
set_option linter.unusedSimpArgs false
set_option linter.unusedSectionVars false
set_option linter.constructorNameAsVariable false
set_option maxRecDepth 100000
set_option maxHeartbeats 4000000
namespace Go.Proofs.Ytlecgoebbjnnmaa
open Go
variable [Ref]

theorem SpaceAt.le {bs : Nat} {t : List Bool} {A : List Atom} (h : SpaceAt bs t A) : t.length ≤ 4096 := by cases h; assumption

theorem take_full {w : World} {A H : List Atom} {bs : Nat} {t : List Bool} (h0 : freeN t = 0) (hS : SpaceAt bs t A) (hs : Sat w (A ++ H)) :
    Calls Try.prog 69 [ptr bs].toArray w (fun e w' => e = .returned (.tuple #[.int .i64 0, .int .i64 3]) ∧ Sat w' (A ++ H)) := by
  refine enter Try.func69 rfl Try.ntmps69 rfl hs ?_
  (repeat (first | refine S.seq ?_ | refine S.region ?_ | refine L.nil ?_ | refine L.p (by first | exact o_assign rfl | exact o_move rfl | exact o_eq rfl rfl | exact o_ptrNil rfl rfl | exact o_nilNil rfl rfl | exact o_nil rfl | exact o_nilFn rfl | exact o_fld rfl | exact o_ifaceP rfl | exact o_ifaceI rfl | exact o_assertI rfl | exact o_load rfl rfl | exact o_load rfl (by assumption) | exact o_idx rfl rfl (by omega) | exact o_idxA rfl rfl (by omega)) rfl ?_ | refine L.store rfl rfl (blt_iff.1 rfl) rfl ?_ | refine S.block ?_ | refine S.pop ?_ | refine S.skip ?_ | refine S.exit rfl ?_ | refine S.condT rfl ?_ | refine S.condF rfl ?_))
  refine L.callR rfl (hc_func Try.func60 (by decide) rfl rfl) rfl (fun w hs => sfree_calls hS hs) ?_
  rintro e w' ⟨rfl, hs'⟩
  refine ⟨_, _, rfl, (by assumption), ?_⟩
  (repeat (first | refine S.seq ?_ | refine S.region ?_ | refine L.nil ?_ | refine L.p (by first | exact o_assign rfl | exact o_move rfl | exact o_eq rfl rfl | exact o_ptrNil rfl rfl | exact o_nilNil rfl rfl | exact o_nil rfl | exact o_nilFn rfl | exact o_fld rfl | exact o_ifaceP rfl | exact o_ifaceI rfl | exact o_assertI rfl | exact o_load rfl rfl | exact o_load rfl (by assumption) | exact o_idx rfl rfl (by omega) | exact o_idxA rfl rfl (by omega)) rfl ?_ | refine L.store rfl rfl (blt_iff.1 rfl) rfl ?_ | refine S.block ?_ | refine S.pop ?_ | refine S.skip ?_ | refine S.exit rfl ?_ | refine S.condT rfl ?_ | refine S.condF rfl ?_))
  refine S.condD rfl (fun hc => ?_) (fun hc => ?_)
  · (repeat (first | refine S.seq ?_ | refine S.region ?_ | refine L.nil ?_ | refine L.p (by first | exact o_assign rfl | exact o_move rfl | exact o_eq rfl rfl | exact o_ptrNil rfl rfl | exact o_nilNil rfl rfl | exact o_nil rfl | exact o_nilFn rfl | exact o_fld rfl | exact o_ifaceP rfl | exact o_ifaceI rfl | exact o_assertI rfl | exact o_load rfl rfl | exact o_load rfl (by assumption) | exact o_idx rfl rfl (by omega) | exact o_idxA rfl rfl (by omega)) rfl ?_ | refine L.store rfl rfl (blt_iff.1 rfl) rfl ?_ | refine S.block ?_ | refine S.pop ?_ | refine S.skip ?_ | refine S.exit rfl ?_ | refine S.condT rfl ?_ | refine S.condF rfl ?_))
    refine S.fin (Fin.two rfl (RV.tmp rfl) (RV.tmp rfl)) (fun w hs => ?_)
    exact ⟨rfl, hs⟩
  · omega
theorem take_calls {w : World} {A H : List Atom} {bs : Nat} {t : List Bool} (h0 : 0 < freeN t) (hS : SpaceAt bs t A) (hs : Sat w (A ++ H)) :
    Calls Try.prog 69 [ptr bs].toArray w (fun e w' => ∃ x A', e = .returned (.tuple #[.int .i64 (x : Nat), .int .i64 0]) ∧ x < t.length ∧ t.getD x false = false ∧ (∀ y, y < x → t.getD y false = true) ∧ SpaceAt bs (t.set x true) A' ∧ Sat w' (A' ++ H)) := by
  refine enter Try.func69 rfl Try.ntmps69 rfl hs ?_
  (repeat (first | refine S.seq ?_ | refine S.region ?_ | refine L.nil ?_ | refine L.p (by first | exact o_assign rfl | exact o_move rfl | exact o_eq rfl rfl | exact o_ptrNil rfl rfl | exact o_nilNil rfl rfl | exact o_nil rfl | exact o_nilFn rfl | exact o_fld rfl | exact o_ifaceP rfl | exact o_ifaceI rfl | exact o_assertI rfl | exact o_load rfl rfl | exact o_load rfl (by assumption) | exact o_idx rfl rfl (by omega) | exact o_idxA rfl rfl (by omega)) rfl ?_ | refine L.store rfl rfl (blt_iff.1 rfl) rfl ?_ | refine S.block ?_ | refine S.pop ?_ | refine S.skip ?_ | refine S.exit rfl ?_ | refine S.condT rfl ?_ | refine S.condF rfl ?_))
  refine L.callR rfl (hc_func Try.func60 (by decide) rfl rfl) rfl (fun w hs => sfree_calls hS hs) ?_
  rintro e w' ⟨rfl, hs'⟩
  refine ⟨_, _, rfl, (by assumption), ?_⟩
  (repeat (first | refine S.seq ?_ | refine S.region ?_ | refine L.nil ?_ | refine L.p (by first | exact o_assign rfl | exact o_move rfl | exact o_eq rfl rfl | exact o_ptrNil rfl rfl | exact o_nilNil rfl rfl | exact o_nil rfl | exact o_nilFn rfl | exact o_fld rfl | exact o_ifaceP rfl | exact o_ifaceI rfl | exact o_assertI rfl | exact o_load rfl rfl | exact o_load rfl (by assumption) | exact o_idx rfl rfl (by omega) | exact o_idxA rfl rfl (by omega)) rfl ?_ | refine L.store rfl rfl (blt_iff.1 rfl) rfl ?_ | refine S.block ?_ | refine S.pop ?_ | refine S.skip ?_ | refine S.exit rfl ?_ | refine S.condT rfl ?_ | refine S.condF rfl ?_))
  refine S.condD rfl (fun hc => ?_) (fun hc => ?_)
  · omega
  · cases hS with
    | @mk bt f A hn hf hh0 hL =>
    have hfl := freeOf_length hf
    have hfle : f.length ≤ 4096 := by
      rw [hfl]; exact Nat.le_trans List.count_le_length hn
    cases hL with
    | @mk a cap Ao hown =>
    simp only [List.cons_append]
    (repeat (first | refine S.seq ?_ | refine S.region ?_ | refine L.nil ?_ | refine L.p (by first | exact o_assign rfl | exact o_move rfl | exact o_eq rfl rfl | exact o_ptrNil rfl rfl | exact o_nilNil rfl rfl | exact o_nil rfl | exact o_nilFn rfl | exact o_fld rfl | exact o_ifaceP rfl | exact o_ifaceI rfl | exact o_assertI rfl | exact o_load rfl rfl | exact o_load rfl (by assumption) | exact o_idx rfl rfl (by omega) | exact o_idxA rfl rfl (by omega)) rfl ?_ | refine L.store rfl rfl (blt_iff.1 rfl) rfl ?_ | refine S.block ?_ | refine S.pop ?_ | refine S.skip ?_ | refine S.exit rfl ?_ | refine S.condT rfl ?_ | refine S.condF rfl ?_))
    refine L.callR rfl (hc_func Try.func93 (by decide) rfl rfl) rfl (fun w hs => pop_calls (A := .cells bs 143 [.slice (some ⟨bt, 0, none⟩) t.length t.length, .slice a f.length cap] :: Ao) (H := .cells bt 4 (bls t) :: H) (by omega) (by omega) hh0 (.mk hown) (hs.re (by intro a; simp only [List.count_append, List.count_cons, List.count_nil] <;> omega))) ?_
    rintro e w' ⟨x, f', A', rfl, g1, g2, g3, hL', hs'⟩
    cases hL' with
    | @mk a2 cap2 Ao2 hown2 =>
    refine ⟨_, _, rfl, hs', ?_⟩
    simp only [List.cons_append]
    have hx : x ∈ f := g1.mem_iff.1 (by simp)
    obtain ⟨hx1, hx2⟩ := (hf.2 x).1 hx
    (repeat (first | refine S.seq ?_ | refine S.region ?_ | refine L.nil ?_ | refine L.p (by first | exact o_assign rfl | exact o_move rfl | exact o_eq rfl rfl | exact o_ptrNil rfl rfl | exact o_nilNil rfl rfl | exact o_nil rfl | exact o_nilFn rfl | exact o_fld rfl | exact o_ifaceP rfl | exact o_ifaceI rfl | exact o_assertI rfl | exact o_load rfl rfl | exact o_load rfl (by assumption) | exact o_idx rfl rfl (by omega) | exact o_idxA rfl rfl (by omega)) rfl ?_ | refine L.store rfl rfl (blt_iff.1 rfl) rfl ?_ | refine S.block ?_ | refine S.pop ?_ | refine S.skip ?_ | refine S.exit rfl ?_ | refine S.condT rfl ?_ | refine S.condF rfl ?_))
    refine L.store rfl rfl (by simp; exact hx1) rfl ?_
    rw [bls_set]
    (repeat (first | refine S.seq ?_ | refine S.region ?_ | refine L.nil ?_ | refine L.p (by first | exact o_assign rfl | exact o_move rfl | exact o_eq rfl rfl | exact o_ptrNil rfl rfl | exact o_nilNil rfl rfl | exact o_nil rfl | exact o_nilFn rfl | exact o_fld rfl | exact o_ifaceP rfl | exact o_ifaceI rfl | exact o_assertI rfl | exact o_load rfl rfl | exact o_load rfl (by assumption) | exact o_idx rfl rfl (by omega) | exact o_idxA rfl rfl (by omega)) rfl ?_ | refine L.store rfl rfl (blt_iff.1 rfl) rfl ?_ | refine S.block ?_ | refine S.pop ?_ | refine S.skip ?_ | refine S.exit rfl ?_ | refine S.condT rfl ?_ | refine S.condF rfl ?_))
    refine S.fin (Fin.two rfl (RV.tmp rfl) (RV.tmp rfl)) (fun w hs => ?_)
    refine ⟨x, _, rfl, hx1, hx2, ?_, .mk (bt := bt) (by simpa using hn) (freeOf_take hf g1) g3 (by rw [List.length_set]; exact .mk hown2), hs.re (by intro a; simp only [List.count_append, List.count_cons, List.count_nil] <;> omega)⟩
    intro y hy
    cases hyb : t.getD y false with
    | true => rfl
    | false => have := g2 y ((hf.2 y).2 ⟨by omega, hyb⟩); omega

theorem give_calls {w : World} {A H : List Atom} {bs : Nat} {t : List Bool} {i : Int} (hS : SpaceAt bs t A) (hs : Sat w (A ++ H)) :
    Calls Try.prog 67 [ptr bs, .int .i64 i].toArray w (fun e w' => ∃ A', e = .returned (.int .i64 (if 0 ≤ i ∧ i < t.length ∧ t.getD i.toNat false = true then 0 else 1)) ∧
      SpaceAt bs (if 0 ≤ i ∧ i < t.length ∧ t.getD i.toNat false = true then t.set i.toNat false else t) A' ∧ Sat w' (A' ++ H)) := by
  refine enter Try.func67 rfl Try.ntmps67 rfl hs ?_
  (repeat (first | refine S.seq ?_ | refine S.region ?_ | refine L.nil ?_ | refine L.p (by first | exact o_assign rfl | exact o_move rfl | exact o_notT rfl | exact o_notF rfl | exact o_notD rfl | exact o_notB rfl | exact o_nil rfl | exact o_nilFn rfl | exact o_fld rfl | exact o_load rfl rfl | exact o_load rfl (by assumption) | exact o_idx rfl rfl (by omega) | exact o_idxA rfl rfl (by omega) | exact o_ifaceP rfl | exact o_ifaceI rfl) rfl ?_ | refine L.store rfl rfl (blt_iff.1 rfl) rfl ?_ | refine S.block ?_ | refine S.pop ?_ | refine S.skip ?_ | refine S.exit rfl ?_ | refine S.condT rfl ?_ | refine S.condF rfl ?_))
  refine L.callR rfl (hc_func Try.func62 (by decide) rfl rfl) rfl (fun w hs => staken_calls hS hs) ?_
  rintro e w' ⟨rfl, hs'⟩
  refine ⟨_, _, rfl, (by assumption), ?_⟩
  (repeat (first | refine S.seq ?_ | refine S.region ?_ | refine L.nil ?_ | refine L.p (by first | exact o_assign rfl | exact o_move rfl | exact o_notT rfl | exact o_notF rfl | exact o_notD rfl | exact o_notB rfl | exact o_nil rfl | exact o_nilFn rfl | exact o_fld rfl | exact o_load rfl rfl | exact o_load rfl (by assumption) | exact o_idx rfl rfl (by omega) | exact o_idxA rfl rfl (by omega) | exact o_ifaceP rfl | exact o_ifaceI rfl) rfl ?_ | refine L.store rfl rfl (blt_iff.1 rfl) rfl ?_ | refine S.block ?_ | refine S.pop ?_ | refine S.skip ?_ | refine S.exit rfl ?_ | refine S.condT rfl ?_ | refine S.condF rfl ?_))
  refine S.condD rfl (fun hc => ?_) (fun hc => ?_)
  · (repeat (first | refine S.seq ?_ | refine S.region ?_ | refine L.nil ?_ | refine L.p (by first | exact o_assign rfl | exact o_move rfl | exact o_notT rfl | exact o_notF rfl | exact o_notD rfl | exact o_notB rfl | exact o_nil rfl | exact o_nilFn rfl | exact o_fld rfl | exact o_load rfl rfl | exact o_load rfl (by assumption) | exact o_idx rfl rfl (by omega) | exact o_idxA rfl rfl (by omega) | exact o_ifaceP rfl | exact o_ifaceI rfl) rfl ?_ | refine L.store rfl rfl (blt_iff.1 rfl) rfl ?_ | refine S.block ?_ | refine S.pop ?_ | refine S.skip ?_ | refine S.exit rfl ?_ | refine S.condT rfl ?_ | refine S.condF rfl ?_))
    refine S.fin (Fin.one rfl (RV.tmp rfl)) (fun w hs => ?_)
    rw [if_neg hc, if_neg hc]
    exact ⟨A, rfl, hS, hs⟩
  · have hc : 0 ≤ i ∧ i < t.length ∧ t.getD i.toNat false = true := Classical.not_not.1 hc
    rw [if_pos hc, if_pos hc]
    obtain ⟨k, rfl⟩ : ∃ k : Nat, i = k := ⟨i.toNat, by omega⟩
    obtain ⟨c1, c2, c3⟩ := hc
    simp only [Int.toNat_natCast] at c3 ⊢
    cases hS with
    | @mk bt f A hn hf hh0 hL =>
    have hfl := freeOf_length hf
    have hfle : f.length ≤ 4096 := by
      rw [hfl]; exact Nat.le_trans List.count_le_length hn
    cases hL with
    | @mk a cap Ao hown =>
    simp only [List.cons_append]
    (repeat (first | refine S.seq ?_ | refine S.region ?_ | refine L.nil ?_ | refine L.p (by first | exact o_assign rfl | exact o_move rfl | exact o_notT rfl | exact o_notF rfl | exact o_notD rfl | exact o_notB rfl | exact o_nil rfl | exact o_nilFn rfl | exact o_fld rfl | exact o_load rfl rfl | exact o_load rfl (by assumption) | exact o_idx rfl rfl (by omega) | exact o_idxA rfl rfl (by omega) | exact o_ifaceP rfl | exact o_ifaceI rfl) rfl ?_ | refine L.store rfl rfl (blt_iff.1 rfl) rfl ?_ | refine S.block ?_ | refine S.pop ?_ | refine S.skip ?_ | refine S.exit rfl ?_ | refine S.condT rfl ?_ | refine S.condF rfl ?_))
    refine L.store rfl rfl (by simp; omega) rfl ?_
    rw [bls_set]
    (repeat (first | refine S.seq ?_ | refine S.region ?_ | refine L.nil ?_ | refine L.p (by first | exact o_assign rfl | exact o_move rfl | exact o_notT rfl | exact o_notF rfl | exact o_notD rfl | exact o_notB rfl | exact o_nil rfl | exact o_nilFn rfl | exact o_fld rfl | exact o_load rfl rfl | exact o_load rfl (by assumption) | exact o_idx rfl rfl (by omega) | exact o_idxA rfl rfl (by omega) | exact o_ifaceP rfl | exact o_ifaceI rfl) rfl ?_ | refine L.store rfl rfl (blt_iff.1 rfl) rfl ?_ | refine S.block ?_ | refine S.pop ?_ | refine S.skip ?_ | refine S.exit rfl ?_ | refine S.condT rfl ?_ | refine S.condF rfl ?_))
    refine L.callR rfl (hc_func Try.func92 (by decide) rfl rfl) rfl (fun w hs => push_calls (A := .cells bs 143 [.slice (some ⟨bt, 0, none⟩) t.length t.length, .slice a f.length cap] :: Ao) (x := k) (H := .cells bt 4 (bls (t.set k false)) :: H) (by omega) hh0 (.mk hown) (hs.re (by intro a; simp only [List.count_append, List.count_cons, List.count_nil] <;> omega))) ?_
    rintro e w' ⟨f', A', rfl, g1, g2, hL', hs'⟩
    refine ⟨_, _, rfl, (by assumption), ?_⟩
    (repeat (first | refine S.seq ?_ | refine S.region ?_ | refine L.nil ?_ | refine L.p (by first | exact o_assign rfl | exact o_move rfl | exact o_notT rfl | exact o_notF rfl | exact o_notD rfl | exact o_notB rfl | exact o_nil rfl | exact o_nilFn rfl | exact o_fld rfl | exact o_load rfl rfl | exact o_load rfl (by assumption) | exact o_idx rfl rfl (by omega) | exact o_idxA rfl rfl (by omega) | exact o_ifaceP rfl | exact o_ifaceI rfl) rfl ?_ | refine L.store rfl rfl (blt_iff.1 rfl) rfl ?_ | refine S.block ?_ | refine S.pop ?_ | refine S.skip ?_ | refine S.exit rfl ?_ | refine S.condT rfl ?_ | refine S.condF rfl ?_))
    refine S.fin (Fin.one rfl (RV.tmp rfl)) (fun w hs => ?_)
    exact ⟨_, rfl, .mk (bt := bt) (by simpa using hn) (freeOf_give hf (by omega) c3 g1) g2 (by rw [List.length_set]; exact hL'), hs.re (by intro a; simp only [List.count_append, List.count_cons, List.count_nil] <;> omega)⟩

theorem snew_calls {w : World} {H : List Atom} {n : Nat} (h1 : 1 ≤ n) (h2 : n ≤ 4096) (hs : Sat w H) :
    Calls Try.prog 55 [.int .i64 n].toArray w (fun e w' => ∃ bs A, e = .returned (.tuple #[ptr bs, .int .i64 0]) ∧ SpaceAt bs (List.replicate n false) A ∧ Sat w' (A ++ H)) := by
  refine enter Try.func55 rfl Try.ntmps55 rfl hs ?_
  (repeat (first | refine S.seq ?_ | refine S.region ?_ | refine L.nil ?_ | refine L.p (by first | exact o_assign rfl | exact o_move rfl | exact o_lt rfl rfl | exact o_gt rfl rfl | exact o_pickT rfl rfl | exact o_pickF rfl rfl | exact o_build rfl) rfl ?_ | refine L.gYes rfl rfl rfl ?_ | refine L.gNo rfl rfl rfl rfl rfl ?_ | refine L.gUnd rfl rfl rfl rfl ?_ | refine S.block ?_ | refine S.pop ?_ | refine S.skip ?_ | refine S.exit rfl ?_ | refine S.condT rfl ?_ | refine S.condF rfl ?_))
  refine L.split 7 rfl (fun h3 => ?_) (fun h3 => ?_)
  · omega
  · (repeat (first | refine S.seq ?_ | refine S.region ?_ | refine L.nil ?_ | refine L.p (by first | exact o_assign rfl | exact o_move rfl | exact o_lt rfl rfl | exact o_gt rfl rfl | exact o_pickT rfl rfl | exact o_pickF rfl rfl | exact o_build rfl) rfl ?_ | refine L.gYes rfl rfl rfl ?_ | refine L.gNo rfl rfl rfl rfl rfl ?_ | refine L.gUnd rfl rfl rfl rfl ?_ | refine S.block ?_ | refine S.pop ?_ | refine S.skip ?_ | refine S.exit rfl ?_ | refine S.condT rfl ?_ | refine S.condF rfl ?_))
    refine S.condD rfl (fun h4 => ?_) (fun h4 => ?_)
    · omega
    · (repeat (first | refine S.seq ?_ | refine S.region ?_ | refine L.nil ?_ | refine L.p (by first | exact o_assign rfl | exact o_move rfl | exact o_lt rfl rfl | exact o_gt rfl rfl | exact o_pickT rfl rfl | exact o_pickF rfl rfl | exact o_build rfl) rfl ?_ | refine L.gYes rfl rfl rfl ?_ | refine L.gNo rfl rfl rfl rfl rfl ?_ | refine L.gUnd rfl rfl rfl rfl ?_ | refine S.block ?_ | refine S.pop ?_ | refine S.skip ?_ | refine S.exit rfl ?_ | refine S.condT rfl ?_ | refine S.condF rfl ?_))
      refine L.boxN rfl rfl (fun bs => ?_)
      (repeat (first | refine S.seq ?_ | refine S.region ?_ | refine L.nil ?_ | refine L.p (by first | exact o_assign rfl | exact o_move rfl | exact o_lt rfl rfl | exact o_gt rfl rfl | exact o_pickT rfl rfl | exact o_pickF rfl rfl | exact o_build rfl) rfl ?_ | refine L.gYes rfl rfl rfl ?_ | refine L.gNo rfl rfl rfl rfl rfl ?_ | refine L.gUnd rfl rfl rfl rfl ?_ | refine S.block ?_ | refine S.pop ?_ | refine S.skip ?_ | refine S.exit rfl ?_ | refine S.condT rfl ?_ | refine S.condF rfl ?_))
      refine L.make1 rfl rfl (by omega) rfl (fun bt => ?_)
      rw [← bls_replicate]
      (repeat (first | refine S.seq ?_ | refine S.region ?_ | refine L.nil ?_ | refine L.p (by first | exact o_assign rfl | exact o_move rfl | exact o_lt rfl rfl | exact o_gt rfl rfl | exact o_pickT rfl rfl | exact o_pickF rfl rfl | exact o_build rfl) rfl ?_ | refine L.gYes rfl rfl rfl ?_ | refine L.gNo rfl rfl rfl rfl rfl ?_ | refine L.gUnd rfl rfl rfl rfl ?_ | refine S.block ?_ | refine S.pop ?_ | refine S.skip ?_ | refine S.exit rfl ?_ | refine S.condT rfl ?_ | refine S.condF rfl ?_))
      refine L.callR rfl (hc_func Try.func87 (by decide) rfl rfl) rfl (fun w hs => (by have := fill_calls (t := List.replicate n false) (by simpa using h2) (hs.re (H' := .cells bs 143 [.slice none 0 0, .slice none 0 0] :: .cells bt 4 (bls (List.replicate n false)) :: H) (by intro a; simp only [List.count_append, List.count_cons, List.count_nil] <;> omega)); rw [List.length_replicate] at this; exact this)) ?_
      rintro e w' ⟨A', rfl, hS', hs'⟩
      refine ⟨_, _, rfl, (by assumption), ?_⟩
      (repeat (first | refine S.seq ?_ | refine S.region ?_ | refine L.nil ?_ | refine L.p (by first | exact o_assign rfl | exact o_move rfl | exact o_lt rfl rfl | exact o_gt rfl rfl | exact o_pickT rfl rfl | exact o_pickF rfl rfl | exact o_build rfl) rfl ?_ | refine L.gYes rfl rfl rfl ?_ | refine L.gNo rfl rfl rfl rfl rfl ?_ | refine L.gUnd rfl rfl rfl rfl ?_ | refine S.block ?_ | refine S.pop ?_ | refine S.skip ?_ | refine S.exit rfl ?_ | refine S.condT rfl ?_ | refine S.condF rfl ?_))
      refine S.fin (Fin.two rfl (RV.tmp rfl) (RV.tmp rfl)) (fun w hs => ?_)
      exact ⟨bs, A', rfl, hS', hs⟩
end Go.Proofs.Ytlecgoebbjnnmaa

