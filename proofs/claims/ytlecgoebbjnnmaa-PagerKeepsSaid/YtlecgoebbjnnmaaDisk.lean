/- The disk's functions. -/
import Derived.Test.YtlecgoebbjnnmaaTypes
import Derived.Test.YtlecgoebbjnnmaaDiskM
set_option linter.unusedVariables false
set_option linter.unusedSimpArgs false
set_option linter.unusedSectionVars false
set_option linter.constructorNameAsVariable false
namespace Go.Proofs.Ytlecgoebbjnnmaa
open Go
variable [Ref]

theorem blocks_calls {w : World} {H : List Atom} {b ln cn : Nat} {a : Option Addr} {c1 c2 c3 c4 c5 : Value}
    (hs : Sat w (.cells b 94 [.slice a ln cn, c1, c2, c3, c4, c5] :: H)) :
    Calls Try.prog 52 [ptr b].toArray w (fun e w' => e = .returned (.int .i64 ln) ∧ Sat w' (.cells b 94 [.slice a ln cn, c1, c2, c3, c4, c5] :: H)) := by
  refine enter Try.func52 rfl Try.ntmps52 rfl hs ?_
  (repeat (first | refine S.seq ?_ | refine S.region ?_ | refine L.nil ?_ | refine L.p (by first | exact o_assign rfl | exact o_move rfl | exact o_eq rfl rfl | exact o_ptrNil rfl rfl | exact o_nilNil rfl rfl | exact o_nil rfl | exact o_nilFn rfl | exact o_fld rfl | exact o_load rfl rfl | exact o_load rfl (by assumption) | exact o_lenS rfl | exact o_lenStr rfl) rfl ?_ | refine S.block ?_ | refine S.pop ?_ | refine S.skip ?_ | refine S.exit rfl ?_ | refine S.condT rfl ?_ | refine S.condF rfl ?_))
  refine S.fin (Fin.one rfl (RV.tmp rfl)) (fun w hs => ?_)
  exact ⟨rfl, hs⟩

theorem has_calls {w : World} {H : List Atom} {b ln cn : Nat} {a : Option Addr} {c1 c2 c3 c4 c5 : Value} {i : Int}
    (hs : Sat w (.cells b 94 [.slice a ln cn, c1, c2, c3, c4, c5] :: H)) :
    Calls Try.prog 50 [ptr b, .int .i64 i].toArray w (fun e w' => e = .returned (.bool (decide (0 ≤ i ∧ i < ln))) ∧ Sat w' (.cells b 94 [.slice a ln cn, c1, c2, c3, c4, c5] :: H)) := by
  refine enter Try.func50 rfl Try.ntmps50 rfl hs ?_
  (repeat (first | refine S.seq ?_ | refine S.region ?_ | refine L.nil ?_ | refine L.p (by first | exact o_assign rfl | exact o_move rfl | exact o_ge rfl rfl | exact o_lt rfl rfl | exact o_pickT rfl rfl | exact o_pickF rfl rfl) rfl ?_ | refine L.gYes rfl rfl rfl ?_ | refine L.gNo rfl rfl rfl rfl rfl ?_ | refine L.gUnd rfl rfl rfl rfl ?_ | refine S.block ?_ | refine S.pop ?_ | refine S.skip ?_ | refine S.exit rfl ?_ | refine S.condT rfl ?_ | refine S.condF rfl ?_))
  refine L.split 7 rfl (fun h => ?_) (fun h => ?_)
  · (repeat (first | refine S.seq ?_ | refine S.region ?_ | refine L.nil ?_ | refine L.p (by first | exact o_assign rfl | exact o_move rfl | exact o_ge rfl rfl | exact o_lt rfl rfl | exact o_pickT rfl rfl | exact o_pickF rfl rfl) rfl ?_ | refine L.gYes rfl rfl rfl ?_ | refine L.gNo rfl rfl rfl rfl rfl ?_ | refine L.gUnd rfl rfl rfl rfl ?_ | refine S.block ?_ | refine S.pop ?_ | refine S.skip ?_ | refine S.exit rfl ?_ | refine S.condT rfl ?_ | refine S.condF rfl ?_))
    refine L.callR rfl (hc_func Try.func52 (by decide) rfl rfl) rfl (fun w hs => blocks_calls hs) ?_
    rintro e w' ⟨rfl, hs'⟩
    refine ⟨_, _, rfl, (by assumption), ?_⟩
    (repeat (first | refine S.seq ?_ | refine S.region ?_ | refine L.nil ?_ | refine L.p (by first | exact o_assign rfl | exact o_move rfl | exact o_ge rfl rfl | exact o_lt rfl rfl | exact o_pickT rfl rfl | exact o_pickF rfl rfl) rfl ?_ | refine L.gYes rfl rfl rfl ?_ | refine L.gNo rfl rfl rfl rfl rfl ?_ | refine L.gUnd rfl rfl rfl rfl ?_ | refine S.block ?_ | refine S.pop ?_ | refine S.skip ?_ | refine S.exit rfl ?_ | refine S.condT rfl ?_ | refine S.condF rfl ?_))
    refine S.fin (Fin.one rfl (RV.tmp rfl)) (fun w hs => ?_)
    exact ⟨ret_congr (dec_congr (by omega)), hs⟩
  · (repeat (first | refine S.seq ?_ | refine S.region ?_ | refine L.nil ?_ | refine L.p (by first | exact o_assign rfl | exact o_move rfl | exact o_ge rfl rfl | exact o_lt rfl rfl | exact o_pickT rfl rfl | exact o_pickF rfl rfl) rfl ?_ | refine L.gYes rfl rfl rfl ?_ | refine L.gNo rfl rfl rfl rfl rfl ?_ | refine L.gUnd rfl rfl rfl rfl ?_ | refine S.block ?_ | refine S.pop ?_ | refine S.skip ?_ | refine S.exit rfl ?_ | refine S.condT rfl ?_ | refine S.condF rfl ?_))
    refine S.fin (Fin.one rfl (RV.tmp rfl)) (fun w hs => ?_)
    exact ⟨ret_congr (by simp; omega), hs⟩

theorem power_calls {w : World} {A H : List Atom} {bd : Nat} {D : DiskM} (hD : DiskAt bd D A) (hs : Sat w (A ++ H)) :
    Calls Try.prog 51 [ptr bd].toArray w (fun e w' => e = .returned (.bool D.power.2) ∧ ∃ A', DiskAt bd D.power.1 A' ∧ Sat w' (A' ++ H)) := by
  obtain ⟨n, now, safe, pend, fused, left, off⟩ := D
  cases hD with
  | @mk bn bs vp Ap l wf hp hl =>
    simp only [List.cons_append] at hs
    simp only at hp hl
    have key : ∀ v A', v = (DiskM.power ⟨n, now, safe, pend, fused, left, off⟩).2 → DiskAt bd (DiskM.power ⟨n, now, safe, pend, fused, left, off⟩).1 A' → ∀ w', Sat w' (A' ++ H) →
        (Ending.returned (.bool v) = .returned (.bool (DiskM.power ⟨n, now, safe, pend, fused, left, off⟩).2) ∧ ∃ A', DiskAt bd (DiskM.power ⟨n, now, safe, pend, fused, left, off⟩).1 A' ∧ Sat w' (A' ++ H)) :=
      fun v A' hv h1 w' h2 => ⟨by rw [hv], A', h1, h2⟩
    cases off with
    | true =>
      have hP : DiskM.power ⟨n, now, safe, pend, fused, left, true⟩ = (⟨n, now, safe, pend, fused, left, true⟩, false) := by simp [DiskM.power]
      rw [hP] at key ⊢
      cases fused with
      | true =>
        refine enter Try.func51 rfl Try.ntmps51 rfl hs ?_
        (repeat (first | refine S.seq ?_ | refine S.region ?_ | refine L.nil ?_ | refine L.p (by first | exact o_assign rfl | exact o_move rfl | exact o_nil rfl | exact o_nilFn rfl | exact o_fld rfl | exact o_load rfl rfl | exact o_load rfl (by assumption) | exact o_eq rfl rfl | exact o_ptrNil rfl rfl | exact o_nilNil rfl rfl | exact o_pickT rfl rfl | exact o_pickF rfl rfl | exact o_sub rfl rfl (by unfold I64; omega)) rfl ?_ | refine L.gYes rfl rfl rfl ?_ | refine L.gNo rfl rfl rfl rfl rfl ?_ | refine L.gUnd rfl rfl rfl rfl ?_ | refine L.store rfl rfl (blt_iff.1 rfl) rfl ?_ | refine S.block ?_ | refine S.pop ?_ | refine S.skip ?_ | refine S.exit rfl ?_ | refine S.condT rfl ?_ | refine S.condF rfl ?_))
        refine S.condD rfl (fun h => ?_) (fun h => ?_)
        all_goals
          (repeat (first | refine S.seq ?_ | refine S.region ?_ | refine L.nil ?_ | refine L.p (by first | exact o_assign rfl | exact o_move rfl | exact o_nil rfl | exact o_nilFn rfl | exact o_fld rfl | exact o_load rfl rfl | exact o_load rfl (by assumption) | exact o_eq rfl rfl | exact o_ptrNil rfl rfl | exact o_nilNil rfl rfl | exact o_pickT rfl rfl | exact o_pickF rfl rfl | exact o_sub rfl rfl (by unfold I64; omega)) rfl ?_ | refine L.gYes rfl rfl rfl ?_ | refine L.gNo rfl rfl rfl rfl rfl ?_ | refine L.gUnd rfl rfl rfl rfl ?_ | refine L.store rfl rfl (blt_iff.1 rfl) rfl ?_ | refine S.block ?_ | refine S.pop ?_ | refine S.skip ?_ | refine S.exit rfl ?_ | refine S.condT rfl ?_ | refine S.condF rfl ?_))
          refine S.fin (Fin.one rfl (RV.tmp rfl)) (fun w hs => ?_)
          exact key _ _ rfl (.mk wf hp hl) _ hs
      | false =>
        refine enter Try.func51 rfl Try.ntmps51 rfl hs ?_
        (repeat (first | refine S.seq ?_ | refine S.region ?_ | refine L.nil ?_ | refine L.p (by first | exact o_assign rfl | exact o_move rfl | exact o_nil rfl | exact o_nilFn rfl | exact o_fld rfl | exact o_load rfl rfl | exact o_load rfl (by assumption) | exact o_eq rfl rfl | exact o_ptrNil rfl rfl | exact o_nilNil rfl rfl | exact o_pickT rfl rfl | exact o_pickF rfl rfl | exact o_sub rfl rfl (by unfold I64; omega)) rfl ?_ | refine L.gYes rfl rfl rfl ?_ | refine L.gNo rfl rfl rfl rfl rfl ?_ | refine L.gUnd rfl rfl rfl rfl ?_ | refine L.store rfl rfl (blt_iff.1 rfl) rfl ?_ | refine S.block ?_ | refine S.pop ?_ | refine S.skip ?_ | refine S.exit rfl ?_ | refine S.condT rfl ?_ | refine S.condF rfl ?_))
        refine S.fin (Fin.one rfl (RV.tmp rfl)) (fun w hs => ?_)
        exact key _ _ rfl (.mk wf hp hl) _ hs
    | false =>
      cases fused with
      | true =>
        have hll := hl rfl
        subst hll
        by_cases h0 : l = 0
        · have hP : DiskM.power ⟨n, now, safe, pend, true, l, false⟩ = (⟨n, now, safe, pend, true, l, true⟩, false) := by simp [DiskM.power, h0]
          rw [hP] at key ⊢
          refine enter Try.func51 rfl Try.ntmps51 rfl hs ?_
          (repeat (first | refine S.seq ?_ | refine S.region ?_ | refine L.nil ?_ | refine L.p (by first | exact o_assign rfl | exact o_move rfl | exact o_nil rfl | exact o_nilFn rfl | exact o_fld rfl | exact o_load rfl rfl | exact o_load rfl (by assumption) | exact o_eq rfl rfl | exact o_ptrNil rfl rfl | exact o_nilNil rfl rfl | exact o_pickT rfl rfl | exact o_pickF rfl rfl | exact o_sub rfl rfl (by unfold I64; omega)) rfl ?_ | refine L.gYes rfl rfl rfl ?_ | refine L.gNo rfl rfl rfl rfl rfl ?_ | refine L.gUnd rfl rfl rfl rfl ?_ | refine L.store rfl rfl (blt_iff.1 rfl) rfl ?_ | refine S.block ?_ | refine S.pop ?_ | refine S.skip ?_ | refine S.exit rfl ?_ | refine S.condT rfl ?_ | refine S.condF rfl ?_))
          refine S.condD rfl (fun h => ?_) (fun h => ?_)
          · (repeat (first | refine S.seq ?_ | refine S.region ?_ | refine L.nil ?_ | refine L.p (by first | exact o_assign rfl | exact o_move rfl | exact o_nil rfl | exact o_nilFn rfl | exact o_fld rfl | exact o_load rfl rfl | exact o_load rfl (by assumption) | exact o_eq rfl rfl | exact o_ptrNil rfl rfl | exact o_nilNil rfl rfl | exact o_pickT rfl rfl | exact o_pickF rfl rfl | exact o_sub rfl rfl (by unfold I64; omega)) rfl ?_ | refine L.gYes rfl rfl rfl ?_ | refine L.gNo rfl rfl rfl rfl rfl ?_ | refine L.gUnd rfl rfl rfl rfl ?_ | refine L.store rfl rfl (blt_iff.1 rfl) rfl ?_ | refine S.block ?_ | refine S.pop ?_ | refine S.skip ?_ | refine S.exit rfl ?_ | refine S.condT rfl ?_ | refine S.condF rfl ?_))
            refine S.fin (Fin.one rfl (RV.tmp rfl)) (fun w hs => ?_)
            exact key _ _ rfl (.mk ⟨wf.n1, wf.n2, wf.now, wf.safe, wf.pend, wf.left⟩ hp hl) _ hs
          · exact absurd h0 h
        · have hP : DiskM.power ⟨n, now, safe, pend, true, l, false⟩ = (⟨n, now, safe, pend, true, l - 1, false⟩, true) := by simp [DiskM.power, h0]
          have hw := power_wf wf
          rw [hP] at key hw ⊢
          have hlr := wf.left rfl
          simp only at hlr
          refine enter Try.func51 rfl Try.ntmps51 rfl hs ?_
          (repeat (first | refine S.seq ?_ | refine S.region ?_ | refine L.nil ?_ | refine L.p (by first | exact o_assign rfl | exact o_move rfl | exact o_nil rfl | exact o_nilFn rfl | exact o_fld rfl | exact o_load rfl rfl | exact o_load rfl (by assumption) | exact o_eq rfl rfl | exact o_ptrNil rfl rfl | exact o_nilNil rfl rfl | exact o_pickT rfl rfl | exact o_pickF rfl rfl | exact o_sub rfl rfl (by unfold I64; omega)) rfl ?_ | refine L.gYes rfl rfl rfl ?_ | refine L.gNo rfl rfl rfl rfl rfl ?_ | refine L.gUnd rfl rfl rfl rfl ?_ | refine L.store rfl rfl (blt_iff.1 rfl) rfl ?_ | refine S.block ?_ | refine S.pop ?_ | refine S.skip ?_ | refine S.exit rfl ?_ | refine S.condT rfl ?_ | refine S.condF rfl ?_))
          refine S.condD rfl (fun h => ?_) (fun h => ?_)
          · exact absurd h h0
          · (repeat (first | refine S.seq ?_ | refine S.region ?_ | refine L.nil ?_ | refine L.p (by first | exact o_assign rfl | exact o_move rfl | exact o_nil rfl | exact o_nilFn rfl | exact o_fld rfl | exact o_load rfl rfl | exact o_load rfl (by assumption) | exact o_eq rfl rfl | exact o_ptrNil rfl rfl | exact o_nilNil rfl rfl | exact o_pickT rfl rfl | exact o_pickF rfl rfl | exact o_sub rfl rfl (by unfold I64; omega)) rfl ?_ | refine L.gYes rfl rfl rfl ?_ | refine L.gNo rfl rfl rfl rfl rfl ?_ | refine L.gUnd rfl rfl rfl rfl ?_ | refine L.store rfl rfl (blt_iff.1 rfl) rfl ?_ | refine S.block ?_ | refine S.pop ?_ | refine S.skip ?_ | refine S.exit rfl ?_ | refine S.condT rfl ?_ | refine S.condF rfl ?_))
            refine S.fin (Fin.one rfl (RV.tmp rfl)) (fun w hs => ?_)
            exact key _ _ rfl (.mk hw hp (fun _ => rfl)) _ hs
      | false =>
        have hP : DiskM.power ⟨n, now, safe, pend, false, left, false⟩ = (⟨n, now, safe, pend, false, left, false⟩, true) := by simp [DiskM.power]
        rw [hP] at key ⊢
        refine enter Try.func51 rfl Try.ntmps51 rfl hs ?_
        (repeat (first | refine L.p (o_subW rfl rfl) rfl ?_ | refine S.seq ?_ | refine S.region ?_ | refine L.nil ?_ | refine L.p (by first | exact o_assign rfl | exact o_move rfl | exact o_nil rfl | exact o_nilFn rfl | exact o_fld rfl | exact o_load rfl rfl | exact o_load rfl (by assumption) | exact o_eq rfl rfl | exact o_ptrNil rfl rfl | exact o_nilNil rfl rfl | exact o_pickT rfl rfl | exact o_pickF rfl rfl | exact o_sub rfl rfl (by unfold I64; omega)) rfl ?_ | refine L.gYes rfl rfl rfl ?_ | refine L.gNo rfl rfl rfl rfl rfl ?_ | refine L.gUnd rfl rfl rfl rfl ?_ | refine L.store rfl rfl (blt_iff.1 rfl) rfl ?_ | refine S.block ?_ | refine S.pop ?_ | refine S.skip ?_ | refine S.exit rfl ?_ | refine S.condT rfl ?_ | refine S.condF rfl ?_))
        refine S.fin (Fin.one rfl (RV.tmp rfl)) (fun w hs => ?_)
        exact key _ _ rfl (.mk wf hp (fun h => by cases h)) _ hs

theorem new_bad {w : World} {H : List Atom} {n : Int} (h : n < 1 ∨ 4096 < n) (hs : Sat w H) :
    Calls Try.prog 8 [.int .i64 n].toArray w (fun e w' => e = .returned (.tuple #[.pointer none, .int .i64 1]) ∧ Sat w' H) := by
  refine enter Try.func8 rfl Try.ntmps8 rfl hs ?_
  (repeat (first | refine S.seq ?_ | refine S.region ?_ | refine L.nil ?_ | refine L.p (by first | exact o_assign rfl | exact o_move rfl | exact o_lt rfl rfl | exact o_gt rfl rfl | exact o_pickT rfl rfl | exact o_pickF rfl rfl | exact o_build rfl) rfl ?_ | refine L.gYes rfl rfl rfl ?_ | refine L.gNo rfl rfl rfl rfl rfl ?_ | refine L.gUnd rfl rfl rfl rfl ?_ | refine S.block ?_ | refine S.pop ?_ | refine S.skip ?_ | refine S.exit rfl ?_ | refine S.condT rfl ?_ | refine S.condF rfl ?_ | refine B.go ?_ | refine B.done (by decide +kernel) ?_ | refine B.take 0 rfl (by kernel_rfl) (by decide +kernel) (by decide +kernel) rfl (o_move rfl) rfl ?_ | refine B.take 2 rfl (by kernel_rfl) (by decide +kernel) (by decide +kernel) rfl (o_move rfl) rfl ?_ | refine B.take 4 rfl (by kernel_rfl) (by decide +kernel) (by decide +kernel) rfl (o_build rfl) rfl ?_ | refine B.take 6 rfl (by kernel_rfl) (by decide +kernel) (by decide +kernel) rfl (o_assign rfl) rfl ?_ | refine B.take 7 rfl (by kernel_rfl) (by decide +kernel) (by decide +kernel) rfl (o_assign rfl) rfl ?_))
  refine L.split 6 rfl (fun h1 => ?_) (fun h1 => ?_)
  · (repeat (first | refine S.seq ?_ | refine S.region ?_ | refine L.nil ?_ | refine L.p (by first | exact o_assign rfl | exact o_move rfl | exact o_lt rfl rfl | exact o_gt rfl rfl | exact o_pickT rfl rfl | exact o_pickF rfl rfl | exact o_build rfl) rfl ?_ | refine L.gYes rfl rfl rfl ?_ | refine L.gNo rfl rfl rfl rfl rfl ?_ | refine L.gUnd rfl rfl rfl rfl ?_ | refine S.block ?_ | refine S.pop ?_ | refine S.skip ?_ | refine S.exit rfl ?_ | refine S.condT rfl ?_ | refine S.condF rfl ?_ | refine B.go ?_ | refine B.done (by decide +kernel) ?_ | refine B.take 0 rfl (by kernel_rfl) (by decide +kernel) (by decide +kernel) rfl (o_move rfl) rfl ?_ | refine B.take 2 rfl (by kernel_rfl) (by decide +kernel) (by decide +kernel) rfl (o_move rfl) rfl ?_ | refine B.take 4 rfl (by kernel_rfl) (by decide +kernel) (by decide +kernel) rfl (o_build rfl) rfl ?_ | refine B.take 6 rfl (by kernel_rfl) (by decide +kernel) (by decide +kernel) rfl (o_assign rfl) rfl ?_ | refine B.take 7 rfl (by kernel_rfl) (by decide +kernel) (by decide +kernel) rfl (o_assign rfl) rfl ?_))
    refine S.fin (Fin.two rfl (RV.tmp rfl) (RV.tmp rfl)) (fun w hs => ?_)
    exact ⟨rfl, hs⟩
  · (repeat (first | refine S.seq ?_ | refine S.region ?_ | refine L.nil ?_ | refine L.p (by first | exact o_assign rfl | exact o_move rfl | exact o_lt rfl rfl | exact o_gt rfl rfl | exact o_pickT rfl rfl | exact o_pickF rfl rfl | exact o_build rfl) rfl ?_ | refine L.gYes rfl rfl rfl ?_ | refine L.gNo rfl rfl rfl rfl rfl ?_ | refine L.gUnd rfl rfl rfl rfl ?_ | refine S.block ?_ | refine S.pop ?_ | refine S.skip ?_ | refine S.exit rfl ?_ | refine S.condT rfl ?_ | refine S.condF rfl ?_ | refine B.go ?_ | refine B.done (by decide +kernel) ?_ | refine B.take 0 rfl (by kernel_rfl) (by decide +kernel) (by decide +kernel) rfl (o_move rfl) rfl ?_ | refine B.take 2 rfl (by kernel_rfl) (by decide +kernel) (by decide +kernel) rfl (o_move rfl) rfl ?_ | refine B.take 4 rfl (by kernel_rfl) (by decide +kernel) (by decide +kernel) rfl (o_build rfl) rfl ?_ | refine B.take 6 rfl (by kernel_rfl) (by decide +kernel) (by decide +kernel) rfl (o_assign rfl) rfl ?_ | refine B.take 7 rfl (by kernel_rfl) (by decide +kernel) (by decide +kernel) rfl (o_assign rfl) rfl ?_))
    refine S.condD rfl (fun h2 => ?_) (fun h2 => ?_)
    · (repeat (first | refine S.seq ?_ | refine S.region ?_ | refine L.nil ?_ | refine L.p (by first | exact o_assign rfl | exact o_move rfl | exact o_lt rfl rfl | exact o_gt rfl rfl | exact o_pickT rfl rfl | exact o_pickF rfl rfl | exact o_build rfl) rfl ?_ | refine L.gYes rfl rfl rfl ?_ | refine L.gNo rfl rfl rfl rfl rfl ?_ | refine L.gUnd rfl rfl rfl rfl ?_ | refine S.block ?_ | refine S.pop ?_ | refine S.skip ?_ | refine S.exit rfl ?_ | refine S.condT rfl ?_ | refine S.condF rfl ?_ | refine B.go ?_ | refine B.done (by decide +kernel) ?_ | refine B.take 0 rfl (by kernel_rfl) (by decide +kernel) (by decide +kernel) rfl (o_move rfl) rfl ?_ | refine B.take 2 rfl (by kernel_rfl) (by decide +kernel) (by decide +kernel) rfl (o_move rfl) rfl ?_ | refine B.take 4 rfl (by kernel_rfl) (by decide +kernel) (by decide +kernel) rfl (o_build rfl) rfl ?_ | refine B.take 6 rfl (by kernel_rfl) (by decide +kernel) (by decide +kernel) rfl (o_assign rfl) rfl ?_ | refine B.take 7 rfl (by kernel_rfl) (by decide +kernel) (by decide +kernel) rfl (o_assign rfl) rfl ?_))
      refine S.fin (Fin.two rfl (RV.tmp rfl) (RV.tmp rfl)) (fun w hs => ?_)
      exact ⟨rfl, hs⟩
    · omega
theorem new_calls {w : World} {H : List Atom} {n : Nat} (h1 : 1 ≤ n) (h2 : n ≤ 4096) (hs : Sat w H) :
    Calls Try.prog 8 [.int .i64 n].toArray w (fun e w' => ∃ bd A, e = .returned (.tuple #[ptr bd, .int .i64 0]) ∧ DiskAt bd (DiskM.new n) A ∧ Sat w' (A ++ H)) := by
  have hD : ∀ bd bn bs, DiskAt bd (DiskM.new n) (.cells bd 94 [.slice (some ⟨bn, 0, none⟩) n n, .slice (some ⟨bs, 0, none⟩) n n, .slice none 0 0, .bool false, .int .i64 0, .bool false] :: .cells bn 106 (vbs (DiskM.new n).now) :: .cells bs 106 (vbs (DiskM.new n).now) :: []) :=
    fun bd bn bs => .mk (new_wf h1 h2) .nil (fun h => by cases h)
  have hz : List.replicate (n * 256) (Value.int .u8 0) = vbs (DiskM.new n).now := by rw [← vbs_replicate]; rfl
  refine enter Try.func8 rfl Try.ntmps8 rfl hs ?_
  (repeat (first | refine S.seq ?_ | refine S.region ?_ | refine L.nil ?_ | refine L.p (by first | exact o_assign rfl | exact o_move rfl | exact o_lt rfl rfl | exact o_gt rfl rfl | exact o_pickT rfl rfl | exact o_pickF rfl rfl | exact o_build rfl) rfl ?_ | refine L.gYes rfl rfl rfl ?_ | refine L.gNo rfl rfl rfl rfl rfl ?_ | refine L.gUnd rfl rfl rfl rfl ?_ | refine S.block ?_ | refine S.pop ?_ | refine S.skip ?_ | refine S.exit rfl ?_ | refine S.condT rfl ?_ | refine S.condF rfl ?_ | refine B.go ?_ | refine B.done (by decide +kernel) ?_ | refine B.take 0 rfl (by kernel_rfl) (by decide +kernel) (by decide +kernel) rfl (o_move rfl) rfl ?_ | refine B.take 2 rfl (by kernel_rfl) (by decide +kernel) (by decide +kernel) rfl (o_move rfl) rfl ?_ | refine B.take 4 rfl (by kernel_rfl) (by decide +kernel) (by decide +kernel) rfl (o_build rfl) rfl ?_ | refine B.take 6 rfl (by kernel_rfl) (by decide +kernel) (by decide +kernel) rfl (o_assign rfl) rfl ?_ | refine B.take 7 rfl (by kernel_rfl) (by decide +kernel) (by decide +kernel) rfl (o_assign rfl) rfl ?_))
  refine L.split 6 rfl (fun h3 => ?_) (fun h3 => ?_)
  · omega
  · (repeat (first | refine S.seq ?_ | refine S.region ?_ | refine L.nil ?_ | refine L.p (by first | exact o_assign rfl | exact o_move rfl | exact o_lt rfl rfl | exact o_gt rfl rfl | exact o_pickT rfl rfl | exact o_pickF rfl rfl | exact o_build rfl) rfl ?_ | refine L.gYes rfl rfl rfl ?_ | refine L.gNo rfl rfl rfl rfl rfl ?_ | refine L.gUnd rfl rfl rfl rfl ?_ | refine S.block ?_ | refine S.pop ?_ | refine S.skip ?_ | refine S.exit rfl ?_ | refine S.condT rfl ?_ | refine S.condF rfl ?_ | refine B.go ?_ | refine B.done (by decide +kernel) ?_ | refine B.take 0 rfl (by kernel_rfl) (by decide +kernel) (by decide +kernel) rfl (o_move rfl) rfl ?_ | refine B.take 2 rfl (by kernel_rfl) (by decide +kernel) (by decide +kernel) rfl (o_move rfl) rfl ?_ | refine B.take 4 rfl (by kernel_rfl) (by decide +kernel) (by decide +kernel) rfl (o_build rfl) rfl ?_ | refine B.take 6 rfl (by kernel_rfl) (by decide +kernel) (by decide +kernel) rfl (o_assign rfl) rfl ?_ | refine B.take 7 rfl (by kernel_rfl) (by decide +kernel) (by decide +kernel) rfl (o_assign rfl) rfl ?_))
    refine S.condD rfl (fun h4 => ?_) (fun h4 => ?_)
    · omega
    · (repeat (first | refine S.seq ?_ | refine S.region ?_ | refine L.nil ?_ | refine L.p (by first | exact o_assign rfl | exact o_move rfl | exact o_lt rfl rfl | exact o_gt rfl rfl | exact o_pickT rfl rfl | exact o_pickF rfl rfl | exact o_build rfl) rfl ?_ | refine L.gYes rfl rfl rfl ?_ | refine L.gNo rfl rfl rfl rfl rfl ?_ | refine L.gUnd rfl rfl rfl rfl ?_ | refine S.block ?_ | refine S.pop ?_ | refine S.skip ?_ | refine S.exit rfl ?_ | refine S.condT rfl ?_ | refine S.condF rfl ?_ | refine B.go ?_ | refine B.done (by decide +kernel) ?_ | refine B.take 0 rfl (by kernel_rfl) (by decide +kernel) (by decide +kernel) rfl (o_move rfl) rfl ?_ | refine B.take 2 rfl (by kernel_rfl) (by decide +kernel) (by decide +kernel) rfl (o_move rfl) rfl ?_ | refine B.take 4 rfl (by kernel_rfl) (by decide +kernel) (by decide +kernel) rfl (o_build rfl) rfl ?_ | refine B.take 6 rfl (by kernel_rfl) (by decide +kernel) (by decide +kernel) rfl (o_assign rfl) rfl ?_ | refine B.take 7 rfl (by kernel_rfl) (by decide +kernel) (by decide +kernel) rfl (o_assign rfl) rfl ?_))
      refine S.any (id := 3) (by kernel_rfl) ?_
      (repeat (first | refine S.seq ?_ | refine S.region ?_ | refine L.nil ?_ | refine L.p (by first | exact o_assign rfl | exact o_move rfl | exact o_lt rfl rfl | exact o_gt rfl rfl | exact o_pickT rfl rfl | exact o_pickF rfl rfl | exact o_build rfl) rfl ?_ | refine L.gYes rfl rfl rfl ?_ | refine L.gNo rfl rfl rfl rfl rfl ?_ | refine L.gUnd rfl rfl rfl rfl ?_ | refine S.block ?_ | refine S.pop ?_ | refine S.skip ?_ | refine S.exit rfl ?_ | refine S.condT rfl ?_ | refine S.condF rfl ?_ | refine B.go ?_ | refine B.done (by decide +kernel) ?_ | refine B.take 0 rfl (by kernel_rfl) (by decide +kernel) (by decide +kernel) rfl (o_move rfl) rfl ?_ | refine B.take 2 rfl (by kernel_rfl) (by decide +kernel) (by decide +kernel) rfl (o_move rfl) rfl ?_ | refine B.take 4 rfl (by kernel_rfl) (by decide +kernel) (by decide +kernel) rfl (o_build rfl) rfl ?_ | refine B.take 6 rfl (by kernel_rfl) (by decide +kernel) (by decide +kernel) rfl (o_assign rfl) rfl ?_ | refine B.take 7 rfl (by kernel_rfl) (by decide +kernel) (by decide +kernel) rfl (o_assign rfl) rfl ?_))
      focus (refine B.branch [1,3] (by kernel_rfl) (by simp) ?_; refine Br.cons rfl rfl ?_ ?_; rotate_left; refine Br.cons rfl rfl ?_ Br.nil; rotate_left)
      · refine L.makeR rfl rfl (by omega) rfl (fun bn => ?_)
        (repeat (first | refine S.seq ?_ | refine S.region ?_ | refine L.nil ?_ | refine L.p (by first | exact o_assign rfl | exact o_move rfl | exact o_lt rfl rfl | exact o_gt rfl rfl | exact o_pickT rfl rfl | exact o_pickF rfl rfl | exact o_build rfl) rfl ?_ | refine L.gYes rfl rfl rfl ?_ | refine L.gNo rfl rfl rfl rfl rfl ?_ | refine L.gUnd rfl rfl rfl rfl ?_ | refine S.block ?_ | refine S.pop ?_ | refine S.skip ?_ | refine S.exit rfl ?_ | refine S.condT rfl ?_ | refine S.condF rfl ?_ | refine B.go ?_ | refine B.done (by decide +kernel) ?_ | refine B.take 0 rfl (by kernel_rfl) (by decide +kernel) (by decide +kernel) rfl (o_move rfl) rfl ?_ | refine B.take 2 rfl (by kernel_rfl) (by decide +kernel) (by decide +kernel) rfl (o_move rfl) rfl ?_ | refine B.take 4 rfl (by kernel_rfl) (by decide +kernel) (by decide +kernel) rfl (o_build rfl) rfl ?_ | refine B.take 6 rfl (by kernel_rfl) (by decide +kernel) (by decide +kernel) rfl (o_assign rfl) rfl ?_ | refine B.take 7 rfl (by kernel_rfl) (by decide +kernel) (by decide +kernel) rfl (o_assign rfl) rfl ?_))
        focus (refine B.branch [3] (by kernel_rfl) (by simp) ?_; refine Br.cons rfl rfl ?_ Br.nil; rotate_left)
        refine L.makeR rfl rfl (by omega) rfl (fun bs => ?_)
        (repeat (first | refine S.seq ?_ | refine S.region ?_ | refine L.nil ?_ | refine L.p (by first | exact o_assign rfl | exact o_move rfl | exact o_lt rfl rfl | exact o_gt rfl rfl | exact o_pickT rfl rfl | exact o_pickF rfl rfl | exact o_build rfl) rfl ?_ | refine L.gYes rfl rfl rfl ?_ | refine L.gNo rfl rfl rfl rfl rfl ?_ | refine L.gUnd rfl rfl rfl rfl ?_ | refine S.block ?_ | refine S.pop ?_ | refine S.skip ?_ | refine S.exit rfl ?_ | refine S.condT rfl ?_ | refine S.condF rfl ?_ | refine B.go ?_ | refine B.done (by decide +kernel) ?_ | refine B.take 0 rfl (by kernel_rfl) (by decide +kernel) (by decide +kernel) rfl (o_move rfl) rfl ?_ | refine B.take 2 rfl (by kernel_rfl) (by decide +kernel) (by decide +kernel) rfl (o_move rfl) rfl ?_ | refine B.take 4 rfl (by kernel_rfl) (by decide +kernel) (by decide +kernel) rfl (o_build rfl) rfl ?_ | refine B.take 6 rfl (by kernel_rfl) (by decide +kernel) (by decide +kernel) rfl (o_assign rfl) rfl ?_ | refine B.take 7 rfl (by kernel_rfl) (by decide +kernel) (by decide +kernel) rfl (o_assign rfl) rfl ?_))
        focus (refine B.branch [5] (by kernel_rfl) (by simp) ?_; refine Br.cons rfl rfl ?_ Br.nil; rotate_left)
        refine L.boxN rfl rfl (fun bd => ?_)
        (repeat (first | refine S.seq ?_ | refine S.region ?_ | refine L.nil ?_ | refine L.p (by first | exact o_assign rfl | exact o_move rfl | exact o_lt rfl rfl | exact o_gt rfl rfl | exact o_pickT rfl rfl | exact o_pickF rfl rfl | exact o_build rfl) rfl ?_ | refine L.gYes rfl rfl rfl ?_ | refine L.gNo rfl rfl rfl rfl rfl ?_ | refine L.gUnd rfl rfl rfl rfl ?_ | refine S.block ?_ | refine S.pop ?_ | refine S.skip ?_ | refine S.exit rfl ?_ | refine S.condT rfl ?_ | refine S.condF rfl ?_ | refine B.go ?_ | refine B.done (by decide +kernel) ?_ | refine B.take 0 rfl (by kernel_rfl) (by decide +kernel) (by decide +kernel) rfl (o_move rfl) rfl ?_ | refine B.take 2 rfl (by kernel_rfl) (by decide +kernel) (by decide +kernel) rfl (o_move rfl) rfl ?_ | refine B.take 4 rfl (by kernel_rfl) (by decide +kernel) (by decide +kernel) rfl (o_build rfl) rfl ?_ | refine B.take 6 rfl (by kernel_rfl) (by decide +kernel) (by decide +kernel) rfl (o_assign rfl) rfl ?_ | refine B.take 7 rfl (by kernel_rfl) (by decide +kernel) (by decide +kernel) rfl (o_assign rfl) rfl ?_))
        refine S.fin (Fin.two rfl (RV.tmp rfl) (RV.tmp rfl)) (fun w hs => ?_)
        rw [hz] at hs
        exact ⟨bd, _, rfl, hD bd bn bs, hs.re (by intro a; simp only [List.count_append, List.count_cons, List.count_nil] <;> omega)⟩
      · refine L.makeR rfl rfl (by omega) rfl (fun bs => ?_)
        (repeat (first | refine S.seq ?_ | refine S.region ?_ | refine L.nil ?_ | refine L.p (by first | exact o_assign rfl | exact o_move rfl | exact o_lt rfl rfl | exact o_gt rfl rfl | exact o_pickT rfl rfl | exact o_pickF rfl rfl | exact o_build rfl) rfl ?_ | refine L.gYes rfl rfl rfl ?_ | refine L.gNo rfl rfl rfl rfl rfl ?_ | refine L.gUnd rfl rfl rfl rfl ?_ | refine S.block ?_ | refine S.pop ?_ | refine S.skip ?_ | refine S.exit rfl ?_ | refine S.condT rfl ?_ | refine S.condF rfl ?_ | refine B.go ?_ | refine B.done (by decide +kernel) ?_ | refine B.take 0 rfl (by kernel_rfl) (by decide +kernel) (by decide +kernel) rfl (o_move rfl) rfl ?_ | refine B.take 2 rfl (by kernel_rfl) (by decide +kernel) (by decide +kernel) rfl (o_move rfl) rfl ?_ | refine B.take 4 rfl (by kernel_rfl) (by decide +kernel) (by decide +kernel) rfl (o_build rfl) rfl ?_ | refine B.take 6 rfl (by kernel_rfl) (by decide +kernel) (by decide +kernel) rfl (o_assign rfl) rfl ?_ | refine B.take 7 rfl (by kernel_rfl) (by decide +kernel) (by decide +kernel) rfl (o_assign rfl) rfl ?_))
        focus (refine B.branch [1] (by kernel_rfl) (by simp) ?_; refine Br.cons rfl rfl ?_ Br.nil; rotate_left)
        refine L.makeR rfl rfl (by omega) rfl (fun bn => ?_)
        (repeat (first | refine S.seq ?_ | refine S.region ?_ | refine L.nil ?_ | refine L.p (by first | exact o_assign rfl | exact o_move rfl | exact o_lt rfl rfl | exact o_gt rfl rfl | exact o_pickT rfl rfl | exact o_pickF rfl rfl | exact o_build rfl) rfl ?_ | refine L.gYes rfl rfl rfl ?_ | refine L.gNo rfl rfl rfl rfl rfl ?_ | refine L.gUnd rfl rfl rfl rfl ?_ | refine S.block ?_ | refine S.pop ?_ | refine S.skip ?_ | refine S.exit rfl ?_ | refine S.condT rfl ?_ | refine S.condF rfl ?_ | refine B.go ?_ | refine B.done (by decide +kernel) ?_ | refine B.take 0 rfl (by kernel_rfl) (by decide +kernel) (by decide +kernel) rfl (o_move rfl) rfl ?_ | refine B.take 2 rfl (by kernel_rfl) (by decide +kernel) (by decide +kernel) rfl (o_move rfl) rfl ?_ | refine B.take 4 rfl (by kernel_rfl) (by decide +kernel) (by decide +kernel) rfl (o_build rfl) rfl ?_ | refine B.take 6 rfl (by kernel_rfl) (by decide +kernel) (by decide +kernel) rfl (o_assign rfl) rfl ?_ | refine B.take 7 rfl (by kernel_rfl) (by decide +kernel) (by decide +kernel) rfl (o_assign rfl) rfl ?_))
        focus (refine B.branch [5] (by kernel_rfl) (by simp) ?_; refine Br.cons rfl rfl ?_ Br.nil; rotate_left)
        refine L.boxN rfl rfl (fun bd => ?_)
        (repeat (first | refine S.seq ?_ | refine S.region ?_ | refine L.nil ?_ | refine L.p (by first | exact o_assign rfl | exact o_move rfl | exact o_lt rfl rfl | exact o_gt rfl rfl | exact o_pickT rfl rfl | exact o_pickF rfl rfl | exact o_build rfl) rfl ?_ | refine L.gYes rfl rfl rfl ?_ | refine L.gNo rfl rfl rfl rfl rfl ?_ | refine L.gUnd rfl rfl rfl rfl ?_ | refine S.block ?_ | refine S.pop ?_ | refine S.skip ?_ | refine S.exit rfl ?_ | refine S.condT rfl ?_ | refine S.condF rfl ?_ | refine B.go ?_ | refine B.done (by decide +kernel) ?_ | refine B.take 0 rfl (by kernel_rfl) (by decide +kernel) (by decide +kernel) rfl (o_move rfl) rfl ?_ | refine B.take 2 rfl (by kernel_rfl) (by decide +kernel) (by decide +kernel) rfl (o_move rfl) rfl ?_ | refine B.take 4 rfl (by kernel_rfl) (by decide +kernel) (by decide +kernel) rfl (o_build rfl) rfl ?_ | refine B.take 6 rfl (by kernel_rfl) (by decide +kernel) (by decide +kernel) rfl (o_assign rfl) rfl ?_ | refine B.take 7 rfl (by kernel_rfl) (by decide +kernel) (by decide +kernel) rfl (o_assign rfl) rfl ?_))
        refine S.fin (Fin.two rfl (RV.tmp rfl) (RV.tmp rfl)) (fun w hs => ?_)
        rw [hz] at hs
        exact ⟨bd, _, rfl, hD bd bn bs, hs.re (by intro a; simp only [List.count_append, List.count_cons, List.count_nil] <;> omega)⟩


theorem read_calls {w : World} {A H : List Atom} {bd : Nat} {D : DiskM} {i : Int} (hD : DiskAt bd D A) (hs : Sat w (A ++ H)) :
    Calls Try.prog 53 [ptr bd, .int .i64 i].toArray w (fun e w' => ∃ v B, e = .returned (.tuple #[v, .int .i64 (D.read i).2]) ∧ BytesIn B v (D.read i).1 ∧ Sat w' (B ++ (A ++ H))) := by
  cases hD with
  | @mk bn bs vp Ap l wf hp hl =>
    simp only [List.cons_append] at hs ⊢
    refine enter Try.func53 rfl Try.ntmps53 rfl hs ?_
    (repeat (first | refine S.seq ?_ | refine S.region ?_ | refine L.nil ?_ | refine L.p (by first | exact o_assign rfl | exact o_move rfl | exact o_notT rfl | exact o_notF rfl | exact o_notD rfl | exact o_notB rfl | exact o_nil rfl | exact o_nilFn rfl | exact o_fld rfl | exact o_load rfl rfl | exact o_load rfl (by assumption) | exact o_idx rfl rfl (by omega) | exact o_idxA rfl rfl (by omega) | exact o_slAll rfl | exact o_arAll rfl | exact o_slHi rfl rfl (by omega) | exact o_slLo rfl rfl (by omega) | exact o_slBoth rfl rfl rfl (by omega) | exact o_arLo rfl rfl (by omega)) rfl ?_ | refine L.store rfl rfl (blt_iff.1 rfl) rfl ?_ | refine S.block ?_ | refine S.pop ?_ | refine S.skip ?_ | refine S.exit rfl ?_ | refine S.condT rfl ?_ | refine S.condF rfl ?_))
    refine L.callR rfl (hc_func Try.func50 (by decide) rfl rfl) rfl (fun w hs => has_calls hs) ?_
    rintro e w' ⟨rfl, hs'⟩
    refine ⟨_, _, rfl, (by assumption), ?_⟩
    (repeat (first | refine S.seq ?_ | refine S.region ?_ | refine L.nil ?_ | refine L.p (by first | exact o_assign rfl | exact o_move rfl | exact o_notT rfl | exact o_notF rfl | exact o_notD rfl | exact o_notB rfl | exact o_nil rfl | exact o_nilFn rfl | exact o_fld rfl | exact o_load rfl rfl | exact o_load rfl (by assumption) | exact o_idx rfl rfl (by omega) | exact o_idxA rfl rfl (by omega) | exact o_slAll rfl | exact o_arAll rfl | exact o_slHi rfl rfl (by omega) | exact o_slLo rfl rfl (by omega) | exact o_slBoth rfl rfl rfl (by omega) | exact o_arLo rfl rfl (by omega)) rfl ?_ | refine L.store rfl rfl (blt_iff.1 rfl) rfl ?_ | refine S.block ?_ | refine S.pop ?_ | refine S.skip ?_ | refine S.exit rfl ?_ | refine S.condT rfl ?_ | refine S.condF rfl ?_))
    refine S.condD rfl (fun hc => ?_) (fun hc => ?_)
    · (repeat (first | refine S.seq ?_ | refine S.region ?_ | refine L.nil ?_ | refine L.p (by first | exact o_assign rfl | exact o_move rfl | exact o_notT rfl | exact o_notF rfl | exact o_notD rfl | exact o_notB rfl | exact o_nil rfl | exact o_nilFn rfl | exact o_fld rfl | exact o_load rfl rfl | exact o_load rfl (by assumption) | exact o_idx rfl rfl (by omega) | exact o_idxA rfl rfl (by omega) | exact o_slAll rfl | exact o_arAll rfl | exact o_slHi rfl rfl (by omega) | exact o_slLo rfl rfl (by omega) | exact o_slBoth rfl rfl rfl (by omega) | exact o_arLo rfl rfl (by omega)) rfl ?_ | refine L.store rfl rfl (blt_iff.1 rfl) rfl ?_ | refine S.block ?_ | refine S.pop ?_ | refine S.skip ?_ | refine S.exit rfl ?_ | refine S.condT rfl ?_ | refine S.condF rfl ?_))
      refine S.fin (Fin.two rfl (RV.tmp rfl) (RV.tmp rfl)) (fun w hs => ?_)
      have hr : D.read i = ([], 1) := by unfold DiskM.read; rw [if_neg hc]
      exact ⟨_, [], by rw [hr], by rw [hr]; exact .none, hs⟩
    · have hc' : 0 ≤ i ∧ i < D.n := by simpa using hc
      (repeat (first | refine S.seq ?_ | refine S.region ?_ | refine L.nil ?_ | refine L.p (by first | exact o_assign rfl | exact o_move rfl | exact o_notT rfl | exact o_notF rfl | exact o_notD rfl | exact o_notB rfl | exact o_nil rfl | exact o_nilFn rfl | exact o_fld rfl | exact o_load rfl rfl | exact o_load rfl (by assumption) | exact o_idx rfl rfl (by omega) | exact o_idxA rfl rfl (by omega) | exact o_slAll rfl | exact o_arAll rfl | exact o_slHi rfl rfl (by omega) | exact o_slLo rfl rfl (by omega) | exact o_slBoth rfl rfl rfl (by omega) | exact o_arLo rfl rfl (by omega)) rfl ?_ | refine L.store rfl rfl (blt_iff.1 rfl) rfl ?_ | refine S.block ?_ | refine S.pop ?_ | refine S.skip ?_ | refine S.exit rfl ?_ | refine S.condT rfl ?_ | refine S.condF rfl ?_))
      refine S.condB rfl (fun ho => ?_) (fun ho => ?_)
      · (repeat (first | refine S.seq ?_ | refine S.region ?_ | refine L.nil ?_ | refine L.p (by first | exact o_assign rfl | exact o_move rfl | exact o_notT rfl | exact o_notF rfl | exact o_notD rfl | exact o_notB rfl | exact o_nil rfl | exact o_nilFn rfl | exact o_fld rfl | exact o_load rfl rfl | exact o_load rfl (by assumption) | exact o_idx rfl rfl (by omega) | exact o_idxA rfl rfl (by omega) | exact o_slAll rfl | exact o_arAll rfl | exact o_slHi rfl rfl (by omega) | exact o_slLo rfl rfl (by omega) | exact o_slBoth rfl rfl rfl (by omega) | exact o_arLo rfl rfl (by omega)) rfl ?_ | refine L.store rfl rfl (blt_iff.1 rfl) rfl ?_ | refine S.block ?_ | refine S.pop ?_ | refine S.skip ?_ | refine S.exit rfl ?_ | refine S.condT rfl ?_ | refine S.condF rfl ?_))
        refine S.fin (Fin.two rfl (RV.tmp rfl) (RV.tmp rfl)) (fun w hs => ?_)
        have hr : D.read i = ([], 9) := by unfold DiskM.read; rw [if_pos hc', ho]; rfl
        exact ⟨_, [], by rw [hr], by rw [hr]; exact .none, hs⟩
      · have hr : D.read i = (blockOf D.now i.toNat, 0) := by unfold DiskM.read; rw [if_pos hc', ho]; rfl
        have hlt : (i.toNat + 1) * 256 ≤ D.n * 256 := Nat.mul_le_mul_right _ (by omega)
        have hbl := blockOf_length wf.now (k := i.toNat) (by omega)
        (repeat (first | refine S.seq ?_ | refine S.region ?_ | refine L.nil ?_ | refine L.p (by first | exact o_assign rfl | exact o_move rfl | exact o_notT rfl | exact o_notF rfl | exact o_notD rfl | exact o_notB rfl | exact o_nil rfl | exact o_nilFn rfl | exact o_fld rfl | exact o_load rfl rfl | exact o_load rfl (by assumption) | exact o_idx rfl rfl (by omega) | exact o_idxA rfl rfl (by omega) | exact o_slAll rfl | exact o_arAll rfl | exact o_slHi rfl rfl (by omega) | exact o_slLo rfl rfl (by omega) | exact o_slBoth rfl rfl rfl (by omega) | exact o_arLo rfl rfl (by omega)) rfl ?_ | refine L.store rfl rfl (blt_iff.1 rfl) rfl ?_ | refine S.block ?_ | refine S.pop ?_ | refine S.skip ?_ | refine S.exit rfl ?_ | refine S.condT rfl ?_ | refine S.condF rfl ?_))
        refine L.p (o_loadE rfl (by rw [vbs_length, wf.now]; omega) (vs := vbs (blockOf D.now i.toNat)) (by rw [vbs_drop, vbs_take]; rfl)) rfl ?_
        (repeat (first | refine S.seq ?_ | refine S.region ?_ | refine L.nil ?_ | refine L.p (by first | exact o_assign rfl | exact o_move rfl | exact o_notT rfl | exact o_notF rfl | exact o_notD rfl | exact o_notB rfl | exact o_nil rfl | exact o_nilFn rfl | exact o_fld rfl | exact o_load rfl rfl | exact o_load rfl (by assumption) | exact o_idx rfl rfl (by omega) | exact o_idxA rfl rfl (by omega) | exact o_slAll rfl | exact o_arAll rfl | exact o_slHi rfl rfl (by omega) | exact o_slLo rfl rfl (by omega) | exact o_slBoth rfl rfl rfl (by omega) | exact o_arLo rfl rfl (by omega)) rfl ?_ | refine L.store rfl rfl (blt_iff.1 rfl) rfl ?_ | refine S.block ?_ | refine S.pop ?_ | refine S.skip ?_ | refine S.exit rfl ?_ | refine S.condT rfl ?_ | refine S.condF rfl ?_))
        refine L.alloc rfl (fun b6 => ?_)
        (repeat (first | refine S.seq ?_ | refine S.region ?_ | refine L.nil ?_ | refine L.p (by first | exact o_assign rfl | exact o_move rfl | exact o_notT rfl | exact o_notF rfl | exact o_notD rfl | exact o_notB rfl | exact o_nil rfl | exact o_nilFn rfl | exact o_fld rfl | exact o_load rfl rfl | exact o_load rfl (by assumption) | exact o_idx rfl rfl (by omega) | exact o_idxA rfl rfl (by omega) | exact o_slAll rfl | exact o_arAll rfl | exact o_slHi rfl rfl (by omega) | exact o_slLo rfl rfl (by omega) | exact o_slBoth rfl rfl rfl (by omega) | exact o_arLo rfl rfl (by omega)) rfl ?_ | refine L.store rfl rfl (blt_iff.1 rfl) rfl ?_ | refine S.block ?_ | refine S.pop ?_ | refine S.skip ?_ | refine S.exit rfl ?_ | refine S.condT rfl ?_ | refine S.condF rfl ?_))
        refine L.storeW rfl rfl (by rw [vbs_length, hbl]) List.length_replicate (vbs_one _) ?_
        (repeat (first | refine S.seq ?_ | refine S.region ?_ | refine L.nil ?_ | refine L.p (by first | exact o_assign rfl | exact o_move rfl | exact o_notT rfl | exact o_notF rfl | exact o_notD rfl | exact o_notB rfl | exact o_nil rfl | exact o_nilFn rfl | exact o_fld rfl | exact o_load rfl rfl | exact o_load rfl (by assumption) | exact o_idx rfl rfl (by omega) | exact o_idxA rfl rfl (by omega) | exact o_slAll rfl | exact o_arAll rfl | exact o_slHi rfl rfl (by omega) | exact o_slLo rfl rfl (by omega) | exact o_slBoth rfl rfl rfl (by omega) | exact o_arLo rfl rfl (by omega)) rfl ?_ | refine L.store rfl rfl (blt_iff.1 rfl) rfl ?_ | refine S.block ?_ | refine S.pop ?_ | refine S.skip ?_ | refine S.exit rfl ?_ | refine S.condT rfl ?_ | refine S.condF rfl ?_))
        refine S.fin (Fin.two rfl (RV.tmp rfl) (RV.tmp rfl)) (fun w hs => ?_)
        refine ⟨_, [_], by rw [hr], ?_, hs⟩
        rw [hr]
        have := BytesIn.one (H := [Atom.cells b6 106 (vbs (blockOf D.now i.toNat))]) (bs := blockOf D.now i.toNat) (b := b6) (T := 106) (len := 256) (extra := []) (by simp) (by omega)
        rw [hbl] at this
        exact this

theorem fuse_calls {w : World} {A H : List Atom} {bd : Nat} {D : DiskM} {i : Int} (hi : i ≤ 9223372036854775807) (hD : DiskAt bd D A) (hs : Sat w (A ++ H)) :
    Calls Try.prog 35 [ptr bd, .int .i64 i].toArray w (fun e w' => e = .returned (.tuple #[]) ∧ ∃ A', DiskAt bd (D.fuse i) A' ∧ Sat w' (A' ++ H)) := by
  have hw := fuse_wf hD.wf hi
  obtain ⟨n, now, safe, pend, fused, left, off⟩ := D
  cases hD with
  | @mk bn bs vp Ap l wf hp hl =>
    simp only [List.cons_append] at hs
    simp only at hp hl
    cases off with
    | true =>
      refine enter Try.func35 rfl Try.ntmps35 rfl hs ?_
      (repeat (first | refine S.seq ?_ | refine S.region ?_ | refine L.nil ?_ | refine L.p (by first | exact o_move rfl | exact o_ne rfl rfl | exact o_ptrNilN rfl rfl | exact o_nilNilN rfl rfl | exact o_nil rfl | exact o_nilFn rfl | exact o_fld rfl | exact o_load rfl rfl | exact o_load rfl (by assumption) | exact o_notT rfl | exact o_notF rfl | exact o_notD rfl | exact o_notB rfl | exact o_pickT rfl rfl | exact o_pickF rfl rfl | exact o_max rfl rfl) rfl ?_ | refine L.gYes rfl rfl rfl ?_ | refine L.gNo rfl rfl rfl rfl rfl ?_ | refine L.gUnd rfl rfl rfl rfl ?_ | refine L.store rfl rfl (blt_iff.1 rfl) rfl ?_ | refine S.block ?_ | refine S.pop ?_ | refine S.skip ?_ | refine S.exit rfl ?_ | refine S.condT rfl ?_ | refine S.condF rfl ?_))
      refine S.end (Fin.zero rfl) (fun w hs => ?_)
      exact ⟨rfl, _, .mk wf hp hl, hs⟩
    | false =>
      refine enter Try.func35 rfl Try.ntmps35 rfl hs ?_
      (repeat (first | refine S.seq ?_ | refine S.region ?_ | refine L.nil ?_ | refine L.p (by first | exact o_move rfl | exact o_ne rfl rfl | exact o_ptrNilN rfl rfl | exact o_nilNilN rfl rfl | exact o_nil rfl | exact o_nilFn rfl | exact o_fld rfl | exact o_load rfl rfl | exact o_load rfl (by assumption) | exact o_notT rfl | exact o_notF rfl | exact o_notD rfl | exact o_notB rfl | exact o_pickT rfl rfl | exact o_pickF rfl rfl | exact o_max rfl rfl) rfl ?_ | refine L.gYes rfl rfl rfl ?_ | refine L.gNo rfl rfl rfl rfl rfl ?_ | refine L.gUnd rfl rfl rfl rfl ?_ | refine L.store rfl rfl (blt_iff.1 rfl) rfl ?_ | refine S.block ?_ | refine S.pop ?_ | refine S.skip ?_ | refine S.exit rfl ?_ | refine S.condT rfl ?_ | refine S.condF rfl ?_))
      refine S.end (Fin.zero rfl) (fun w hs => ?_)
      exact ⟨rfl, _, .mk hw hp (fun _ => rfl), hs⟩

theorem all_calls {w : World} {H : List Atom} {i : Int} (hs : Sat w H) :
    Calls Try.prog 100 [.int .i64 i].toArray w (fun e w' => e = .returned (.bool true) ∧ Sat w' H) := by
  refine enter Try.func100 rfl Try.ntmps100 rfl hs ?_
  (repeat (first | refine S.seq ?_ | refine S.region ?_ | refine L.nil ?_ | refine L.p (by first | exact o_assign rfl) rfl ?_ | refine S.block ?_ | refine S.pop ?_ | refine S.skip ?_ | refine S.exit rfl ?_ | refine S.condT rfl ?_ | refine S.condF rfl ?_))
  refine S.fin (Fin.one rfl (RV.tmp rfl)) (fun w hs => ?_)
  exact ⟨rfl, hs⟩

theorem kept_calls {w : World} {H : List Atom} {bk i : Nat} {v : Value} {keep : List Bool} (hb : Atom.cells bk 45 [v] ∈ H) (hk : BoolsIn H v keep) (hs : Sat w H) :
    Calls Try.prog 75 [.int .i64 i, ptr bk].toArray w (fun e w' => e = .returned (.bool (keep.getD i false)) ∧ Sat w' H) := by
  cases hk with
  | none =>
    refine enter Try.func75 rfl Try.ntmps75 rfl hs ?_
    (repeat (first | refine L.p (o_loadM rfl hb rfl) rfl ?_ | refine S.seq ?_ | refine S.region ?_ | refine L.nil ?_ | refine L.p (by first | exact o_assign rfl | exact o_move rfl | exact o_load rfl rfl | exact o_load rfl (by assumption) | exact o_lenS rfl | exact o_lenStr rfl | exact o_lt rfl rfl | exact o_idx rfl rfl (by omega) | exact o_idxA rfl rfl (by omega) | exact o_pickT rfl rfl | exact o_pickF rfl rfl) rfl ?_ | refine L.gYes rfl rfl rfl ?_ | refine L.gNo rfl rfl rfl rfl rfl ?_ | refine L.gUnd rfl rfl rfl rfl ?_ | refine S.block ?_ | refine S.pop ?_ | refine S.skip ?_ | refine S.exit rfl ?_ | refine S.condT rfl ?_ | refine S.condF rfl ?_))
    refine S.fin (Fin.one rfl (RV.tmp rfl)) (fun w hs => ?_)
    exact ⟨by simp, hs⟩
  | @mk b o len cap cs bs hl hc hh ho he =>
    by_cases hlt : i < len
    · have hg := get_of_part he hlt
      rw [show (bls keep)[i]? = some (.bool (keep.getD i false)) by simp [bls, hl, hlt]] at hg
      refine enter Try.func75 rfl Try.ntmps75 rfl hs ?_
      (repeat (first | refine L.p (o_loadM rfl hb rfl) rfl ?_ | refine S.seq ?_ | refine S.region ?_ | refine L.nil ?_ | refine L.p (by first | exact o_assign rfl | exact o_move rfl | exact o_load rfl rfl | exact o_load rfl (by assumption) | exact o_lenS rfl | exact o_lenStr rfl | exact o_lt rfl rfl | exact o_idx rfl rfl (by omega) | exact o_idxA rfl rfl (by omega) | exact o_pickT rfl rfl | exact o_pickF rfl rfl) rfl ?_ | refine L.gYes rfl rfl rfl ?_ | refine L.gNo rfl rfl rfl rfl rfl ?_ | refine L.gUnd rfl rfl rfl rfl ?_ | refine S.block ?_ | refine S.pop ?_ | refine S.skip ?_ | refine S.exit rfl ?_ | refine S.condT rfl ?_ | refine S.condF rfl ?_))
      refine L.split 8 rfl (fun h => ?_) (fun h => ?_)
      · (repeat (first | refine L.p (o_loadM rfl hb rfl) rfl ?_ | refine L.p (o_loadA rfl hh hg) rfl ?_ | refine S.seq ?_ | refine S.region ?_ | refine L.nil ?_ | refine L.p (by first | exact o_assign rfl | exact o_move rfl | exact o_load rfl rfl | exact o_load rfl (by assumption) | exact o_lenS rfl | exact o_lenStr rfl | exact o_lt rfl rfl | exact o_idx rfl rfl (by omega) | exact o_idxA rfl rfl (by omega) | exact o_pickT rfl rfl | exact o_pickF rfl rfl) rfl ?_ | refine L.gYes rfl rfl rfl ?_ | refine L.gNo rfl rfl rfl rfl rfl ?_ | refine L.gUnd rfl rfl rfl rfl ?_ | refine S.block ?_ | refine S.pop ?_ | refine S.skip ?_ | refine S.exit rfl ?_ | refine S.condT rfl ?_ | refine S.condF rfl ?_))
        refine S.fin (Fin.one rfl (RV.tmp rfl)) (fun w hs => ?_)
        exact ⟨rfl, hs⟩
      · omega
    · refine enter Try.func75 rfl Try.ntmps75 rfl hs ?_
      (repeat (first | refine L.p (o_loadM rfl hb rfl) rfl ?_ | refine S.seq ?_ | refine S.region ?_ | refine L.nil ?_ | refine L.p (by first | exact o_assign rfl | exact o_move rfl | exact o_load rfl rfl | exact o_load rfl (by assumption) | exact o_lenS rfl | exact o_lenStr rfl | exact o_lt rfl rfl | exact o_idx rfl rfl (by omega) | exact o_idxA rfl rfl (by omega) | exact o_pickT rfl rfl | exact o_pickF rfl rfl) rfl ?_ | refine L.gYes rfl rfl rfl ?_ | refine L.gNo rfl rfl rfl rfl rfl ?_ | refine L.gUnd rfl rfl rfl rfl ?_ | refine S.block ?_ | refine S.pop ?_ | refine S.skip ?_ | refine S.exit rfl ?_ | refine S.condT rfl ?_ | refine S.condF rfl ?_))
      refine L.split 8 rfl (fun h => ?_) (fun h => ?_)
      · omega
      · (repeat (first | refine S.seq ?_ | refine S.region ?_ | refine L.nil ?_ | refine L.p (by first | exact o_assign rfl | exact o_move rfl | exact o_load rfl rfl | exact o_load rfl (by assumption) | exact o_lenS rfl | exact o_lenStr rfl | exact o_lt rfl rfl | exact o_idx rfl rfl (by omega) | exact o_idxA rfl rfl (by omega) | exact o_pickT rfl rfl | exact o_pickF rfl rfl) rfl ?_ | refine L.gYes rfl rfl rfl ?_ | refine L.gNo rfl rfl rfl rfl rfl ?_ | refine L.gUnd rfl rfl rfl rfl ?_ | refine S.block ?_ | refine S.pop ?_ | refine S.skip ?_ | refine S.exit rfl ?_ | refine S.condT rfl ?_ | refine S.condF rfl ?_))
        refine S.fin (Fin.one rfl (RV.tmp rfl)) (fun w hs => ?_)
        exact ⟨by simp [List.getD, List.getElem?_eq_none (show keep.length ≤ i by omega)], hs⟩
end Go.Proofs.Ytlecgoebbjnnmaa

