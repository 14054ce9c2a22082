/- The disk's functions: all bytes. -/
import Derived.Test.YtlecgoebbjnnmaaDisk3
set_option linter.unusedVariables false
set_option linter.unusedSimpArgs false
set_option linter.unusedSectionVars false
set_option linter.constructorNameAsVariable false
set_option maxRecDepth 100000
set_option maxHeartbeats 4000000
namespace Go.Proofs.Ytlecgoebbjnnmaa
open Go
variable [Ref]

theorem dump_calls {w : World} {A H : List Atom} {bd : Nat} {D : DiskM} (hD : DiskAt bd D A) (hs : Sat w (A ++ H)) :
    Calls Try.prog 43 [ptr bd].toArray w (fun e w' => ∃ v B, e = .returned v ∧ Own 5 1 v (vbs D.now) B ∧ Sat w' (B ++ (A ++ H))) := by
  cases hD with
  | @mk bn bs vp Ap l wf hp hl =>
  have hn := wf.now
  have hn2 := wf.n2
  simp only [List.cons_append] at hs ⊢
  refine enter Try.func43 rfl Try.ntmps43 rfl hs ?_
  (repeat (first | refine S.seq ?_ | refine S.region ?_ | refine L.nil ?_ | refine L.p (by first | exact o_assign rfl | exact o_move rfl | exact o_eq rfl rfl | exact o_ptrNil rfl rfl | exact o_nilNil rfl rfl | exact o_nil rfl | exact o_nilFn rfl | exact o_fld rfl | exact o_load rfl rfl | exact o_load rfl (by assumption) | exact o_lenS rfl | exact o_lenStr rfl | exact o_lt rfl rfl | exact o_idx rfl rfl (by omega) | exact o_idxA rfl rfl (by omega) | exact o_slAll rfl | exact o_arAll rfl | exact o_slHi rfl rfl (by omega) | exact o_slLo rfl rfl (by omega) | exact o_slBoth rfl rfl rfl (by omega) | exact o_arLo rfl rfl (by omega) | exact o_add rfl rfl (by unfold I64; omega)) rfl ?_ | refine S.block ?_ | refine S.pop ?_ | refine S.skip ?_ | refine S.exit rfl ?_ | refine S.condT rfl ?_ | refine S.condF rfl ?_))
  refine S.loop (G := Nat × Nat × Option Addr × Nat × List Atom) (fun s => s.1 ≤ D.n ∧ s.2.1 = s.1 * 256 ∧ Own 5 1 (.slice s.2.2.1 s.2.1 s.2.2.2.1) (vbs (D.now.take s.2.1)) s.2.2.2.2)
    (fun s => [(11, .int .i64 D.n), (12, .int .i64 s.1), (0, ptr bd), (3, .slice s.2.2.1 s.2.1 s.2.2.2.1)])
    (fun s => s.2.2.2.2 ++ (.cells bd 94 [.slice (some ⟨bn, 0, none⟩) D.n D.n, .slice (some ⟨bs, 0, none⟩) D.n D.n, vp, .bool D.fused, .int .i64 l, .bool D.off] :: .cells bn 106 (vbs D.now) :: .cells bs 106 (vbs D.safe) :: (Ap ++ H)))
    (fun s => D.n - s.1) (0, 0, none, 0, []) ⟨by simp, rfl, by simpa [vbs] using Own.nil⟩ (by repeat (first | exact trivial | refine ⟨rfl, ?_⟩)) (fun w hs => hs) ?_
  rintro ⟨i, k, a, c, B⟩ m ⟨h1, hk, h2⟩ hm
  simp only at h1 hk h2 hm
  dsimp only
  (repeat (first | refine S.seq ?_ | refine S.region ?_ | refine L.nil ?_ | refine L.p (by first | exact o_assign rfl | exact o_move rfl | exact o_eq rfl rfl | exact o_ptrNil rfl rfl | exact o_nilNil rfl rfl | exact o_nil rfl | exact o_nilFn rfl | exact o_fld rfl | exact o_load rfl rfl | exact o_load rfl (by assumption) | exact o_lenS rfl | exact o_lenStr rfl | exact o_lt rfl rfl | exact o_idx rfl rfl (by omega) | exact o_idxA rfl rfl (by omega) | exact o_slAll rfl | exact o_arAll rfl | exact o_slHi rfl rfl (by omega) | exact o_slLo rfl rfl (by omega) | exact o_slBoth rfl rfl rfl (by omega) | exact o_arLo rfl rfl (by omega) | exact o_add rfl rfl (by unfold I64; omega)) rfl ?_ | refine S.block ?_ | refine S.pop ?_ | refine S.skip ?_ | refine S.exit rfl ?_ | refine S.condT rfl ?_ | refine S.condF rfl ?_))
  refine S.condD rfl (fun hi => ?_) (fun hi => ?_)
  · have hi' : i < D.n := by omega
    have hlt : (i + 1) * 256 ≤ D.n * 256 := Nat.mul_le_mul_right _ hi'
    (repeat (first | refine S.seq ?_ | refine S.region ?_ | refine L.nil ?_ | refine L.p (by first | exact o_assign rfl | exact o_move rfl | exact o_eq rfl rfl | exact o_ptrNil rfl rfl | exact o_nilNil rfl rfl | exact o_nil rfl | exact o_nilFn rfl | exact o_fld rfl | exact o_load rfl rfl | exact o_load rfl (by assumption) | exact o_lenS rfl | exact o_lenStr rfl | exact o_lt rfl rfl | exact o_idx rfl rfl (by omega) | exact o_idxA rfl rfl (by omega) | exact o_slAll rfl | exact o_arAll rfl | exact o_slHi rfl rfl (by omega) | exact o_slLo rfl rfl (by omega) | exact o_slBoth rfl rfl rfl (by omega) | exact o_arLo rfl rfl (by omega) | exact o_add rfl rfl (by unfold I64; omega)) rfl ?_ | refine S.block ?_ | refine S.pop ?_ | refine S.skip ?_ | refine S.exit rfl ?_ | refine S.condT rfl ?_ | refine S.condF rfl ?_))
    refine L.append (m := 256) (cnt := k) (news := vbs (blockOf D.now i)) (A := B) (R := .cells bd 94 [.slice (some ⟨bn, 0, none⟩) D.n D.n, .slice (some ⟨bs, 0, none⟩) D.n D.n, vp, .bool D.fused, .int .i64 l, .bool D.off] :: .cells bn 106 (vbs D.now) :: .cells bs 106 (vbs D.safe) :: (Ap ++ H)) rfl h2 rfl ?_ lenOf_slice (by rw [vbs_length, blockOf_length hn hi']) (vbs_one _) (by first | (simp [hn]; done) | (simp [hn]; omega)) (by omega) (by decide) rfl (by intro a; simp only [List.count_append]) rfl (fun a' c' A' ho => ?_)
    · refine (Src.slice (b := bn) (o := i * 256) (T := 106) (cs := vbs D.now) (by simp) (by rw [vbs_length, hn]; omega)).congr ?_
      rw [vbs_drop, vbs_take]; rfl
    (repeat (first | refine S.seq ?_ | refine S.region ?_ | refine L.nil ?_ | refine L.p (by first | exact o_assign rfl | exact o_move rfl | exact o_eq rfl rfl | exact o_ptrNil rfl rfl | exact o_nilNil rfl rfl | exact o_nil rfl | exact o_nilFn rfl | exact o_fld rfl | exact o_load rfl rfl | exact o_load rfl (by assumption) | exact o_lenS rfl | exact o_lenStr rfl | exact o_lt rfl rfl | exact o_idx rfl rfl (by omega) | exact o_idxA rfl rfl (by omega) | exact o_slAll rfl | exact o_arAll rfl | exact o_slHi rfl rfl (by omega) | exact o_slLo rfl rfl (by omega) | exact o_slBoth rfl rfl rfl (by omega) | exact o_arLo rfl rfl (by omega) | exact o_add rfl rfl (by unfold I64; omega)) rfl ?_ | refine S.block ?_ | refine S.pop ?_ | refine S.skip ?_ | refine S.exit rfl ?_ | refine S.condT rfl ?_ | refine S.condF rfl ?_))
    refine S.round (fun ac_ w hac_ hs => ⟨((i + 1, k + 256, a', c', A')), ⟨?_, (by (try dsimp only); omega)⟩, hac_.weaken (look_sub (by repeat (first | exact trivial | refine ⟨rfl, ?_⟩))), (by (try dsimp only); exact hs)⟩)
    refine ⟨by omega, by dsimp only; omega, ?_⟩
    dsimp only
    have ht : D.now.take (k + 256) = D.now.take k ++ blockOf D.now i := by
      rw [List.take_add, hk]; rfl
    rw [ht, vbs_append]
    exact ho
  · (repeat (first | refine S.seq ?_ | refine S.region ?_ | refine L.nil ?_ | refine L.p (by first | exact o_assign rfl | exact o_move rfl | exact o_eq rfl rfl | exact o_ptrNil rfl rfl | exact o_nilNil rfl rfl | exact o_nil rfl | exact o_nilFn rfl | exact o_fld rfl | exact o_load rfl rfl | exact o_load rfl (by assumption) | exact o_lenS rfl | exact o_lenStr rfl | exact o_lt rfl rfl | exact o_idx rfl rfl (by omega) | exact o_idxA rfl rfl (by omega) | exact o_slAll rfl | exact o_arAll rfl | exact o_slHi rfl rfl (by omega) | exact o_slLo rfl rfl (by omega) | exact o_slBoth rfl rfl rfl (by omega) | exact o_arLo rfl rfl (by omega) | exact o_add rfl rfl (by unfold I64; omega)) rfl ?_ | refine S.block ?_ | refine S.pop ?_ | refine S.skip ?_ | refine S.exit rfl ?_ | refine S.condT rfl ?_ | refine S.condF rfl ?_))
    refine S.fin (Fin.one rfl (RV.tmp rfl)) (fun w hs => ?_)
    have hi' : i = D.n := by omega
    subst hi'
    rw [hk, ← hn, List.take_length, hn, ← hk] at h2
    exact ⟨_, B, rfl, h2, hs⟩
end Go.Proofs.Ytlecgoebbjnnmaa

