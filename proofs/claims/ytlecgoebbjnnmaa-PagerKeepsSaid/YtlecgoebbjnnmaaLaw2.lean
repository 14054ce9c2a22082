/- alive, and the statement that no pager is nothing. -/
import Derived.Test.YtlecgoebbjnnmaaLaw1
set_option linter.unusedVariables false
set_option linter.unusedSimpArgs false
set_option linter.unusedSectionVars false
set_option linter.constructorNameAsVariable false
set_option maxRecDepth 100000
set_option maxHeartbeats 4000000
namespace Go.Proofs.Ytlecgoebbjnnmaa
open Go
variable [Ref]

theorem bytes_new {H : List Atom} {x : Nat} {l : List UInt8} (hl : l.length = 256) : BytesIn (.cells x 5 (vbs l) :: H) (.slice (some ⟨x, 0, none⟩) 256 256) l :=
  BytesIn.mk (b := x) (o := 0) (cs := vbs l) hl (by decide) (CellsAt.head (T := 5) (by simp)) (by rw [vbs_length, hl]; decide) (by rw [List.drop_zero]; exact List.take_of_length_le (by rw [vbs_length, hl]; decide))

theorem alive_calls {w : World} {H : List Atom} (hs : Sat w H) :
    Calls Try.prog 15 ([] : List Value).toArray w (fun e w' => e = .returned (.bool true) ∧ Sat w' H) := by
  refine enter Try.func15 rfl Try.ntmps15 rfl hs ?_
  (repeat (first | refine S.seq ?_ | refine S.region ?_ | refine L.nil ?_ | refine L.p (by first | exact o_assign rfl | exact o_move rfl | exact o_ext rfl rfl | exact o_notT rfl | exact o_notF rfl | exact o_notD rfl | exact o_notB rfl | exact o_eq rfl rfl | exact o_ptrNil rfl rfl | exact o_nilNil rfl rfl | exact o_pickT rfl rfl | exact o_pickF rfl rfl | exact o_ne rfl rfl | exact o_ptrNilN rfl rfl | exact o_nilNilN rfl rfl) rfl ?_ | refine L.gYes rfl rfl rfl ?_ | refine L.gNo rfl rfl rfl rfl rfl ?_ | refine L.gUnd rfl rfl rfl rfl ?_ | refine S.block ?_ | refine S.pop ?_ | refine S.skip ?_ | refine S.exit rfl ?_ | refine S.condT rfl ?_ | refine S.condF rfl ?_))
  refine L.callR rfl (hc_func Try.func21 (by decide) rfl rfl) rfl (fun w hs => made_calls hs) ?_
  rintro e w' ⟨bd, bp, A, Ad, rfl, hP, hD, hs'⟩
  refine ⟨_, _, rfl, (by assumption), ?_⟩
  (repeat (first | refine S.seq ?_ | refine S.region ?_ | refine L.nil ?_ | refine L.p (by first | exact o_assign rfl | exact o_move rfl | exact o_ext rfl rfl | exact o_notT rfl | exact o_notF rfl | exact o_notD rfl | exact o_notB rfl | exact o_eq rfl rfl | exact o_ptrNil rfl rfl | exact o_nilNil rfl rfl | exact o_pickT rfl rfl | exact o_pickF rfl rfl | exact o_ne rfl rfl | exact o_ptrNilN rfl rfl | exact o_nilNilN rfl rfl) rfl ?_ | refine L.gYes rfl rfl rfl ?_ | refine L.gNo rfl rfl rfl rfl rfl ?_ | refine L.gUnd rfl rfl rfl rfl ?_ | refine S.block ?_ | refine S.pop ?_ | refine S.skip ?_ | refine S.exit rfl ?_ | refine S.condT rfl ?_ | refine S.condF rfl ?_))
  refine L.callR rfl (hc_func Try.func28 (by decide) rfl rfl) rfl (fun w hs => (by have h := ptake_calls hP hs; rw [take0] at h; exact h)) ?_
  rintro e w' ⟨rfl, A1, hP1, hs'⟩
  refine ⟨_, _, rfl, (by assumption), ?_⟩
  (repeat (first | refine S.seq ?_ | refine S.region ?_ | refine L.nil ?_ | refine L.p (by first | exact o_assign rfl | exact o_move rfl | exact o_ext rfl rfl | exact o_notT rfl | exact o_notF rfl | exact o_notD rfl | exact o_notB rfl | exact o_eq rfl rfl | exact o_ptrNil rfl rfl | exact o_nilNil rfl rfl | exact o_pickT rfl rfl | exact o_pickF rfl rfl | exact o_ne rfl rfl | exact o_ptrNilN rfl rfl | exact o_nilNilN rfl rfl) rfl ?_ | refine L.gYes rfl rfl rfl ?_ | refine L.gNo rfl rfl rfl rfl rfl ?_ | refine L.gUnd rfl rfl rfl rfl ?_ | refine S.block ?_ | refine S.pop ?_ | refine S.skip ?_ | refine S.exit rfl ?_ | refine S.condT rfl ?_ | refine S.condF rfl ?_))
  refine L.slice1 rfl [vb 5] rfl (by rfl) (by rfl) rfl (by decide) (fun b5 => ?_)
  (repeat (first | refine S.seq ?_ | refine S.region ?_ | refine L.nil ?_ | refine L.p (by first | exact o_assign rfl | exact o_move rfl | exact o_ext rfl rfl | exact o_notT rfl | exact o_notF rfl | exact o_notD rfl | exact o_notB rfl | exact o_eq rfl rfl | exact o_ptrNil rfl rfl | exact o_nilNil rfl rfl | exact o_pickT rfl rfl | exact o_pickF rfl rfl | exact o_ne rfl rfl | exact o_ptrNilN rfl rfl | exact o_nilNilN rfl rfl) rfl ?_ | refine L.gYes rfl rfl rfl ?_ | refine L.gNo rfl rfl rfl rfl rfl ?_ | refine L.gUnd rfl rfl rfl rfl ?_ | refine S.block ?_ | refine S.pop ?_ | refine S.skip ?_ | refine S.exit rfl ?_ | refine S.condT rfl ?_ | refine S.condF rfl ?_))
  refine L.callR rfl (hc_func Try.func27 (by decide) rfl rfl) rfl (fun w hs => block_calls (H := .cells b5 5 [vb 5] :: (A1 ++ (Ad ++ H))) (l := [5]) (BytesIn.one (b := b5) (T := 5) (len := 1) (bs := [5]) (extra := []) (by simp [vbs]) (by simp)) (by simp) hs) ?_
  rintro e w' ⟨x, rfl, hs'⟩
  refine ⟨_, _, rfl, (by assumption), ?_⟩
  (repeat (first | refine S.seq ?_ | refine S.region ?_ | refine L.nil ?_ | refine L.p (by first | exact o_assign rfl | exact o_move rfl | exact o_ext rfl rfl | exact o_notT rfl | exact o_notF rfl | exact o_notD rfl | exact o_notB rfl | exact o_eq rfl rfl | exact o_ptrNil rfl rfl | exact o_nilNil rfl rfl | exact o_pickT rfl rfl | exact o_pickF rfl rfl | exact o_ne rfl rfl | exact o_ptrNilN rfl rfl | exact o_nilNilN rfl rfl) rfl ?_ | refine L.gYes rfl rfl rfl ?_ | refine L.gNo rfl rfl rfl rfl rfl ?_ | refine L.gUnd rfl rfl rfl rfl ?_ | refine S.block ?_ | refine S.pop ?_ | refine S.skip ?_ | refine S.exit rfl ?_ | refine S.condT rfl ?_ | refine S.condF rfl ?_))
  refine L.callR rfl (hc_func Try.func26 (by decide) rfl rfl) rfl (fun w hs => (by have h := pwrite_calls (i := 0) (H := .cells x 5 (vbs (blockM [5])) :: .cells b5 5 [vb 5] :: H) (by decide) (by decide) rfl (bytes_new (blockM_length _)) hP1 hD (hs.re (by intro a; simp only [List.count_append, List.count_cons, List.count_nil] <;> omega)); rw [write0.1, write0.2] at h; exact h)) ?_
  rintro e w' ⟨rfl, A2, Ad2, hP2, hD2, hs'⟩
  refine ⟨_, _, rfl, (by assumption), ?_⟩
  (repeat (first | refine S.seq ?_ | refine S.region ?_ | refine L.nil ?_ | refine L.p (by first | exact o_assign rfl | exact o_move rfl | exact o_ext rfl rfl | exact o_notT rfl | exact o_notF rfl | exact o_notD rfl | exact o_notB rfl | exact o_eq rfl rfl | exact o_ptrNil rfl rfl | exact o_nilNil rfl rfl | exact o_pickT rfl rfl | exact o_pickF rfl rfl | exact o_ne rfl rfl | exact o_ptrNilN rfl rfl | exact o_nilNilN rfl rfl) rfl ?_ | refine L.gYes rfl rfl rfl ?_ | refine L.gNo rfl rfl rfl rfl rfl ?_ | refine L.gUnd rfl rfl rfl rfl ?_ | refine S.block ?_ | refine S.pop ?_ | refine S.skip ?_ | refine S.exit rfl ?_ | refine S.condT rfl ?_ | refine S.condF rfl ?_))
  refine L.callR rfl (hc_func Try.func24 (by decide) rfl rfl) rfl (fun w hs => (by have h := pcommit_calls (root := 0) (epoch := 2) (by decide) (by decide +kernel) (by decide +kernel) hP2 hD2 hs; rw [commit0] at h; exact h)) ?_
  rintro e w' ⟨rfl, A3, Ad3, hP3, hD3, hs'⟩
  refine ⟨_, _, rfl, (by assumption), ?_⟩
  (repeat (first | refine S.seq ?_ | refine S.region ?_ | refine L.nil ?_ | refine L.p (by first | exact o_assign rfl | exact o_move rfl | exact o_ext rfl rfl | exact o_notT rfl | exact o_notF rfl | exact o_notD rfl | exact o_notB rfl | exact o_eq rfl rfl | exact o_ptrNil rfl rfl | exact o_nilNil rfl rfl | exact o_pickT rfl rfl | exact o_pickF rfl rfl | exact o_ne rfl rfl | exact o_ptrNilN rfl rfl | exact o_nilNilN rfl rfl) rfl ?_ | refine L.gYes rfl rfl rfl ?_ | refine L.gNo rfl rfl rfl rfl rfl ?_ | refine L.gUnd rfl rfl rfl rfl ?_ | refine S.block ?_ | refine S.pop ?_ | refine S.skip ?_ | refine S.exit rfl ?_ | refine S.condT rfl ?_ | refine S.condF rfl ?_))
  refine L.callR rfl (hc_func Try.func13 (by decide) rfl rfl) rfl (fun w hs => popen_good (first := 1) (size := 14) (H := A3 ++ (.cells x 5 (vbs (blockM [5])) :: .cells b5 5 [vb 5] :: H)) (by rw [d2ok.1]; decide) hD3 (hs.re (by intro a; simp only [List.count_append, List.count_cons, List.count_nil] <;> omega))) ?_
  rintro e w' (⟨ho, _⟩ | ⟨ho, bq, A4, rfl, hP4, hs'⟩)
  · rw [d2ok.2] at ho; cases ho
  refine ⟨_, _, rfl, (by assumption), ?_⟩
  obtain ⟨o1, o2, o3, o4, o5⟩ := open2
  generalize hq : openM D2 1 14 = q at *
  have hu : q.use [0] = ({ q.settle with used := true :: List.replicate 11 false }, 0) := by unfold PgM.use; rw [o4, used2]
  (repeat (first | refine S.seq ?_ | refine S.region ?_ | refine L.nil ?_ | refine L.p (by first | exact o_assign rfl | exact o_move rfl | exact o_ext rfl rfl | exact o_notT rfl | exact o_notF rfl | exact o_notD rfl | exact o_notB rfl | exact o_eq rfl rfl | exact o_ptrNil rfl rfl | exact o_nilNil rfl rfl | exact o_pickT rfl rfl | exact o_pickF rfl rfl | exact o_ne rfl rfl | exact o_ptrNilN rfl rfl | exact o_nilNilN rfl rfl) rfl ?_ | refine L.gYes rfl rfl rfl ?_ | refine L.gNo rfl rfl rfl rfl rfl ?_ | refine L.gUnd rfl rfl rfl rfl ?_ | refine S.block ?_ | refine S.pop ?_ | refine S.skip ?_ | refine S.exit rfl ?_ | refine S.condT rfl ?_ | refine S.condF rfl ?_))
  refine L.callR rfl (hc_func Try.func17 (by decide) rfl rfl) rfl (fun w hs => (by have h := proot_calls hP4 hs; rw [o1] at h; exact h)) ?_
  rintro e w' ⟨rfl, hs'⟩
  refine ⟨_, _, rfl, (by assumption), ?_⟩
  (repeat (first | refine S.seq ?_ | refine S.region ?_ | refine L.nil ?_ | refine L.p (by first | exact o_assign rfl | exact o_move rfl | exact o_ext rfl rfl | exact o_notT rfl | exact o_notF rfl | exact o_notD rfl | exact o_notB rfl | exact o_eq rfl rfl | exact o_ptrNil rfl rfl | exact o_nilNil rfl rfl | exact o_pickT rfl rfl | exact o_pickF rfl rfl | exact o_ne rfl rfl | exact o_ptrNilN rfl rfl | exact o_nilNilN rfl rfl) rfl ?_ | refine L.gYes rfl rfl rfl ?_ | refine L.gNo rfl rfl rfl rfl rfl ?_ | refine L.gUnd rfl rfl rfl rfl ?_ | refine S.block ?_ | refine S.pop ?_ | refine S.skip ?_ | refine S.exit rfl ?_ | refine S.condT rfl ?_ | refine S.condF rfl ?_))
  refine L.callR rfl (hc_func Try.func18 (by decide) rfl rfl) rfl (fun w hs => (by have h := pepoch_calls hP4 hs; rw [o2] at h; exact h)) ?_
  rintro e w' ⟨rfl, hs'⟩
  refine ⟨_, _, rfl, (by assumption), ?_⟩
  (repeat (first | refine S.seq ?_ | refine S.region ?_ | refine L.nil ?_ | refine L.p (by first | exact o_assign rfl | exact o_move rfl | exact o_ext rfl rfl | exact o_notT rfl | exact o_notF rfl | exact o_notD rfl | exact o_notB rfl | exact o_eq rfl rfl | exact o_ptrNil rfl rfl | exact o_nilNil rfl rfl | exact o_pickT rfl rfl | exact o_pickF rfl rfl | exact o_ne rfl rfl | exact o_ptrNilN rfl rfl | exact o_nilNilN rfl rfl) rfl ?_ | refine L.gYes rfl rfl rfl ?_ | refine L.gNo rfl rfl rfl rfl rfl ?_ | refine L.gUnd rfl rfl rfl rfl ?_ | refine S.block ?_ | refine S.pop ?_ | refine S.skip ?_ | refine S.exit rfl ?_ | refine S.condT rfl ?_ | refine S.condF rfl ?_))
  refine L.callR rfl (hc_func Try.func16 (by decide) rfl rfl) rfl (fun w hs => (by have h := pgen_calls hP4 hs; rw [o3] at h; exact h)) ?_
  rintro e w' ⟨rfl, hs'⟩
  refine ⟨_, _, rfl, (by assumption), ?_⟩
  (repeat (first | refine S.seq ?_ | refine S.region ?_ | refine L.nil ?_ | refine L.p (by first | exact o_assign rfl | exact o_move rfl | exact o_ext rfl rfl | exact o_notT rfl | exact o_notF rfl | exact o_notD rfl | exact o_notB rfl | exact o_eq rfl rfl | exact o_ptrNil rfl rfl | exact o_nilNil rfl rfl | exact o_pickT rfl rfl | exact o_pickF rfl rfl | exact o_ne rfl rfl | exact o_ptrNilN rfl rfl | exact o_nilNilN rfl rfl) rfl ?_ | refine L.gYes rfl rfl rfl ?_ | refine L.gNo rfl rfl rfl rfl rfl ?_ | refine L.gUnd rfl rfl rfl rfl ?_ | refine S.block ?_ | refine S.pop ?_ | refine S.skip ?_ | refine S.exit rfl ?_ | refine S.condT rfl ?_ | refine S.condF rfl ?_))
  refine L.callR rfl (hc_func Try.func19 (by decide) rfl rfl) rfl (fun w hs => (by have h := ppages_calls hP4 hs; rw [o4] at h; exact h)) ?_
  rintro e w' ⟨rfl, hs'⟩
  refine ⟨_, _, rfl, (by assumption), ?_⟩
  (repeat (first | refine S.seq ?_ | refine S.region ?_ | refine L.nil ?_ | refine L.p (by first | exact o_assign rfl | exact o_move rfl | exact o_ext rfl rfl | exact o_notT rfl | exact o_notF rfl | exact o_notD rfl | exact o_notB rfl | exact o_eq rfl rfl | exact o_ptrNil rfl rfl | exact o_nilNil rfl rfl | exact o_pickT rfl rfl | exact o_pickF rfl rfl | exact o_ne rfl rfl | exact o_ptrNilN rfl rfl | exact o_nilNilN rfl rfl) rfl ?_ | refine L.gYes rfl rfl rfl ?_ | refine L.gNo rfl rfl rfl rfl rfl ?_ | refine L.gUnd rfl rfl rfl rfl ?_ | refine S.block ?_ | refine S.pop ?_ | refine S.skip ?_ | refine S.exit rfl ?_ | refine S.condT rfl ?_ | refine S.condF rfl ?_))
  refine L.slice1 rfl [.int .i64 0] rfl (by rfl) (by rfl) rfl (by decide) (fun b6 => ?_)
  (repeat (first | refine S.seq ?_ | refine S.region ?_ | refine L.nil ?_ | refine L.p (by first | exact o_assign rfl | exact o_move rfl | exact o_ext rfl rfl | exact o_notT rfl | exact o_notF rfl | exact o_notD rfl | exact o_notB rfl | exact o_eq rfl rfl | exact o_ptrNil rfl rfl | exact o_nilNil rfl rfl | exact o_pickT rfl rfl | exact o_pickF rfl rfl | exact o_ne rfl rfl | exact o_ptrNilN rfl rfl | exact o_nilNilN rfl rfl) rfl ?_ | refine L.gYes rfl rfl rfl ?_ | refine L.gNo rfl rfl rfl rfl rfl ?_ | refine L.gUnd rfl rfl rfl rfl ?_ | refine S.block ?_ | refine S.pop ?_ | refine S.skip ?_ | refine S.exit rfl ?_ | refine S.condT rfl ?_ | refine S.condF rfl ?_))
  refine L.callR rfl (hc_func Try.func31 (by decide) rfl rfl) rfl (fun w hs => (by have h := puse_calls (l := [0]) (v := .slice (some ⟨b6, 0, none⟩) 1 1) (H := .cells b6 3 [.int .i64 0] :: (Ad3 ++ (A3 ++ (.cells x 5 (vbs (blockM [5])) :: .cells b5 5 [vb 5] :: H)))) (.mk (l := [0]) (b := b6) (o := 0) (cs := [.int .i64 0]) (by decide) (CellsAt.head (T := 3) (by simp)) (by decide) rfl) (by decide) hP4 (hs.re (by intro a; simp only [List.count_append, List.count_cons, List.count_nil] <;> omega)); rw [hu] at h; exact h)) ?_
  rintro e w' ⟨rfl, A5, hP5, hs'⟩
  refine ⟨_, _, rfl, (by assumption), ?_⟩
  (repeat (first | refine S.seq ?_ | refine S.region ?_ | refine L.nil ?_ | refine L.p (by first | exact o_assign rfl | exact o_move rfl | exact o_ext rfl rfl | exact o_notT rfl | exact o_notF rfl | exact o_notD rfl | exact o_notB rfl | exact o_eq rfl rfl | exact o_ptrNil rfl rfl | exact o_nilNil rfl rfl | exact o_pickT rfl rfl | exact o_pickF rfl rfl | exact o_ne rfl rfl | exact o_ptrNilN rfl rfl | exact o_nilNilN rfl rfl) rfl ?_ | refine L.gYes rfl rfl rfl ?_ | refine L.gNo rfl rfl rfl rfl rfl ?_ | refine L.gUnd rfl rfl rfl rfl ?_ | refine S.block ?_ | refine S.pop ?_ | refine S.skip ?_ | refine S.exit rfl ?_ | refine S.condT rfl ?_ | refine S.condF rfl ?_))
  refine L.callR rfl (hc_func Try.func20 (by decide) rfl rfl) rfl (fun w hs => (by have h := pfree_calls hP5 hs; exact h)) ?_
  rintro e w' ⟨rfl, hs'⟩
  refine ⟨_, _, rfl, (by assumption), ?_⟩
  have hf : freeN (true :: List.replicate 11 false) = 11 := by decide
  dsimp only
  rw [hf]
  (repeat (first | refine S.seq ?_ | refine S.region ?_ | refine L.nil ?_ | refine L.p (by first | exact o_assign rfl | exact o_move rfl | exact o_ext rfl rfl | exact o_notT rfl | exact o_notF rfl | exact o_notD rfl | exact o_notB rfl | exact o_eq rfl rfl | exact o_ptrNil rfl rfl | exact o_nilNil rfl rfl | exact o_pickT rfl rfl | exact o_pickF rfl rfl | exact o_ne rfl rfl | exact o_ptrNilN rfl rfl | exact o_nilNilN rfl rfl) rfl ?_ | refine L.gYes rfl rfl rfl ?_ | refine L.gNo rfl rfl rfl rfl rfl ?_ | refine L.gUnd rfl rfl rfl rfl ?_ | refine S.block ?_ | refine S.pop ?_ | refine S.skip ?_ | refine S.exit rfl ?_ | refine S.condT rfl ?_ | refine S.condF rfl ?_))
  refine S.fin (Fin.one rfl (RV.tmp rfl)) (fun w hs => ?_)
  exact ⟨rfl, hs.less (by intro a; simp only [List.count_append, List.count_cons, List.count_nil] <;> omega)⟩

theorem nil_calls {w : World} {H : List Atom} {i : Int} {v : Value} (hs : Sat w H) :
    Calls Try.prog 5 [.int .i64 i, v].toArray w (fun e w' => e = .returned (.bool true) ∧ Sat w' H) := by
  refine enter Try.func5 rfl Try.ntmps5 rfl hs ?_
  (repeat (first | refine S.seq ?_ | refine S.region ?_ | refine L.nil ?_ | refine L.p (by first | exact o_assign rfl | exact o_move rfl | exact o_ext rfl rfl | exact o_lenS rfl | exact o_lenStr rfl | exact o_eq rfl rfl | exact o_ptrNil rfl rfl | exact o_nilNil rfl rfl | exact o_pickT rfl rfl | exact o_pickF rfl rfl) rfl ?_ | refine L.gYes rfl rfl rfl ?_ | refine L.gNo rfl rfl rfl rfl rfl ?_ | refine L.gUnd rfl rfl rfl rfl ?_ | refine S.block ?_ | refine S.pop ?_ | refine S.skip ?_ | refine S.exit rfl ?_ | refine S.condT rfl ?_ | refine S.condF rfl ?_))
  refine L.callR rfl (hc_func Try.func25 (by decide) rfl rfl) rfl (fun w hs => pread_nil hs) ?_
  rintro e w' ⟨rfl, hs'⟩
  refine ⟨_, _, rfl, (by assumption), ?_⟩
  (repeat (first | refine S.seq ?_ | refine S.region ?_ | refine L.nil ?_ | refine L.p (by first | exact o_assign rfl | exact o_move rfl | exact o_ext rfl rfl | exact o_lenS rfl | exact o_lenStr rfl | exact o_eq rfl rfl | exact o_ptrNil rfl rfl | exact o_nilNil rfl rfl | exact o_pickT rfl rfl | exact o_pickF rfl rfl) rfl ?_ | refine L.gYes rfl rfl rfl ?_ | refine L.gNo rfl rfl rfl rfl rfl ?_ | refine L.gUnd rfl rfl rfl rfl ?_ | refine S.block ?_ | refine S.pop ?_ | refine S.skip ?_ | refine S.exit rfl ?_ | refine S.condT rfl ?_ | refine S.condF rfl ?_))
  refine L.callR rfl (hc_func Try.func28 (by decide) rfl rfl) rfl (fun w hs => ptake_nil hs) ?_
  rintro e w' ⟨rfl, hs'⟩
  refine ⟨_, _, rfl, (by assumption), ?_⟩
  (repeat (first | refine S.seq ?_ | refine S.region ?_ | refine L.nil ?_ | refine L.p (by first | exact o_assign rfl | exact o_move rfl | exact o_ext rfl rfl | exact o_lenS rfl | exact o_lenStr rfl | exact o_eq rfl rfl | exact o_ptrNil rfl rfl | exact o_nilNil rfl rfl | exact o_pickT rfl rfl | exact o_pickF rfl rfl) rfl ?_ | refine L.gYes rfl rfl rfl ?_ | refine L.gNo rfl rfl rfl rfl rfl ?_ | refine L.gUnd rfl rfl rfl rfl ?_ | refine S.block ?_ | refine S.pop ?_ | refine S.skip ?_ | refine S.exit rfl ?_ | refine S.condT rfl ?_ | refine S.condF rfl ?_))
  refine L.callR rfl (hc_func Try.func29 (by decide) rfl rfl) rfl (fun w hs => pundo_nil hs) ?_
  rintro e w' ⟨rfl, hs'⟩
  refine ⟨_, _, rfl, (by assumption), ?_⟩
  (repeat (first | refine S.seq ?_ | refine S.region ?_ | refine L.nil ?_ | refine L.p (by first | exact o_assign rfl | exact o_move rfl | exact o_ext rfl rfl | exact o_lenS rfl | exact o_lenStr rfl | exact o_eq rfl rfl | exact o_ptrNil rfl rfl | exact o_nilNil rfl rfl | exact o_pickT rfl rfl | exact o_pickF rfl rfl) rfl ?_ | refine L.gYes rfl rfl rfl ?_ | refine L.gNo rfl rfl rfl rfl rfl ?_ | refine L.gUnd rfl rfl rfl rfl ?_ | refine S.block ?_ | refine S.pop ?_ | refine S.skip ?_ | refine S.exit rfl ?_ | refine S.condT rfl ?_ | refine S.condF rfl ?_))
  refine L.callR rfl (hc_func Try.func13 (by decide) rfl rfl) rfl (fun w hs => popen_nil hs) ?_
  rintro e w' ⟨rfl, hs'⟩
  refine ⟨_, _, rfl, (by assumption), ?_⟩
  (repeat (first | refine S.seq ?_ | refine S.region ?_ | refine L.nil ?_ | refine L.p (by first | exact o_assign rfl | exact o_move rfl | exact o_ext rfl rfl | exact o_lenS rfl | exact o_lenStr rfl | exact o_eq rfl rfl | exact o_ptrNil rfl rfl | exact o_nilNil rfl rfl | exact o_pickT rfl rfl | exact o_pickF rfl rfl) rfl ?_ | refine L.gYes rfl rfl rfl ?_ | refine L.gNo rfl rfl rfl rfl rfl ?_ | refine L.gUnd rfl rfl rfl rfl ?_ | refine S.block ?_ | refine S.pop ?_ | refine S.skip ?_ | refine S.exit rfl ?_ | refine S.condT rfl ?_ | refine S.condF rfl ?_))
  refine L.callR rfl (hc_func Try.func15 (by decide) rfl rfl) rfl (fun w hs => alive_calls hs) ?_
  rintro e w' ⟨rfl, hs'⟩
  refine ⟨_, _, rfl, (by assumption), ?_⟩
  (repeat (first | refine S.seq ?_ | refine S.region ?_ | refine L.nil ?_ | refine L.p (by first | exact o_assign rfl | exact o_move rfl | exact o_ext rfl rfl | exact o_lenS rfl | exact o_lenStr rfl | exact o_eq rfl rfl | exact o_ptrNil rfl rfl | exact o_nilNil rfl rfl | exact o_pickT rfl rfl | exact o_pickF rfl rfl) rfl ?_ | refine L.gYes rfl rfl rfl ?_ | refine L.gNo rfl rfl rfl rfl rfl ?_ | refine L.gUnd rfl rfl rfl rfl ?_ | refine S.block ?_ | refine S.pop ?_ | refine S.skip ?_ | refine S.exit rfl ?_ | refine S.condT rfl ?_ | refine S.condF rfl ?_))
  refine L.callR rfl (hc_func Try.func26 (by decide) rfl rfl) rfl (fun w hs => pwrite_nil hs) ?_
  rintro e w' ⟨rfl, hs'⟩
  refine ⟨_, _, rfl, (by assumption), ?_⟩
  (repeat (first | refine S.seq ?_ | refine S.region ?_ | refine L.nil ?_ | refine L.p (by first | exact o_assign rfl | exact o_move rfl | exact o_ext rfl rfl | exact o_lenS rfl | exact o_lenStr rfl | exact o_eq rfl rfl | exact o_ptrNil rfl rfl | exact o_nilNil rfl rfl | exact o_pickT rfl rfl | exact o_pickF rfl rfl) rfl ?_ | refine L.gYes rfl rfl rfl ?_ | refine L.gNo rfl rfl rfl rfl rfl ?_ | refine L.gUnd rfl rfl rfl rfl ?_ | refine S.block ?_ | refine S.pop ?_ | refine S.skip ?_ | refine S.exit rfl ?_ | refine S.condT rfl ?_ | refine S.condF rfl ?_))
  refine L.callR rfl (hc_func Try.func30 (by decide) rfl rfl) rfl (fun w hs => pdrop_nil hs) ?_
  rintro e w' ⟨rfl, hs'⟩
  refine ⟨_, _, rfl, (by assumption), ?_⟩
  (repeat (first | refine S.seq ?_ | refine S.region ?_ | refine L.nil ?_ | refine L.p (by first | exact o_assign rfl | exact o_move rfl | exact o_ext rfl rfl | exact o_lenS rfl | exact o_lenStr rfl | exact o_eq rfl rfl | exact o_ptrNil rfl rfl | exact o_nilNil rfl rfl | exact o_pickT rfl rfl | exact o_pickF rfl rfl) rfl ?_ | refine L.gYes rfl rfl rfl ?_ | refine L.gNo rfl rfl rfl rfl rfl ?_ | refine L.gUnd rfl rfl rfl rfl ?_ | refine S.block ?_ | refine S.pop ?_ | refine S.skip ?_ | refine S.exit rfl ?_ | refine S.condT rfl ?_ | refine S.condF rfl ?_))
  refine L.callR rfl (hc_func Try.func24 (by decide) rfl rfl) rfl (fun w hs => pcommit_nil hs) ?_
  rintro e w' ⟨rfl, hs'⟩
  refine ⟨_, _, rfl, (by assumption), ?_⟩
  (repeat (first | refine S.seq ?_ | refine S.region ?_ | refine L.nil ?_ | refine L.p (by first | exact o_assign rfl | exact o_move rfl | exact o_ext rfl rfl | exact o_lenS rfl | exact o_lenStr rfl | exact o_eq rfl rfl | exact o_ptrNil rfl rfl | exact o_nilNil rfl rfl | exact o_pickT rfl rfl | exact o_pickF rfl rfl) rfl ?_ | refine L.gYes rfl rfl rfl ?_ | refine L.gNo rfl rfl rfl rfl rfl ?_ | refine L.gUnd rfl rfl rfl rfl ?_ | refine S.block ?_ | refine S.pop ?_ | refine S.skip ?_ | refine S.exit rfl ?_ | refine S.condT rfl ?_ | refine S.condF rfl ?_))
  refine L.callR rfl (hc_func Try.func31 (by decide) rfl rfl) rfl (fun w hs => puse_nil hs) ?_
  rintro e w' ⟨rfl, hs'⟩
  refine ⟨_, _, rfl, (by assumption), ?_⟩
  (repeat (first | refine S.seq ?_ | refine S.region ?_ | refine L.nil ?_ | refine L.p (by first | exact o_assign rfl | exact o_move rfl | exact o_ext rfl rfl | exact o_lenS rfl | exact o_lenStr rfl | exact o_eq rfl rfl | exact o_ptrNil rfl rfl | exact o_nilNil rfl rfl | exact o_pickT rfl rfl | exact o_pickF rfl rfl) rfl ?_ | refine L.gYes rfl rfl rfl ?_ | refine L.gNo rfl rfl rfl rfl rfl ?_ | refine L.gUnd rfl rfl rfl rfl ?_ | refine S.block ?_ | refine S.pop ?_ | refine S.skip ?_ | refine S.exit rfl ?_ | refine S.condT rfl ?_ | refine S.condF rfl ?_))
  refine L.callR rfl (hc_func Try.func19 (by decide) rfl rfl) rfl (fun w hs => ppages_nil hs) ?_
  rintro e w' ⟨rfl, hs'⟩
  refine ⟨_, _, rfl, (by assumption), ?_⟩
  (repeat (first | refine S.seq ?_ | refine S.region ?_ | refine L.nil ?_ | refine L.p (by first | exact o_assign rfl | exact o_move rfl | exact o_ext rfl rfl | exact o_lenS rfl | exact o_lenStr rfl | exact o_eq rfl rfl | exact o_ptrNil rfl rfl | exact o_nilNil rfl rfl | exact o_pickT rfl rfl | exact o_pickF rfl rfl) rfl ?_ | refine L.gYes rfl rfl rfl ?_ | refine L.gNo rfl rfl rfl rfl rfl ?_ | refine L.gUnd rfl rfl rfl rfl ?_ | refine S.block ?_ | refine S.pop ?_ | refine S.skip ?_ | refine S.exit rfl ?_ | refine S.condT rfl ?_ | refine S.condF rfl ?_))
  refine L.callR rfl (hc_func Try.func20 (by decide) rfl rfl) rfl (fun w hs => pfree_nil hs) ?_
  rintro e w' ⟨rfl, hs'⟩
  refine ⟨_, _, rfl, (by assumption), ?_⟩
  (repeat (first | refine S.seq ?_ | refine S.region ?_ | refine L.nil ?_ | refine L.p (by first | exact o_assign rfl | exact o_move rfl | exact o_ext rfl rfl | exact o_lenS rfl | exact o_lenStr rfl | exact o_eq rfl rfl | exact o_ptrNil rfl rfl | exact o_nilNil rfl rfl | exact o_pickT rfl rfl | exact o_pickF rfl rfl) rfl ?_ | refine L.gYes rfl rfl rfl ?_ | refine L.gNo rfl rfl rfl rfl rfl ?_ | refine L.gUnd rfl rfl rfl rfl ?_ | refine S.block ?_ | refine S.pop ?_ | refine S.skip ?_ | refine S.exit rfl ?_ | refine S.condT rfl ?_ | refine S.condF rfl ?_))
  refine L.callR rfl (hc_func Try.func17 (by decide) rfl rfl) rfl (fun w hs => proot_nil hs) ?_
  rintro e w' ⟨rfl, hs'⟩
  refine ⟨_, _, rfl, (by assumption), ?_⟩
  (repeat (first | refine S.seq ?_ | refine S.region ?_ | refine L.nil ?_ | refine L.p (by first | exact o_assign rfl | exact o_move rfl | exact o_ext rfl rfl | exact o_lenS rfl | exact o_lenStr rfl | exact o_eq rfl rfl | exact o_ptrNil rfl rfl | exact o_nilNil rfl rfl | exact o_pickT rfl rfl | exact o_pickF rfl rfl) rfl ?_ | refine L.gYes rfl rfl rfl ?_ | refine L.gNo rfl rfl rfl rfl rfl ?_ | refine L.gUnd rfl rfl rfl rfl ?_ | refine S.block ?_ | refine S.pop ?_ | refine S.skip ?_ | refine S.exit rfl ?_ | refine S.condT rfl ?_ | refine S.condF rfl ?_))
  refine L.callR rfl (hc_func Try.func16 (by decide) rfl rfl) rfl (fun w hs => pgen_nil hs) ?_
  rintro e w' ⟨rfl, hs'⟩
  refine ⟨_, _, rfl, (by assumption), ?_⟩
  (repeat (first | refine S.seq ?_ | refine S.region ?_ | refine L.nil ?_ | refine L.p (by first | exact o_assign rfl | exact o_move rfl | exact o_ext rfl rfl | exact o_lenS rfl | exact o_lenStr rfl | exact o_eq rfl rfl | exact o_ptrNil rfl rfl | exact o_nilNil rfl rfl | exact o_pickT rfl rfl | exact o_pickF rfl rfl) rfl ?_ | refine L.gYes rfl rfl rfl ?_ | refine L.gNo rfl rfl rfl rfl rfl ?_ | refine L.gUnd rfl rfl rfl rfl ?_ | refine S.block ?_ | refine S.pop ?_ | refine S.skip ?_ | refine S.exit rfl ?_ | refine S.condT rfl ?_ | refine S.condF rfl ?_))
  refine L.callR rfl (hc_func Try.func18 (by decide) rfl rfl) rfl (fun w hs => pepoch_nil hs) ?_
  rintro e w' ⟨rfl, hs'⟩
  refine ⟨_, _, rfl, (by assumption), ?_⟩
  (repeat (first | refine S.seq ?_ | refine S.region ?_ | refine L.nil ?_ | refine L.p (by first | exact o_assign rfl | exact o_move rfl | exact o_ext rfl rfl | exact o_lenS rfl | exact o_lenStr rfl | exact o_eq rfl rfl | exact o_ptrNil rfl rfl | exact o_nilNil rfl rfl | exact o_pickT rfl rfl | exact o_pickF rfl rfl) rfl ?_ | refine L.gYes rfl rfl rfl ?_ | refine L.gNo rfl rfl rfl rfl rfl ?_ | refine L.gUnd rfl rfl rfl rfl ?_ | refine S.block ?_ | refine S.pop ?_ | refine S.skip ?_ | refine S.exit rfl ?_ | refine S.condT rfl ?_ | refine S.condF rfl ?_))
  refine S.fin (Fin.one rfl (RV.tmp rfl)) (fun w hs => ?_)
  exact ⟨rfl, hs⟩
end Go.Proofs.Ytlecgoebbjnnmaa

