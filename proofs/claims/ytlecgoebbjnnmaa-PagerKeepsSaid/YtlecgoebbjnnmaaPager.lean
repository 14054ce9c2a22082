/- The pager's functions. -/
import Derived.Test.YtlecgoebbjnnmaaPagerM
set_option linter.unusedVariables false
set_option linter.unusedSimpArgs false
set_option linter.unusedSectionVars false
set_option linter.constructorNameAsVariable false
set_option maxRecDepth 100000
set_option maxHeartbeats 4000000
namespace Go.Proofs.Ytlecgoebbjnnmaa
open Go
variable [Ref]

theorem pgen_nil {w : World} {H : List Atom} (hs : Sat w H) : Calls Try.prog 16 [.pointer none].toArray w (fun e w' => e = .returned (.int .u64 0) ∧ Sat w' H) := by
  refine enter Try.func16 rfl Try.ntmps16 rfl hs ?_
  (repeat (first | refine S.seq ?_ | refine S.region ?_ | refine L.nil ?_ | refine L.p (by first | exact o_assign rfl | exact o_move rfl | exact o_eq rfl rfl | exact o_ptrNil rfl rfl | exact o_nilNil rfl rfl | exact o_nil rfl | exact o_nilFn rfl | exact o_fld rfl | exact o_load rfl rfl | exact o_load rfl (by assumption)) rfl ?_ | refine S.block ?_ | refine S.pop ?_ | refine S.skip ?_ | refine S.exit rfl ?_ | refine S.condT rfl ?_ | refine S.condF rfl ?_))
  refine S.fin (Fin.one rfl (RV.tmp rfl)) (fun w hs => ?_)
  exact ⟨rfl, hs⟩
theorem pgen_calls {w : World} {A H : List Atom} {bp bd n : Nat} {p : PgM} (hP : PagerAt bp bd n p A) (hs : Sat w (A ++ H)) :
    Calls Try.prog 16 [ptr bp].toArray w (fun e w' => e = .returned (.int .u64 p.gen) ∧ Sat w' (A ++ H)) := by
  cases hP with
  | @mk bs bm vd es c A E wf hS hm hd =>
  simp only [List.cons_append] at hs ⊢
  refine enter Try.func16 rfl Try.ntmps16 rfl hs ?_
  (repeat (first | refine S.seq ?_ | refine S.region ?_ | refine L.nil ?_ | refine L.p (by first | exact o_assign rfl | exact o_move rfl | exact o_eq rfl rfl | exact o_ptrNil rfl rfl | exact o_nilNil rfl rfl | exact o_nil rfl | exact o_nilFn rfl | exact o_fld rfl | exact o_load rfl rfl | exact o_load rfl (by assumption)) rfl ?_ | refine S.block ?_ | refine S.pop ?_ | refine S.skip ?_ | refine S.exit rfl ?_ | refine S.condT rfl ?_ | refine S.condF rfl ?_))
  refine S.fin (Fin.one rfl (RV.tmp rfl)) (fun w hs => ?_)
  exact ⟨rfl, hs⟩

theorem proot_nil {w : World} {H : List Atom} (hs : Sat w H) : Calls Try.prog 17 [.pointer none].toArray w (fun e w' => e = .returned (.int .i64 (-1)) ∧ Sat w' H) := by
  refine enter Try.func17 rfl Try.ntmps17 rfl hs ?_
  (repeat (first | refine S.seq ?_ | refine S.region ?_ | refine L.nil ?_ | refine L.p (by first | exact o_assign rfl | exact o_move rfl | exact o_eq rfl rfl | exact o_ptrNil rfl rfl | exact o_nilNil rfl rfl | exact o_nil rfl | exact o_nilFn rfl | exact o_fld rfl | exact o_load rfl rfl | exact o_load rfl (by assumption)) rfl ?_ | refine S.block ?_ | refine S.pop ?_ | refine S.skip ?_ | refine S.exit rfl ?_ | refine S.condT rfl ?_ | refine S.condF rfl ?_))
  refine S.fin (Fin.one rfl (RV.tmp rfl)) (fun w hs => ?_)
  exact ⟨rfl, hs⟩
theorem proot_calls {w : World} {A H : List Atom} {bp bd n : Nat} {p : PgM} (hP : PagerAt bp bd n p A) (hs : Sat w (A ++ H)) :
    Calls Try.prog 17 [ptr bp].toArray w (fun e w' => e = .returned (.int .i64 p.root) ∧ Sat w' (A ++ H)) := by
  cases hP with
  | @mk bs bm vd es c A E wf hS hm hd =>
  simp only [List.cons_append] at hs ⊢
  refine enter Try.func17 rfl Try.ntmps17 rfl hs ?_
  (repeat (first | refine S.seq ?_ | refine S.region ?_ | refine L.nil ?_ | refine L.p (by first | exact o_assign rfl | exact o_move rfl | exact o_eq rfl rfl | exact o_ptrNil rfl rfl | exact o_nilNil rfl rfl | exact o_nil rfl | exact o_nilFn rfl | exact o_fld rfl | exact o_load rfl rfl | exact o_load rfl (by assumption)) rfl ?_ | refine S.block ?_ | refine S.pop ?_ | refine S.skip ?_ | refine S.exit rfl ?_ | refine S.condT rfl ?_ | refine S.condF rfl ?_))
  refine S.fin (Fin.one rfl (RV.tmp rfl)) (fun w hs => ?_)
  exact ⟨rfl, hs⟩

theorem pepoch_nil {w : World} {H : List Atom} (hs : Sat w H) : Calls Try.prog 18 [.pointer none].toArray w (fun e w' => e = .returned (.int .u64 0) ∧ Sat w' H) := by
  refine enter Try.func18 rfl Try.ntmps18 rfl hs ?_
  (repeat (first | refine S.seq ?_ | refine S.region ?_ | refine L.nil ?_ | refine L.p (by first | exact o_assign rfl | exact o_move rfl | exact o_eq rfl rfl | exact o_ptrNil rfl rfl | exact o_nilNil rfl rfl | exact o_nil rfl | exact o_nilFn rfl | exact o_fld rfl | exact o_load rfl rfl | exact o_load rfl (by assumption)) rfl ?_ | refine S.block ?_ | refine S.pop ?_ | refine S.skip ?_ | refine S.exit rfl ?_ | refine S.condT rfl ?_ | refine S.condF rfl ?_))
  refine S.fin (Fin.one rfl (RV.tmp rfl)) (fun w hs => ?_)
  exact ⟨rfl, hs⟩
theorem pepoch_calls {w : World} {A H : List Atom} {bp bd n : Nat} {p : PgM} (hP : PagerAt bp bd n p A) (hs : Sat w (A ++ H)) :
    Calls Try.prog 18 [ptr bp].toArray w (fun e w' => e = .returned (.int .u64 p.epoch) ∧ Sat w' (A ++ H)) := by
  cases hP with
  | @mk bs bm vd es c A E wf hS hm hd =>
  simp only [List.cons_append] at hs ⊢
  refine enter Try.func18 rfl Try.ntmps18 rfl hs ?_
  (repeat (first | refine S.seq ?_ | refine S.region ?_ | refine L.nil ?_ | refine L.p (by first | exact o_assign rfl | exact o_move rfl | exact o_eq rfl rfl | exact o_ptrNil rfl rfl | exact o_nilNil rfl rfl | exact o_nil rfl | exact o_nilFn rfl | exact o_fld rfl | exact o_load rfl rfl | exact o_load rfl (by assumption)) rfl ?_ | refine S.block ?_ | refine S.pop ?_ | refine S.skip ?_ | refine S.exit rfl ?_ | refine S.condT rfl ?_ | refine S.condF rfl ?_))
  refine S.fin (Fin.one rfl (RV.tmp rfl)) (fun w hs => ?_)
  exact ⟨rfl, hs⟩

theorem ppages_nil {w : World} {H : List Atom} (hs : Sat w H) : Calls Try.prog 19 [.pointer none].toArray w (fun e w' => e = .returned (.int .i64 0) ∧ Sat w' H) := by
  refine enter Try.func19 rfl Try.ntmps19 rfl hs ?_
  (repeat (first | refine S.seq ?_ | refine S.region ?_ | refine L.nil ?_ | refine L.p (by first | exact o_assign rfl | exact o_move rfl | exact o_eq rfl rfl | exact o_ptrNil rfl rfl | exact o_nilNil rfl rfl | exact o_nil rfl | exact o_nilFn rfl | exact o_fld rfl | exact o_load rfl rfl | exact o_load rfl (by assumption)) rfl ?_ | refine S.block ?_ | refine S.pop ?_ | refine S.skip ?_ | refine S.exit rfl ?_ | refine S.condT rfl ?_ | refine S.condF rfl ?_))
  refine S.fin (Fin.one rfl (RV.tmp rfl)) (fun w hs => ?_)
  exact ⟨rfl, hs⟩
theorem ppages_calls {w : World} {A H : List Atom} {bp bd n : Nat} {p : PgM} (hP : PagerAt bp bd n p A) (hs : Sat w (A ++ H)) :
    Calls Try.prog 19 [ptr bp].toArray w (fun e w' => e = .returned (.int .i64 p.pages) ∧ Sat w' (A ++ H)) := by
  cases hP with
  | @mk bs bm vd es c A E wf hS hm hd =>
  simp only [List.cons_append] at hs ⊢
  refine enter Try.func19 rfl Try.ntmps19 rfl hs ?_
  (repeat (first | refine S.seq ?_ | refine S.region ?_ | refine L.nil ?_ | refine L.p (by first | exact o_assign rfl | exact o_move rfl | exact o_eq rfl rfl | exact o_ptrNil rfl rfl | exact o_nilNil rfl rfl | exact o_nil rfl | exact o_nilFn rfl | exact o_fld rfl | exact o_load rfl rfl | exact o_load rfl (by assumption)) rfl ?_ | refine S.block ?_ | refine S.pop ?_ | refine S.skip ?_ | refine S.exit rfl ?_ | refine S.condT rfl ?_ | refine S.condF rfl ?_))
  refine S.fin (Fin.one rfl (RV.tmp rfl)) (fun w hs => ?_)
  exact ⟨rfl, hs⟩

theorem pfree_nil {w : World} {H : List Atom} (hs : Sat w H) : Calls Try.prog 20 [.pointer none].toArray w (fun e w' => e = .returned (.int .i64 0) ∧ Sat w' H) := by
  refine enter Try.func20 rfl Try.ntmps20 rfl hs ?_
  (repeat (first | refine S.seq ?_ | refine S.region ?_ | refine L.nil ?_ | refine L.p (by first | exact o_assign rfl | exact o_move rfl | exact o_eq rfl rfl | exact o_ptrNil rfl rfl | exact o_nilNil rfl rfl | exact o_nil rfl | exact o_nilFn rfl | exact o_fld rfl | exact o_load rfl rfl | exact o_load rfl (by assumption)) rfl ?_ | refine S.block ?_ | refine S.pop ?_ | refine S.skip ?_ | refine S.exit rfl ?_ | refine S.condT rfl ?_ | refine S.condF rfl ?_))
  refine S.fin (Fin.one rfl (RV.tmp rfl)) (fun w hs => ?_)
  exact ⟨rfl, hs⟩
theorem pfree_calls {w : World} {A H : List Atom} {bp bd n : Nat} {p : PgM} (hP : PagerAt bp bd n p A) (hs : Sat w (A ++ H)) :
    Calls Try.prog 20 [ptr bp].toArray w (fun e w' => e = .returned (.int .i64 (freeN p.used : Nat)) ∧ Sat w' (A ++ H)) := by
  cases hP with
  | @mk bs bm vd es c A E wf hS hm hd =>
  replace hs := hs.re (H' := A ++ (.cells bp 115 [.int .u64 p.gen, .int .i64 p.root, .int .u64 p.epoch, ptr bd, .int .i64 p.first, .int .i64 p.pages, ptr bs, .map (some bm), vd, .bool p.broken] :: .map bm es c :: (E ++ H))) (by intro a; simp only [List.count_append, List.count_cons, List.count_nil] <;> omega)
  refine enter Try.func20 rfl Try.ntmps20 rfl hs ?_
  (repeat (first | refine S.seq ?_ | refine S.region ?_ | refine L.nil ?_ | refine L.p (by first | exact o_assign rfl | exact o_move rfl | exact o_eq rfl rfl | exact o_ptrNil rfl rfl | exact o_nilNil rfl rfl | exact o_nil rfl | exact o_nilFn rfl | exact o_fld rfl | exact o_load rfl rfl | exact o_load rfl (by assumption)) rfl ?_ | refine S.block ?_ | refine S.pop ?_ | refine S.skip ?_ | refine S.exit rfl ?_ | refine S.condT rfl ?_ | refine S.condF rfl ?_))
  refine L.callR rfl (hc_func Try.func60 (by decide) rfl rfl) rfl (fun w hs => sfree_calls hS hs) ?_
  rintro e w' ⟨rfl, hs'⟩
  refine ⟨_, _, rfl, (by assumption), ?_⟩
  (repeat (first | refine S.seq ?_ | refine S.region ?_ | refine L.nil ?_ | refine L.p (by first | exact o_assign rfl | exact o_move rfl | exact o_eq rfl rfl | exact o_ptrNil rfl rfl | exact o_nilNil rfl rfl | exact o_nil rfl | exact o_nilFn rfl | exact o_fld rfl | exact o_load rfl rfl | exact o_load rfl (by assumption)) rfl ?_ | refine S.block ?_ | refine S.pop ?_ | refine S.skip ?_ | refine S.exit rfl ?_ | refine S.condT rfl ?_ | refine S.condF rfl ?_))
  refine S.fin (Fin.one rfl (RV.tmp rfl)) (fun w hs => ?_)
  exact ⟨rfl, hs.re (by intro a; simp only [List.count_append, List.count_cons, List.count_nil] <;> omega)⟩

theorem psettle_calls {w : World} {H : List Atom} {bp : Nat} {c0 c1 c2 c3 c4 c5 c6 c7 c8 c9 : Value} (hs : Sat w (.cells bp 115 [c0, c1, c2, c3, c4, c5, c6, c7, c8, c9] :: H)) :
    Calls Try.prog 56 [ptr bp].toArray w (fun e w' => ∃ bm, e = .returned (.tuple #[]) ∧ Sat w' (.cells bp 115 [c0, c1, c2, c3, c4, c5, c6, .map (some bm), .slice none 0 0, c9] :: .map bm [] 0 :: H)) := by
  refine enter Try.func56 rfl Try.ntmps56 rfl hs ?_
  (repeat (first | refine S.seq ?_ | refine S.region ?_ | refine L.nil ?_ | refine L.p (by first | exact o_move rfl | exact o_nil rfl | exact o_nilFn rfl | exact o_fld rfl) rfl ?_ | refine L.store rfl rfl (blt_iff.1 rfl) rfl ?_ | refine S.block ?_ | refine S.pop ?_ | refine S.skip ?_ | refine S.exit rfl ?_ | refine S.condT rfl ?_ | refine S.condF rfl ?_))
  refine L.makeMap rfl (fun bm => ?_)
  (repeat (first | refine S.seq ?_ | refine S.region ?_ | refine L.nil ?_ | refine L.p (by first | exact o_move rfl | exact o_nil rfl | exact o_nilFn rfl | exact o_fld rfl) rfl ?_ | refine L.store rfl rfl (blt_iff.1 rfl) rfl ?_ | refine S.block ?_ | refine S.pop ?_ | refine S.skip ?_ | refine S.exit rfl ?_ | refine S.condT rfl ?_ | refine S.condF rfl ?_))
  refine S.end (Fin.zero rfl) (fun w hs => ?_)
  exact ⟨bm, rfl, hs.re (by intro a; simp only [List.count_append, List.count_cons, List.count_nil] <;> omega)⟩

theorem puse_nil {w : World} {H : List Atom} {v : Value} (hs : Sat w H) : Calls Try.prog 31 [.pointer none, v].toArray w (fun e w' => e = .returned (.int .i64 1) ∧ Sat w' H) := by
  refine enter Try.func31 rfl Try.ntmps31 rfl hs ?_
  (repeat (first | refine S.seq ?_ | refine S.region ?_ | refine L.nil ?_ | refine L.p (by first | exact o_assign rfl | exact o_move rfl | exact o_eq rfl rfl | exact o_ptrNil rfl rfl | exact o_nilNil rfl rfl | exact o_nil rfl | exact o_nilFn rfl | exact o_fld rfl | exact o_load rfl rfl | exact o_load rfl (by assumption)) rfl ?_ | refine S.block ?_ | refine S.pop ?_ | refine S.skip ?_ | refine S.exit rfl ?_ | refine S.condT rfl ?_ | refine S.condF rfl ?_))
  refine S.fin (Fin.one rfl (RV.tmp rfl)) (fun w hs => ?_)
  exact ⟨rfl, hs⟩
theorem puse_calls {w : World} {A H : List Atom} {bp bd n : Nat} {p : PgM} {v : Value} {l : List Int} (hv : IntsIn H l v) (hl : l.length ≤ 1000000000) (hP : PagerAt bp bd n p A) (hs : Sat w (A ++ H)) :
    Calls Try.prog 31 [ptr bp, v].toArray w (fun e w' => e = .returned (.int .i64 (p.use l).2) ∧ ∃ A', PagerAt bp bd n (p.use l).1 A' ∧ Sat w' (A' ++ H)) := by
  cases hP with
  | @mk bs bm vd es c A E wf hS hm hd =>
  replace hs := hs.re (H' := A ++ (.cells bp 115 [.int .u64 p.gen, .int .i64 p.root, .int .u64 p.epoch, ptr bd, .int .i64 p.first, .int .i64 p.pages, ptr bs, .map (some bm), vd, .bool p.broken] :: .map bm es c :: (E ++ H))) (by intro a; simp only [List.count_append, List.count_cons, List.count_nil] <;> omega)
  have hul := wf.used
  refine enter Try.func31 rfl Try.ntmps31 rfl hs ?_
  (repeat (first | refine S.seq ?_ | refine S.region ?_ | refine L.nil ?_ | refine L.p (by first | exact o_assign rfl | exact o_move rfl | exact o_eq rfl rfl | exact o_ptrNil rfl rfl | exact o_nilNil rfl rfl | exact o_nil rfl | exact o_nilFn rfl | exact o_fld rfl | exact o_load rfl rfl | exact o_load rfl (by assumption)) rfl ?_ | refine S.block ?_ | refine S.pop ?_ | refine S.skip ?_ | refine S.exit rfl ?_ | refine S.condT rfl ?_ | refine S.condF rfl ?_))
  refine L.callR rfl (hc_func Try.func70 (by decide) rfl rfl) rfl (fun w hs => only_calls hS (hv.mono (by intro x hx; simp [hx])) hl hs) ?_
  rintro e w' ⟨A', rfl, hS', hs'⟩
  refine ⟨_, _, rfl, (by assumption), ?_⟩
  rw [hul] at hS' ⊢
  cases ho : onlyM l (List.replicate p.pages false) with
  | none =>
    rw [ho] at hS'
    have hu : p.use l = (p, 1) := by unfold PgM.use; rw [ho]
    (repeat (first | refine S.seq ?_ | refine S.region ?_ | refine L.nil ?_ | refine L.p (by first | exact o_assign rfl | exact o_move rfl | exact o_eq rfl rfl | exact o_ptrNil rfl rfl | exact o_nilNil rfl rfl | exact o_nil rfl | exact o_nilFn rfl | exact o_fld rfl | exact o_load rfl rfl | exact o_load rfl (by assumption)) rfl ?_ | refine S.block ?_ | refine S.pop ?_ | refine S.skip ?_ | refine S.exit rfl ?_ | refine S.condT rfl ?_ | refine S.condF rfl ?_))
    refine S.fin (Fin.one rfl (RV.tmp rfl)) (fun w hs => ?_)
    rw [hu]
    exact ⟨rfl, .cells bp 115 [.int .u64 p.gen, .int .i64 p.root, .int .u64 p.epoch, ptr bd, .int .i64 p.first, .int .i64 p.pages, ptr bs, .map (some bm), vd, .bool p.broken] :: .map bm es c :: (A' ++ E), .mk wf hS' hm hd, hs.re (by intro a; simp only [List.count_append, List.count_cons, List.count_nil] <;> omega)⟩
  | some t =>
    rw [ho] at hS'
    have ht := onlyM_len ho
    have hu : p.use l = ({ p.settle with used := t }, 0) := by unfold PgM.use; rw [ho]
    (repeat (first | refine S.seq ?_ | refine S.region ?_ | refine L.nil ?_ | refine L.p (by first | exact o_assign rfl | exact o_move rfl | exact o_eq rfl rfl | exact o_ptrNil rfl rfl | exact o_nilNil rfl rfl | exact o_nil rfl | exact o_nilFn rfl | exact o_fld rfl | exact o_load rfl rfl | exact o_load rfl (by assumption)) rfl ?_ | refine S.block ?_ | refine S.pop ?_ | refine S.skip ?_ | refine S.exit rfl ?_ | refine S.condT rfl ?_ | refine S.condF rfl ?_))
    refine L.callR rfl (hc_func Try.func56 (by decide) rfl rfl) rfl (fun w hs => psettle_calls (H := .map bm es c :: (A' ++ (E ++ H))) (hs.re (H' := .cells bp 115 [.int .u64 p.gen, .int .i64 p.root, .int .u64 p.epoch, ptr bd, .int .i64 p.first, .int .i64 p.pages, ptr bs, .map (some bm), vd, .bool p.broken] :: .map bm es c :: (A' ++ (E ++ H))) (by intro a; simp only [List.count_append, List.count_cons, List.count_nil] <;> omega))) ?_
    rintro e w2 ⟨bm2, rfl, hs2⟩
    refine ⟨_, _, rfl, (by assumption), ?_⟩
    (repeat (first | refine S.seq ?_ | refine S.region ?_ | refine L.nil ?_ | refine L.p (by first | exact o_assign rfl | exact o_move rfl | exact o_eq rfl rfl | exact o_ptrNil rfl rfl | exact o_nilNil rfl rfl | exact o_nil rfl | exact o_nilFn rfl | exact o_fld rfl | exact o_load rfl rfl | exact o_load rfl (by assumption)) rfl ?_ | refine S.block ?_ | refine S.pop ?_ | refine S.skip ?_ | refine S.exit rfl ?_ | refine S.condT rfl ?_ | refine S.condF rfl ?_))
    refine S.fin (Fin.one rfl (RV.tmp rfl)) (fun w hs => ?_)
    rw [hu]
    refine ⟨rfl, .cells bp 115 [.int .u64 p.gen, .int .i64 p.root, .int .u64 p.epoch, ptr bd, .int .i64 p.first, .int .i64 p.pages, ptr bs, .map (some bm2), .slice none 0 0, .bool p.broken] :: .map bm2 [] 0 :: (A' ++ []), .mk (giveM_wf wf.settle (by simpa [PgM.settle] using ht)) hS' rfl .nil, hs.less (by intro a; simp only [List.count_append, List.count_cons, List.count_nil, List.cons_append]; omega)⟩

theorem pread_nil {w : World} {H : List Atom} {i : Int} (hs : Sat w H) : Calls Try.prog 25 [.pointer none, .int .i64 i].toArray w (fun e w' => e = .returned (.tuple #[.slice none 0 0, .int .i64 1]) ∧ Sat w' H) := by
  refine enter Try.func25 rfl Try.ntmps25 rfl hs ?_
  (repeat (first | refine S.seq ?_ | refine S.region ?_ | refine L.nil ?_ | refine L.p (by first | exact o_assign rfl | exact o_move rfl | exact o_eq rfl rfl | exact o_ptrNil rfl rfl | exact o_nilNil rfl rfl | exact o_nil rfl | exact o_nilFn rfl | exact o_fld rfl | exact o_load rfl rfl | exact o_load rfl (by assumption) | exact o_notT rfl | exact o_notF rfl | exact o_notD rfl | exact o_notB rfl | exact o_pickT rfl rfl | exact o_pickF rfl rfl | exact o_add rfl rfl (by unfold I64; omega) | exact o_ext rfl rfl) rfl ?_ | refine L.gYes rfl rfl rfl ?_ | refine L.gNo rfl rfl rfl rfl rfl ?_ | refine L.gUnd rfl rfl rfl rfl ?_ | refine S.block ?_ | refine S.pop ?_ | refine S.skip ?_ | refine S.exit rfl ?_ | refine S.condT rfl ?_ | refine S.condF rfl ?_))
  refine S.fin (Fin.two rfl (RV.tmp rfl) (RV.tmp rfl)) (fun w hs => ?_)
  exact ⟨rfl, hs⟩
theorem pread_calls {w : World} {A Ad H : List Atom} {bp bd n : Nat} {p : PgM} {D : DiskM} {i : Int} (hn : D.n = n) (hP : PagerAt bp bd n p A) (hD : DiskAt bd D Ad) (hs : Sat w (A ++ (Ad ++ H))) :
    Calls Try.prog 25 [ptr bp, .int .i64 i].toArray w (fun e w' => ∃ v B, e = .returned (.tuple #[v, .int .i64 (p.read D i).2]) ∧ BytesIn B v (p.read D i).1 ∧ Sat w' (B ++ (A ++ (Ad ++ H)))) := by
  have hn2 := hD.wf.n2
  cases hP with
  | @mk bs bm vd es c A E wf hS hm hd =>
  replace hs := hs.re (H' := A ++ (.cells bp 115 [.int .u64 p.gen, .int .i64 p.root, .int .u64 p.epoch, ptr bd, .int .i64 p.first, .int .i64 p.pages, ptr bs, .map (some bm), vd, .bool p.broken] :: .map bm es c :: (E ++ (Ad ++ H)))) (by intro a; simp only [List.count_append, List.count_cons, List.count_nil] <;> omega)
  have hul := wf.used
  have hfit := wf.fit
  refine enter Try.func25 rfl Try.ntmps25 rfl hs ?_
  (repeat (first | refine S.seq ?_ | refine S.region ?_ | refine L.nil ?_ | refine L.p (by first | exact o_assign rfl | exact o_move rfl | exact o_eq rfl rfl | exact o_ptrNil rfl rfl | exact o_nilNil rfl rfl | exact o_nil rfl | exact o_nilFn rfl | exact o_fld rfl | exact o_load rfl rfl | exact o_load rfl (by assumption) | exact o_notT rfl | exact o_notF rfl | exact o_notD rfl | exact o_notB rfl | exact o_pickT rfl rfl | exact o_pickF rfl rfl | exact o_add rfl rfl (by unfold I64; omega) | exact o_ext rfl rfl) rfl ?_ | refine L.gYes rfl rfl rfl ?_ | refine L.gNo rfl rfl rfl rfl rfl ?_ | refine L.gUnd rfl rfl rfl rfl ?_ | refine S.block ?_ | refine S.pop ?_ | refine S.skip ?_ | refine S.exit rfl ?_ | refine S.condT rfl ?_ | refine S.condF rfl ?_))
  refine L.callR rfl (hc_func Try.func62 (by decide) rfl rfl) rfl (fun w hs => staken_calls hS hs) ?_
  rintro e w' ⟨rfl, hs'⟩
  refine ⟨_, _, rfl, (by assumption), ?_⟩
  by_cases ht : 0 ≤ i ∧ i < p.used.length ∧ p.used.getD i.toNat false = true
  · have hr : p.read D i = D.read (p.first + 2 + i) := by unfold PgM.read takenM; rw [decide_eq_true ht]; rfl
    rw [decide_eq_true ht]
    (repeat (first | refine S.seq ?_ | refine S.region ?_ | refine L.nil ?_ | refine L.p (by first | exact o_assign rfl | exact o_move rfl | exact o_eq rfl rfl | exact o_ptrNil rfl rfl | exact o_nilNil rfl rfl | exact o_nil rfl | exact o_nilFn rfl | exact o_fld rfl | exact o_load rfl rfl | exact o_load rfl (by assumption) | exact o_notT rfl | exact o_notF rfl | exact o_notD rfl | exact o_notB rfl | exact o_pickT rfl rfl | exact o_pickF rfl rfl | exact o_add rfl rfl (by unfold I64; omega) | exact o_ext rfl rfl) rfl ?_ | refine L.gYes rfl rfl rfl ?_ | refine L.gNo rfl rfl rfl rfl rfl ?_ | refine L.gUnd rfl rfl rfl rfl ?_ | refine S.block ?_ | refine S.pop ?_ | refine S.skip ?_ | refine S.exit rfl ?_ | refine S.condT rfl ?_ | refine S.condF rfl ?_))
    refine S.anyH (id := 3) ([.cells bp 115 [.int .u64 p.gen, .int .i64 p.root, .int .u64 p.epoch, ptr bd, .int .i64 p.first, .int .i64 p.pages, ptr bs, .map (some bm), vd, .bool p.broken]]) (by kernel_rfl) ?_
    refine BH.take 0 rfl (by kernel_rfl) (by decide +kernel) (by decide +kernel) rfl (o_move rfl) rfl (by intro a; simp only [List.count_append, List.count_cons, List.count_nil] <;> omega) ?_
    (first | refine BH.take 1 rfl (by kernel_rfl) (by decide +kernel) (by decide +kernel) rfl (o_nil rfl) rfl (by intro a; simp only [List.count_append, List.count_cons, List.count_nil] <;> omega) ?_ | refine BH.take 1 rfl (by kernel_rfl) (by decide +kernel) (by decide +kernel) rfl (o_nilFn rfl) rfl (by intro a; simp only [List.count_append, List.count_cons, List.count_nil] <;> omega) ?_)
    refine BH.take 2 rfl (by kernel_rfl) (by decide +kernel) (by decide +kernel) rfl (o_fld rfl) rfl (by intro a; simp only [List.count_append, List.count_cons, List.count_nil] <;> omega) ?_
    (first | refine BH.take 3 rfl (by kernel_rfl) (by decide +kernel) (by decide +kernel) rfl (o_load rfl rfl) rfl (by intro a; simp only [List.count_append, List.count_cons, List.count_nil] <;> omega) ?_ | refine BH.take 3 rfl (by kernel_rfl) (by decide +kernel) (by decide +kernel) rfl (o_load rfl (by assumption)) rfl (by intro a; simp only [List.count_append, List.count_cons, List.count_nil] <;> omega) ?_)
    refine BH.take 4 rfl (by kernel_rfl) (by decide +kernel) (by decide +kernel) rfl (o_move rfl) rfl (by intro a; simp only [List.count_append, List.count_cons, List.count_nil] <;> omega) ?_
    (first | refine BH.take 5 rfl (by kernel_rfl) (by decide +kernel) (by decide +kernel) rfl (o_nil rfl) rfl (by intro a; simp only [List.count_append, List.count_cons, List.count_nil] <;> omega) ?_ | refine BH.take 5 rfl (by kernel_rfl) (by decide +kernel) (by decide +kernel) rfl (o_nilFn rfl) rfl (by intro a; simp only [List.count_append, List.count_cons, List.count_nil] <;> omega) ?_)
    refine BH.take 6 rfl (by kernel_rfl) (by decide +kernel) (by decide +kernel) rfl (o_fld rfl) rfl (by intro a; simp only [List.count_append, List.count_cons, List.count_nil] <;> omega) ?_
    (first | refine BH.take 7 rfl (by kernel_rfl) (by decide +kernel) (by decide +kernel) rfl (o_load rfl rfl) rfl (by intro a; simp only [List.count_append, List.count_cons, List.count_nil] <;> omega) ?_ | refine BH.take 7 rfl (by kernel_rfl) (by decide +kernel) (by decide +kernel) rfl (o_load rfl (by assumption)) rfl (by intro a; simp only [List.count_append, List.count_cons, List.count_nil] <;> omega) ?_)
    refine BH.take 8 rfl (by kernel_rfl) (by decide +kernel) (by decide +kernel) rfl (o_add rfl rfl (by unfold I64; omega)) rfl (by intro a; simp only [List.count_append, List.count_cons, List.count_nil] <;> omega) ?_
    refine BH.take 9 rfl (by kernel_rfl) (by decide +kernel) (by decide +kernel) rfl (o_move rfl) rfl (by intro a; simp only [List.count_append, List.count_cons, List.count_nil] <;> omega) ?_
    refine BH.take 10 rfl (by kernel_rfl) (by decide +kernel) (by decide +kernel) rfl (o_add rfl rfl (by unfold I64; omega)) rfl (by intro a; simp only [List.count_append, List.count_cons, List.count_nil] <;> omega) ?_
    refine BH.branch [11] (by kernel_rfl) (by simp) ?_
    refine BrH.cons rfl rfl ?_ BrH.nil
    refine L.callR rfl (hc_func Try.func53 (by decide) rfl rfl) rfl (fun w hs => read_calls (H := A ++ (.cells bp 115 [.int .u64 p.gen, .int .i64 p.root, .int .u64 p.epoch, ptr bd, .int .i64 p.first, .int .i64 p.pages, ptr bs, .map (some bm), vd, .bool p.broken] :: .map bm es c :: (E ++ H))) hD (hs.re (by intro a; simp only [List.count_append, List.count_cons, List.count_nil] <;> omega))) ?_
    rintro e w' ⟨v, B, rfl, hB, hs'⟩
    refine ⟨_, _, rfl, (by assumption), ?_⟩
    refine L.nil ?_
    refine BH.go (by intro a; simp only [List.count_append, List.count_cons, List.count_nil] <;> omega) ?_
    refine BH.take 12 rfl (by kernel_rfl) (by decide +kernel) (by decide +kernel) rfl (o_ext rfl rfl) rfl (by intro a; simp only [List.count_append, List.count_cons, List.count_nil] <;> omega) ?_
    refine BH.take 13 rfl (by kernel_rfl) (by decide +kernel) (by decide +kernel) rfl (o_ext rfl rfl) rfl (by intro a; simp only [List.count_append, List.count_cons, List.count_nil] <;> omega) ?_
    refine BH.take 14 rfl (by kernel_rfl) (by decide +kernel) (by decide +kernel) rfl (o_assign rfl) rfl (by intro a; simp only [List.count_append, List.count_cons, List.count_nil] <;> omega) ?_
    refine BH.take 15 rfl (by kernel_rfl) (by decide +kernel) (by decide +kernel) rfl (o_assign rfl) rfl (by intro a; simp only [List.count_append, List.count_cons, List.count_nil] <;> omega) ?_
    refine BH.done (by decide +kernel) ?_
    (repeat (first | refine S.seq ?_ | refine S.region ?_ | refine L.nil ?_ | refine L.p (by first | exact o_assign rfl | exact o_move rfl | exact o_eq rfl rfl | exact o_ptrNil rfl rfl | exact o_nilNil rfl rfl | exact o_nil rfl | exact o_nilFn rfl | exact o_fld rfl | exact o_load rfl rfl | exact o_load rfl (by assumption) | exact o_notT rfl | exact o_notF rfl | exact o_notD rfl | exact o_notB rfl | exact o_pickT rfl rfl | exact o_pickF rfl rfl | exact o_add rfl rfl (by unfold I64; omega) | exact o_ext rfl rfl) rfl ?_ | refine L.gYes rfl rfl rfl ?_ | refine L.gNo rfl rfl rfl rfl rfl ?_ | refine L.gUnd rfl rfl rfl rfl ?_ | refine S.block ?_ | refine S.pop ?_ | refine S.skip ?_ | refine S.exit rfl ?_ | refine S.condT rfl ?_ | refine S.condF rfl ?_))
    refine S.fin (Fin.two rfl (RV.tmp rfl) (RV.tmp rfl)) (fun w hs => ?_)
    rw [hr]
    exact ⟨v, B, rfl, hB, hs.re (by intro a; simp only [List.count_append, List.count_cons, List.count_nil] <;> omega)⟩
  · have hr : p.read D i = ([], 1) := by unfold PgM.read takenM; rw [decide_eq_false ht]; rfl
    rw [decide_eq_false ht]
    (repeat (first | refine S.seq ?_ | refine S.region ?_ | refine L.nil ?_ | refine L.p (by first | exact o_assign rfl | exact o_move rfl | exact o_eq rfl rfl | exact o_ptrNil rfl rfl | exact o_nilNil rfl rfl | exact o_nil rfl | exact o_nilFn rfl | exact o_fld rfl | exact o_load rfl rfl | exact o_load rfl (by assumption) | exact o_notT rfl | exact o_notF rfl | exact o_notD rfl | exact o_notB rfl | exact o_pickT rfl rfl | exact o_pickF rfl rfl | exact o_add rfl rfl (by unfold I64; omega) | exact o_ext rfl rfl) rfl ?_ | refine L.gYes rfl rfl rfl ?_ | refine L.gNo rfl rfl rfl rfl rfl ?_ | refine L.gUnd rfl rfl rfl rfl ?_ | refine S.block ?_ | refine S.pop ?_ | refine S.skip ?_ | refine S.exit rfl ?_ | refine S.condT rfl ?_ | refine S.condF rfl ?_))
    refine S.fin (Fin.two rfl (RV.tmp rfl) (RV.tmp rfl)) (fun w hs => ?_)
    rw [hr]
    exact ⟨_, [], rfl, .none, hs.re (by intro a; simp only [List.count_append, List.count_cons, List.count_nil] <;> omega)⟩

theorem ptake_nil {w : World} {H : List Atom} (hs : Sat w H) : Calls Try.prog 28 [.pointer none].toArray w (fun e w' => e = .returned (.tuple #[.int .i64 0, .int .i64 1]) ∧ Sat w' H) := by
  refine enter Try.func28 rfl Try.ntmps28 rfl hs ?_
  (repeat (first | refine S.seq ?_ | refine S.region ?_ | refine L.nil ?_ | refine L.p (by first | exact o_assign rfl | exact o_move rfl | exact o_eq rfl rfl | exact o_ptrNil rfl rfl | exact o_nilNil rfl rfl | exact o_nil rfl | exact o_nilFn rfl | exact o_fld rfl | exact o_load rfl rfl | exact o_load rfl (by assumption) | exact o_ext rfl rfl) rfl ?_ | refine S.block ?_ | refine S.pop ?_ | refine S.skip ?_ | refine S.exit rfl ?_ | refine S.condT rfl ?_ | refine S.condF rfl ?_))
  refine S.fin (Fin.two rfl (RV.tmp rfl) (RV.tmp rfl)) (fun w hs => ?_)
  exact ⟨rfl, hs⟩
theorem ptake_calls {w : World} {A H : List Atom} {bp bd n : Nat} {p : PgM} (hP : PagerAt bp bd n p A) (hs : Sat w (A ++ H)) :
    Calls Try.prog 28 [ptr bp].toArray w (fun e w' => e = .returned (.tuple #[.int .i64 p.take.2.1, .int .i64 p.take.2.2]) ∧ ∃ A', PagerAt bp bd n p.take.1 A' ∧ Sat w' (A' ++ H)) := by
  cases hP with
  | @mk bs bm vd es c A E wf hS hm hd =>
  replace hs := hs.re (H' := A ++ (.cells bp 115 [.int .u64 p.gen, .int .i64 p.root, .int .u64 p.epoch, ptr bd, .int .i64 p.first, .int .i64 p.pages, ptr bs, .map (some bm), vd, .bool p.broken] :: .map bm es c :: (E ++ H))) (by intro a; simp only [List.count_append, List.count_cons, List.count_nil] <;> omega)
  refine enter Try.func28 rfl Try.ntmps28 rfl hs ?_
  (repeat (first | refine S.seq ?_ | refine S.region ?_ | refine L.nil ?_ | refine L.p (by first | exact o_assign rfl | exact o_move rfl | exact o_eq rfl rfl | exact o_ptrNil rfl rfl | exact o_nilNil rfl rfl | exact o_nil rfl | exact o_nilFn rfl | exact o_fld rfl | exact o_load rfl rfl | exact o_load rfl (by assumption) | exact o_ext rfl rfl) rfl ?_ | refine S.block ?_ | refine S.pop ?_ | refine S.skip ?_ | refine S.exit rfl ?_ | refine S.condT rfl ?_ | refine S.condF rfl ?_))
  by_cases hf : freeN p.used = 0
  · have ht : p.take = (p, 0, 3) := by unfold PgM.take; rw [leastFree_none hf]
    refine L.callR rfl (hc_func Try.func69 (by decide) rfl rfl) rfl (fun w hs => take_full hf hS hs) ?_
    rintro e w' ⟨rfl, hs'⟩
    refine ⟨_, _, rfl, (by assumption), ?_⟩
    (repeat (first | refine S.seq ?_ | refine S.region ?_ | refine L.nil ?_ | refine L.p (by first | exact o_assign rfl | exact o_move rfl | exact o_eq rfl rfl | exact o_ptrNil rfl rfl | exact o_nilNil rfl rfl | exact o_nil rfl | exact o_nilFn rfl | exact o_fld rfl | exact o_load rfl rfl | exact o_load rfl (by assumption) | exact o_ext rfl rfl) rfl ?_ | refine S.block ?_ | refine S.pop ?_ | refine S.skip ?_ | refine S.exit rfl ?_ | refine S.condT rfl ?_ | refine S.condF rfl ?_))
    refine S.fin (Fin.two rfl (RV.tmp rfl) (RV.tmp rfl)) (fun w hs => ?_)
    rw [ht]
    exact ⟨rfl, .cells bp 115 [.int .u64 p.gen, .int .i64 p.root, .int .u64 p.epoch, ptr bd, .int .i64 p.first, .int .i64 p.pages, ptr bs, .map (some bm), vd, .bool p.broken] :: .map bm es c :: (A ++ E), .mk wf hS hm hd, hs.re (by intro a; simp only [List.count_append, List.count_cons, List.count_nil] <;> omega)⟩
  · refine L.callR rfl (hc_func Try.func69 (by decide) rfl rfl) rfl (fun w hs => take_calls (by omega) hS hs) ?_
    rintro e w' ⟨x, A', rfl, hx1, hx2, hx3, hS', hs'⟩
    refine ⟨_, _, rfl, (by assumption), ?_⟩
    have ht : p.take = ({ p with used := p.used.set x true, fresh := if (x : Int) ∈ p.fresh then p.fresh else p.fresh ++ [(x : Int)] }, (x : Int), 0) := by unfold PgM.take; rw [leastFree_of hx1 hx2 hx3]
    (repeat (first | refine S.seq ?_ | refine S.region ?_ | refine L.nil ?_ | refine L.p (by first | exact o_assign rfl | exact o_move rfl | exact o_eq rfl rfl | exact o_ptrNil rfl rfl | exact o_nilNil rfl rfl | exact o_nil rfl | exact o_nilFn rfl | exact o_fld rfl | exact o_load rfl rfl | exact o_load rfl (by assumption) | exact o_ext rfl rfl) rfl ?_ | refine S.block ?_ | refine S.pop ?_ | refine S.skip ?_ | refine S.exit rfl ?_ | refine S.condT rfl ?_ | refine S.condF rfl ?_))
    refine L.mapSet rfl rfl rfl hm (fun es' c' hm' => ?_)
    (repeat (first | refine S.seq ?_ | refine S.region ?_ | refine L.nil ?_ | refine L.p (by first | exact o_assign rfl | exact o_move rfl | exact o_eq rfl rfl | exact o_ptrNil rfl rfl | exact o_nilNil rfl rfl | exact o_nil rfl | exact o_nilFn rfl | exact o_fld rfl | exact o_load rfl rfl | exact o_load rfl (by assumption) | exact o_ext rfl rfl) rfl ?_ | refine S.block ?_ | refine S.pop ?_ | refine S.skip ?_ | refine S.exit rfl ?_ | refine S.condT rfl ?_ | refine S.condF rfl ?_))
    refine S.fin (Fin.two rfl (RV.tmp rfl) (RV.tmp rfl)) (fun w hs => ?_)
    rw [ht]
    refine ⟨rfl, .cells bp 115 [.int .u64 p.gen, .int .i64 p.root, .int .u64 p.epoch, ptr bd, .int .i64 p.first, .int .i64 p.pages, ptr bs, .map (some bm), vd, .bool p.broken] :: .map bm es' c' :: (A' ++ E), ?_, hs.re (by intro a; simp only [List.count_append, List.count_cons, List.count_nil] <;> omega)⟩
    refine .mk ⟨wf.gen, wf.root, wf.epoch, wf.pages, wf.fit, by simpa using wf.used, wf.dnd, wf.drg, ?_⟩ hS' hm' hd
    show (if (x : Int) ∈ p.fresh then p.fresh else p.fresh ++ [(x : Int)]).Nodup
    split
    · exact wf.fnd
    · rename_i hx
      rw [List.nodup_append]
      exact ⟨wf.fnd, by simp, fun a ha b hb => by simp at hb; subst hb; exact fun e => hx (e ▸ ha)⟩

theorem pfresh_calls {w : World} {A H : List Atom} {bp bd n : Nat} {p : PgM} {i : Int} (hP : PagerAt bp bd n p A) (hs : Sat w (A ++ H)) :
    Calls Try.prog 68 [ptr bp, .int .i64 i].toArray w (fun e w' => e = .returned (.bool (decide (i ∈ p.fresh))) ∧ Sat w' (A ++ H)) := by
  cases hP with
  | @mk bs bm vd es c A E wf hS hm hd =>
  replace hs := hs.re (H' := A ++ (.cells bp 115 [.int .u64 p.gen, .int .i64 p.root, .int .u64 p.epoch, ptr bd, .int .i64 p.first, .int .i64 p.pages, ptr bs, .map (some bm), vd, .bool p.broken] :: .map bm es c :: (E ++ H))) (by intro a; simp only [List.count_append, List.count_cons, List.count_nil] <;> omega)
  refine enter Try.func68 rfl Try.ntmps68 rfl hs ?_
  (repeat (first | refine S.seq ?_ | refine S.region ?_ | refine L.nil ?_ | refine L.p (by first | exact o_assign rfl | exact o_move rfl | exact o_nil rfl | exact o_nilFn rfl | exact o_fld rfl | exact o_load rfl rfl | exact o_load rfl (by assumption) | exact o_ext rfl rfl) rfl ?_ | refine S.block ?_ | refine S.pop ?_ | refine S.skip ?_ | refine S.exit rfl ?_ | refine S.condT rfl ?_ | refine S.condF rfl ?_))
  refine L.lookup rfl rfl (c := c) (es := es) (by simp) hm rfl (fun v => ?_)
  (repeat (first | refine S.seq ?_ | refine S.region ?_ | refine L.nil ?_ | refine L.p (by first | exact o_assign rfl | exact o_move rfl | exact o_nil rfl | exact o_nilFn rfl | exact o_fld rfl | exact o_load rfl rfl | exact o_load rfl (by assumption) | exact o_ext rfl rfl) rfl ?_ | refine S.block ?_ | refine S.pop ?_ | refine S.skip ?_ | refine S.exit rfl ?_ | refine S.condT rfl ?_ | refine S.condF rfl ?_))
  refine S.fin (Fin.one rfl (RV.tmp rfl)) (fun w hs => ?_)
  exact ⟨rfl, hs.re (by intro a; simp only [List.count_append, List.count_cons, List.count_nil] <;> omega)⟩

theorem pput_calls {w : World} {A Ad H : List Atom} {bp bd n : Nat} {p : PgM} {D : DiskM} {i : Int} {v : Value} {b : List UInt8} (hpb : D.pend.length ≤ 900000) (hi : -1000000 ≤ i ∧ i ≤ 1000000) (hn : D.n = n) (hb : BytesIn H v b)
    (hP : PagerAt bp bd n p A) (hD : DiskAt bd D Ad) (hs : Sat w (A ++ (Ad ++ H))) :
    Calls Try.prog 65 [ptr bp, .int .i64 i, v].toArray w (fun e w' => e = .returned (.int .i64 (p.put D i b).2.2) ∧ ∃ A' Ad', PagerAt bp bd n (p.put D i b).1 A' ∧ DiskAt bd (p.put D i b).2.1 Ad' ∧ Sat w' (A' ++ (Ad' ++ H))) := by
  have hn2 := hD.wf.n2
  cases hP with
  | @mk bs bm vd es c A E wf hS hm hd =>
  replace hs := hs.re (H' := A ++ (.cells bp 115 [.int .u64 p.gen, .int .i64 p.root, .int .u64 p.epoch, ptr bd, .int .i64 p.first, .int .i64 p.pages, ptr bs, .map (some bm), vd, .bool p.broken] :: .map bm es c :: (E ++ (Ad ++ H)))) (by intro a; simp only [List.count_append, List.count_cons, List.count_nil] <;> omega)
  have hfit := wf.fit
  refine enter Try.func65 rfl Try.ntmps65 rfl hs ?_
  (repeat (first | refine S.seq ?_ | refine S.region ?_ | refine L.nil ?_ | refine L.p (by first | exact o_assign rfl | exact o_move rfl | exact o_nil rfl | exact o_nilFn rfl | exact o_fld rfl | exact o_load rfl rfl | exact o_load rfl (by assumption) | exact o_add rfl rfl (by unfold I64; omega) | exact o_ne rfl rfl | exact o_ptrNilN rfl rfl | exact o_nilNilN rfl rfl) rfl ?_ | refine L.store rfl rfl (blt_iff.1 rfl) rfl ?_ | refine S.block ?_ | refine S.pop ?_ | refine S.skip ?_ | refine S.exit rfl ?_ | refine S.condT rfl ?_ | refine S.condF rfl ?_))
  refine S.anyH (id := 1) ([.cells bp 115 [.int .u64 p.gen, .int .i64 p.root, .int .u64 p.epoch, ptr bd, .int .i64 p.first, .int .i64 p.pages, ptr bs, .map (some bm), vd, .bool p.broken]]) (by kernel_rfl) ?_
  refine BH.take 0 rfl (by kernel_rfl) (by decide +kernel) (by decide +kernel) rfl (o_move rfl) rfl (by intro a; simp only [List.count_append, List.count_cons, List.count_nil] <;> omega) ?_
  (first | refine BH.take 1 rfl (by kernel_rfl) (by decide +kernel) (by decide +kernel) rfl (o_nil rfl) rfl (by intro a; simp only [List.count_append, List.count_cons, List.count_nil] <;> omega) ?_ | refine BH.take 1 rfl (by kernel_rfl) (by decide +kernel) (by decide +kernel) rfl (o_nilFn rfl) rfl (by intro a; simp only [List.count_append, List.count_cons, List.count_nil] <;> omega) ?_)
  refine BH.take 2 rfl (by kernel_rfl) (by decide +kernel) (by decide +kernel) rfl (o_fld rfl) rfl (by intro a; simp only [List.count_append, List.count_cons, List.count_nil] <;> omega) ?_
  (first | refine BH.take 3 rfl (by kernel_rfl) (by decide +kernel) (by decide +kernel) rfl (o_load rfl rfl) rfl (by intro a; simp only [List.count_append, List.count_cons, List.count_nil] <;> omega) ?_ | refine BH.take 3 rfl (by kernel_rfl) (by decide +kernel) (by decide +kernel) rfl (o_load rfl (by assumption)) rfl (by intro a; simp only [List.count_append, List.count_cons, List.count_nil] <;> omega) ?_)
  refine BH.take 4 rfl (by kernel_rfl) (by decide +kernel) (by decide +kernel) rfl (o_move rfl) rfl (by intro a; simp only [List.count_append, List.count_cons, List.count_nil] <;> omega) ?_
  (first | refine BH.take 5 rfl (by kernel_rfl) (by decide +kernel) (by decide +kernel) rfl (o_nil rfl) rfl (by intro a; simp only [List.count_append, List.count_cons, List.count_nil] <;> omega) ?_ | refine BH.take 5 rfl (by kernel_rfl) (by decide +kernel) (by decide +kernel) rfl (o_nilFn rfl) rfl (by intro a; simp only [List.count_append, List.count_cons, List.count_nil] <;> omega) ?_)
  refine BH.take 6 rfl (by kernel_rfl) (by decide +kernel) (by decide +kernel) rfl (o_fld rfl) rfl (by intro a; simp only [List.count_append, List.count_cons, List.count_nil] <;> omega) ?_
  (first | refine BH.take 7 rfl (by kernel_rfl) (by decide +kernel) (by decide +kernel) rfl (o_load rfl rfl) rfl (by intro a; simp only [List.count_append, List.count_cons, List.count_nil] <;> omega) ?_ | refine BH.take 7 rfl (by kernel_rfl) (by decide +kernel) (by decide +kernel) rfl (o_load rfl (by assumption)) rfl (by intro a; simp only [List.count_append, List.count_cons, List.count_nil] <;> omega) ?_)
  refine BH.take 8 rfl (by kernel_rfl) (by decide +kernel) (by decide +kernel) rfl (o_move rfl) rfl (by intro a; simp only [List.count_append, List.count_cons, List.count_nil] <;> omega) ?_
  refine BH.take 9 rfl (by kernel_rfl) (by decide +kernel) (by decide +kernel) rfl (o_add rfl rfl (by unfold I64; omega)) rfl (by intro a; simp only [List.count_append, List.count_cons, List.count_nil] <;> omega) ?_
  refine BH.take 10 rfl (by kernel_rfl) (by decide +kernel) (by decide +kernel) rfl (o_move rfl) rfl (by intro a; simp only [List.count_append, List.count_cons, List.count_nil] <;> omega) ?_
  refine BH.branch [11] (by kernel_rfl) (by simp) ?_
  refine BrH.cons rfl rfl ?_ BrH.nil
  refine L.callR rfl (hc_func Try.func12 (by decide) rfl rfl) rfl (fun w hs => write_calls (H := A ++ (.cells bp 115 [.int .u64 p.gen, .int .i64 p.root, .int .u64 p.epoch, ptr bd, .int .i64 p.first, .int .i64 p.pages, ptr bs, .map (some bm), vd, .bool p.broken] :: .map bm es c :: (E ++ H))) hpb (hb.mono (by intro x hx; simp [hx])) hD (hs.re (by intro a; simp only [List.count_append, List.count_cons, List.count_nil] <;> omega))) ?_
  rintro e w' ⟨rfl, Ad', hD', hs'⟩
  refine ⟨_, _, rfl, (by assumption), ?_⟩
  refine L.nil ?_
  refine BH.go (by intro a; simp only [List.count_append, List.count_cons, List.count_nil] <;> omega) ?_
  refine BH.take 12 rfl (by kernel_rfl) (by decide +kernel) (by decide +kernel) rfl (o_assign rfl) rfl (by intro a; simp only [List.count_append, List.count_cons, List.count_nil] <;> omega) ?_
  refine BH.done (by decide +kernel) ?_
  (repeat (first | refine S.seq ?_ | refine S.region ?_ | refine L.nil ?_ | refine L.p (by first | exact o_assign rfl | exact o_move rfl | exact o_nil rfl | exact o_nilFn rfl | exact o_fld rfl | exact o_load rfl rfl | exact o_load rfl (by assumption) | exact o_add rfl rfl (by unfold I64; omega) | exact o_ne rfl rfl | exact o_ptrNilN rfl rfl | exact o_nilNilN rfl rfl) rfl ?_ | refine L.store rfl rfl (blt_iff.1 rfl) rfl ?_ | refine S.block ?_ | refine S.pop ?_ | refine S.skip ?_ | refine S.exit rfl ?_ | refine S.condT rfl ?_ | refine S.condF rfl ?_))
  refine S.fin (Fin.one rfl (RV.tmp rfl)) (fun w hs => ?_)
  have hs2 : Sat w (Ad' ++ (A ++ (.cells bp 115 [.int .u64 p.gen, .int .i64 p.root, .int .u64 p.epoch, ptr bd, .int .i64 p.first, .int .i64 p.pages, ptr bs, .map (some bm), vd, .bool (decide ((D.write (p.first + i) b).2 ≠ 0))] :: .map bm es c :: (E ++ H)))) := hs
  exact ⟨rfl, .cells bp 115 [.int .u64 p.gen, .int .i64 p.root, .int .u64 p.epoch, ptr bd, .int .i64 p.first, .int .i64 p.pages, ptr bs, .map (some bm), vd, .bool (decide ((D.write (p.first + i) b).2 ≠ 0))] :: .map bm es c :: (A ++ E), Ad', .mk (wf.broken _) hS hm hd, hD', hs2.re (by intro a; simp only [List.count_append, List.count_cons, List.count_nil] <;> omega)⟩

end Go.Proofs.Ytlecgoebbjnnmaa
