/- The keeper's functions: does a pager hold a state? -/
import Derived.Test.YtlecgoebbjnnmaaKeeps3
set_option linter.unusedVariables false
set_option linter.unusedSimpArgs false
set_option linter.unusedSectionVars false
set_option linter.constructorNameAsVariable false
set_option maxRecDepth 100000
set_option maxHeartbeats 4000000
namespace Go.Proofs.Ytlecgoebbjnnmaa
open Go
variable [Ref]

/-- another number: it does not -/
theorem holds_no {w : World} {A Ad H : List Atom} {bp bd : Nat} {p : PgM} {s : SnapM} {vp vb : Value} (hg : p.gen ≠ s.gen)
    (hP : PagerAt bp bd 15 p A) (hs : Sat w (A ++ (Ad ++ H))) :
    Calls Try.prog 73 [.agg [.int .u64 s.gen, .int .i64 s.root, .int .u64 s.epoch, vp, vb].toArray, ptr bp].toArray w (fun e w' => e = .returned (.bool false) ∧ Sat w' (A ++ (Ad ++ H))) := by
  refine enter Try.func73 rfl Try.ntmps73 rfl hs ?_
  (repeat (first | refine S.seq ?_ | refine S.region ?_ | refine L.nil ?_ | refine L.p (by first | exact o_assign rfl | exact o_move rfl | exact o_fld rfl | exact o_load rfl rfl | exact o_load rfl (by assumption) | exact o_ne rfl rfl | exact o_ptrNilN rfl rfl | exact o_nilNilN rfl rfl | exact o_pickT rfl rfl | exact o_pickF rfl rfl | exact o_lenS rfl | exact o_lenStr rfl | exact o_lt rfl rfl | exact o_idx rfl rfl (by omega) | exact o_idxA rfl rfl (by omega) | exact o_ext rfl rfl | exact o_add rfl rfl (by unfold I64; omega)) rfl ?_ | refine L.gYes rfl rfl rfl ?_ | refine L.gNo rfl rfl rfl rfl rfl ?_ | refine L.gUnd rfl rfl rfl rfl ?_ | refine S.block ?_ | refine S.pop ?_ | refine S.skip ?_ | refine S.exit rfl ?_ | refine S.condT rfl ?_ | refine S.condF rfl ?_))
  refine L.boxN rfl rfl (fun b2 => ?_)
  (repeat (first | refine S.seq ?_ | refine S.region ?_ | refine L.nil ?_ | refine L.p (by first | exact o_assign rfl | exact o_move rfl | exact o_fld rfl | exact o_load rfl rfl | exact o_load rfl (by assumption) | exact o_ne rfl rfl | exact o_ptrNilN rfl rfl | exact o_nilNilN rfl rfl | exact o_pickT rfl rfl | exact o_pickF rfl rfl | exact o_lenS rfl | exact o_lenStr rfl | exact o_lt rfl rfl | exact o_idx rfl rfl (by omega) | exact o_idxA rfl rfl (by omega) | exact o_ext rfl rfl | exact o_add rfl rfl (by unfold I64; omega)) rfl ?_ | refine L.gYes rfl rfl rfl ?_ | refine L.gNo rfl rfl rfl rfl rfl ?_ | refine L.gUnd rfl rfl rfl rfl ?_ | refine S.block ?_ | refine S.pop ?_ | refine S.skip ?_ | refine S.exit rfl ?_ | refine S.condT rfl ?_ | refine S.condF rfl ?_))
  refine S.anyH (id := 1) ([.cells b2 72 [.int .u64 s.gen, .int .i64 s.root, .int .u64 s.epoch, vp, vb]]) (by kernel_rfl) ?_
  refine BH.take 0 rfl (by kernel_rfl) (by decide +kernel) (by decide +kernel) rfl (o_move rfl) rfl (by intro a; simp only [List.count_append, List.count_cons, List.count_nil] <;> omega) ?_
  refine BH.take 2 rfl (by kernel_rfl) (by decide +kernel) (by decide +kernel) rfl (o_fld rfl) rfl (by intro a; simp only [List.count_append, List.count_cons, List.count_nil] <;> omega) ?_
  (first | refine BH.take 3 rfl (by kernel_rfl) (by decide +kernel) (by decide +kernel) rfl (o_load rfl rfl) rfl (by intro a; simp only [List.count_append, List.count_cons, List.count_nil] <;> omega) ?_ | refine BH.take 3 rfl (by kernel_rfl) (by decide +kernel) (by decide +kernel) rfl (o_load rfl (by assumption)) rfl (by intro a; simp only [List.count_append, List.count_cons, List.count_nil] <;> omega) ?_)
  refine BH.branch [1] (by kernel_rfl) (by simp) ?_
  refine BrH.cons rfl rfl ?_ BrH.nil
  refine L.callR rfl (hc_func Try.func16 (by decide) rfl rfl) rfl (fun w hs => pgen_calls (H := .cells b2 72 [.int .u64 s.gen, .int .i64 s.root, .int .u64 s.epoch, vp, vb] :: (Ad ++ H)) hP (hs.re (by intro a; simp only [List.count_append, List.count_cons, List.count_nil] <;> omega))) ?_
  rintro e w' ⟨rfl, hs'⟩
  refine ⟨_, _, rfl, (by assumption), ?_⟩
  refine L.nil ?_
  refine BH.go (by intro a; simp only [List.count_append, List.count_cons, List.count_nil] <;> omega) ?_
  (first | refine BH.take 4 rfl (by kernel_rfl) (by decide +kernel) (by decide +kernel) rfl (o_ne rfl rfl) rfl (by intro a; simp only [List.count_append, List.count_cons, List.count_nil] <;> omega) ?_ | refine BH.take 4 rfl (by kernel_rfl) (by decide +kernel) (by decide +kernel) rfl (o_ptrNilN rfl rfl) rfl (by intro a; simp only [List.count_append, List.count_cons, List.count_nil] <;> omega) ?_ | refine BH.take 4 rfl (by kernel_rfl) (by decide +kernel) (by decide +kernel) rfl (o_nilNilN rfl rfl) rfl (by intro a; simp only [List.count_append, List.count_cons, List.count_nil] <;> omega) ?_)
  refine BH.take 5 rfl (by kernel_rfl) (by decide +kernel) (by decide +kernel) rfl (o_move rfl) rfl (by intro a; simp only [List.count_append, List.count_cons, List.count_nil] <;> omega) ?_
  refine BH.split 13 rfl (fun x1 => ?_) (fun x1 => ?_)
  · refine BH.takeNo 6 rfl (by kernel_rfl) (by decide +kernel) (by decide +kernel) rfl rfl rfl rfl rfl rfl (by intro a; simp only [List.count_append, List.count_cons, List.count_nil] <;> omega) ?_
    refine BH.takeNo 7 rfl (by kernel_rfl) (by decide +kernel) (by decide +kernel) rfl rfl rfl rfl rfl rfl (by intro a; simp only [List.count_append, List.count_cons, List.count_nil] <;> omega) ?_
    refine BH.takeNo 8 rfl (by kernel_rfl) (by decide +kernel) (by decide +kernel) rfl rfl rfl rfl rfl rfl (by intro a; simp only [List.count_append, List.count_cons, List.count_nil] <;> omega) ?_
    refine BH.takeNo 9 rfl (by kernel_rfl) (by decide +kernel) (by decide +kernel) rfl rfl rfl rfl rfl rfl (by intro a; simp only [List.count_append, List.count_cons, List.count_nil] <;> omega) ?_
    refine BH.takeNo 10 rfl (by kernel_rfl) (by decide +kernel) (by decide +kernel) rfl rfl rfl rfl rfl rfl (by intro a; simp only [List.count_append, List.count_cons, List.count_nil] <;> omega) ?_
    (first | refine BH.take 11 rfl (by kernel_rfl) (by decide +kernel) (by decide +kernel) rfl (o_pickT rfl rfl) rfl (by intro a; simp only [List.count_append, List.count_cons, List.count_nil] <;> omega) ?_ | refine BH.take 11 rfl (by kernel_rfl) (by decide +kernel) (by decide +kernel) rfl (o_pickF rfl rfl) rfl (by intro a; simp only [List.count_append, List.count_cons, List.count_nil] <;> omega) ?_)
    refine BH.take 12 rfl (by kernel_rfl) (by decide +kernel) (by decide +kernel) rfl (o_move rfl) rfl (by intro a; simp only [List.count_append, List.count_cons, List.count_nil] <;> omega) ?_
    refine BH.takeNo 13 rfl (by kernel_rfl) (by decide +kernel) (by decide +kernel) rfl rfl rfl rfl rfl rfl (by intro a; simp only [List.count_append, List.count_cons, List.count_nil] <;> omega) ?_
    refine BH.takeNo 14 rfl (by kernel_rfl) (by decide +kernel) (by decide +kernel) rfl rfl rfl rfl rfl rfl (by intro a; simp only [List.count_append, List.count_cons, List.count_nil] <;> omega) ?_
    refine BH.takeNo 15 rfl (by kernel_rfl) (by decide +kernel) (by decide +kernel) rfl rfl rfl rfl rfl rfl (by intro a; simp only [List.count_append, List.count_cons, List.count_nil] <;> omega) ?_
    refine BH.takeNo 16 rfl (by kernel_rfl) (by decide +kernel) (by decide +kernel) rfl rfl rfl rfl rfl rfl (by intro a; simp only [List.count_append, List.count_cons, List.count_nil] <;> omega) ?_
    refine BH.takeNo 17 rfl (by kernel_rfl) (by decide +kernel) (by decide +kernel) rfl rfl rfl rfl rfl rfl (by intro a; simp only [List.count_append, List.count_cons, List.count_nil] <;> omega) ?_
    (first | refine BH.take 18 rfl (by kernel_rfl) (by decide +kernel) (by decide +kernel) rfl (o_pickT rfl rfl) rfl (by intro a; simp only [List.count_append, List.count_cons, List.count_nil] <;> omega) ?_ | refine BH.take 18 rfl (by kernel_rfl) (by decide +kernel) (by decide +kernel) rfl (o_pickF rfl rfl) rfl (by intro a; simp only [List.count_append, List.count_cons, List.count_nil] <;> omega) ?_)
    refine BH.take 19 rfl (by kernel_rfl) (by decide +kernel) (by decide +kernel) rfl (o_move rfl) rfl (by intro a; simp only [List.count_append, List.count_cons, List.count_nil] <;> omega) ?_
    refine BH.takeNo 20 rfl (by kernel_rfl) (by decide +kernel) (by decide +kernel) rfl rfl rfl rfl rfl rfl (by intro a; simp only [List.count_append, List.count_cons, List.count_nil] <;> omega) ?_
    refine BH.takeNo 21 rfl (by kernel_rfl) (by decide +kernel) (by decide +kernel) rfl rfl rfl rfl rfl rfl (by intro a; simp only [List.count_append, List.count_cons, List.count_nil] <;> omega) ?_
    refine BH.takeNo 22 rfl (by kernel_rfl) (by decide +kernel) (by decide +kernel) rfl rfl rfl rfl rfl rfl (by intro a; simp only [List.count_append, List.count_cons, List.count_nil] <;> omega) ?_
    refine BH.takeNo 23 rfl (by kernel_rfl) (by decide +kernel) (by decide +kernel) rfl rfl rfl rfl rfl rfl (by intro a; simp only [List.count_append, List.count_cons, List.count_nil] <;> omega) ?_
    refine BH.takeNo 24 rfl (by kernel_rfl) (by decide +kernel) (by decide +kernel) rfl rfl rfl rfl rfl rfl (by intro a; simp only [List.count_append, List.count_cons, List.count_nil] <;> omega) ?_
    (first | refine BH.take 25 rfl (by kernel_rfl) (by decide +kernel) (by decide +kernel) rfl (o_pickT rfl rfl) rfl (by intro a; simp only [List.count_append, List.count_cons, List.count_nil] <;> omega) ?_ | refine BH.take 25 rfl (by kernel_rfl) (by decide +kernel) (by decide +kernel) rfl (o_pickF rfl rfl) rfl (by intro a; simp only [List.count_append, List.count_cons, List.count_nil] <;> omega) ?_)
    refine BH.done (by decide +kernel) ?_
    (repeat (first | refine S.seq ?_ | refine S.region ?_ | refine L.nil ?_ | refine L.p (by first | exact o_assign rfl | exact o_move rfl | exact o_fld rfl | exact o_load rfl rfl | exact o_load rfl (by assumption) | exact o_ne rfl rfl | exact o_ptrNilN rfl rfl | exact o_nilNilN rfl rfl | exact o_pickT rfl rfl | exact o_pickF rfl rfl | exact o_lenS rfl | exact o_lenStr rfl | exact o_lt rfl rfl | exact o_idx rfl rfl (by omega) | exact o_idxA rfl rfl (by omega) | exact o_ext rfl rfl | exact o_add rfl rfl (by unfold I64; omega)) rfl ?_ | refine L.gYes rfl rfl rfl ?_ | refine L.gNo rfl rfl rfl rfl rfl ?_ | refine L.gUnd rfl rfl rfl rfl ?_ | refine S.block ?_ | refine S.pop ?_ | refine S.skip ?_ | refine S.exit rfl ?_ | refine S.condT rfl ?_ | refine S.condF rfl ?_))
    refine S.fin (Fin.one rfl (RV.tmp rfl)) (fun w hs => ?_)
    exact ⟨rfl, hs.less (by intro a; simp only [List.count_append, List.count_cons, List.count_nil] <;> omega)⟩
  · refine BH.takeYes 6 rfl (by kernel_rfl) (by decide +kernel) (by decide +kernel) rfl rfl rfl rfl (o_move rfl) rfl (by intro a; simp only [List.count_append, List.count_cons, List.count_nil] <;> omega) ?_
    refine BH.takeYes 8 rfl (by kernel_rfl) (by decide +kernel) (by decide +kernel) rfl rfl rfl rfl (o_fld rfl) rfl (by intro a; simp only [List.count_append, List.count_cons, List.count_nil] <;> omega) ?_
    (first | refine BH.takeYes 9 rfl (by kernel_rfl) (by decide +kernel) (by decide +kernel) rfl rfl rfl rfl (o_load rfl rfl) rfl (by intro a; simp only [List.count_append, List.count_cons, List.count_nil] <;> omega) ?_ | refine BH.takeYes 9 rfl (by kernel_rfl) (by decide +kernel) (by decide +kernel) rfl rfl rfl rfl (o_load rfl (by assumption)) rfl (by intro a; simp only [List.count_append, List.count_cons, List.count_nil] <;> omega) ?_)
    refine BH.branch [7] (by kernel_rfl) (by simp) ?_
    refine BrH.cons rfl rfl ?_ BrH.nil
    refine L.gYes rfl rfl rfl ?_
    exfalso; omega

/-- the same state, the pages as they were: it does -/
theorem holds_yes {w : World} {A Ad H : List Atom} {bp bd : Nat} {p : PgM} {D : DiskM} {s : SnapM} {vp vb : Value} (hn : D.n = 15) (hoff : D.off = false) (hf : p.first = 1) (hpg : p.pages = 12) (hst : p.gen = s.gen ∧ p.root = s.root ∧ p.epoch = s.epoch)
    (hg : Good D.now s) (h1 : IntsIn H (pagesI s) vp) (h2 : StrsIn H s.bytes vb) (hP : PagerAt bp bd 15 p A) (hD : DiskAt bd D Ad) (hs : Sat w (A ++ (Ad ++ H))) :
    Calls Try.prog 73 [.agg [.int .u64 s.gen, .int .i64 s.root, .int .u64 s.epoch, vp, vb].toArray, ptr bp].toArray w (fun e w' => ∃ A', e = .returned (.bool true) ∧ PagerAt bp bd 15 { p.settle with used := maskOf s.pages } A' ∧ Sat w' (A' ++ (Ad ++ H))) := by
  have hlen : s.pages.length ≤ 12 := by
    have := nodup_range_length 12 (s.pages.map fun x : Nat => (x : Int)) (by
      rw [List.nodup_iff_pairwise_ne, List.pairwise_map]
      exact (List.nodup_iff_pairwise_ne.1 hg.nodup).imp (fun h e => h (by omega))) (fun x hx => by
      obtain ⟨y, hy, rfl⟩ := List.mem_map.1 hx
      have := hg.range y hy
      omega)
    simpa using this
  have hml : (maskOf s.pages).length = 12 := by simp [maskOf]
  have hu : p.use (pagesI s) = ({ p.settle with used := maskOf s.pages }, 0) := by
    unfold PgM.use
    rw [hpg, show pagesI s = s.pages.map fun x : Nat => (x : Int) from rfl, mask_only hg.nodup hg.range]
  have hpl : (pagesI s).length = s.pages.length := by simp [pagesI]
  obtain ⟨ap, cp, rfl⟩ := h1.len
  obtain ⟨ab, cb, rfl⟩ := h2.len
  refine enter Try.func73 rfl Try.ntmps73 rfl hs ?_
  (repeat (first | refine S.seq ?_ | refine S.region ?_ | refine L.nil ?_ | refine L.p (by first | exact o_assign rfl | exact o_move rfl | exact o_fld rfl | exact o_load rfl rfl | exact o_load rfl (by assumption) | exact o_ne rfl rfl | exact o_ptrNilN rfl rfl | exact o_nilNilN rfl rfl | exact o_pickT rfl rfl | exact o_pickF rfl rfl | exact o_lenS rfl | exact o_lenStr rfl | exact o_lt rfl rfl | exact o_idx rfl rfl (by omega) | exact o_idxA rfl rfl (by omega) | exact o_ext rfl rfl | exact o_add rfl rfl (by unfold I64; omega)) rfl ?_ | refine L.gYes rfl rfl rfl ?_ | refine L.gNo rfl rfl rfl rfl rfl ?_ | refine L.gUnd rfl rfl rfl rfl ?_ | refine S.block ?_ | refine S.pop ?_ | refine S.skip ?_ | refine S.exit rfl ?_ | refine S.condT rfl ?_ | refine S.condF rfl ?_))
  refine L.boxN rfl rfl (fun b2 => ?_)
  (repeat (first | refine S.seq ?_ | refine S.region ?_ | refine L.nil ?_ | refine L.p (by first | exact o_assign rfl | exact o_move rfl | exact o_fld rfl | exact o_load rfl rfl | exact o_load rfl (by assumption) | exact o_ne rfl rfl | exact o_ptrNilN rfl rfl | exact o_nilNilN rfl rfl | exact o_pickT rfl rfl | exact o_pickF rfl rfl | exact o_lenS rfl | exact o_lenStr rfl | exact o_lt rfl rfl | exact o_idx rfl rfl (by omega) | exact o_idxA rfl rfl (by omega) | exact o_ext rfl rfl | exact o_add rfl rfl (by unfold I64; omega)) rfl ?_ | refine L.gYes rfl rfl rfl ?_ | refine L.gNo rfl rfl rfl rfl rfl ?_ | refine L.gUnd rfl rfl rfl rfl ?_ | refine S.block ?_ | refine S.pop ?_ | refine S.skip ?_ | refine S.exit rfl ?_ | refine S.condT rfl ?_ | refine S.condF rfl ?_))
  refine S.anyH (id := 1) ([.cells b2 72 [.int .u64 s.gen, .int .i64 s.root, .int .u64 s.epoch, .slice ap (pagesI s).length cp, .slice ab s.bytes.length cb]]) (by kernel_rfl) ?_
  refine BH.take 0 rfl (by kernel_rfl) (by decide +kernel) (by decide +kernel) rfl (o_move rfl) rfl (by intro a; simp only [List.count_append, List.count_cons, List.count_nil] <;> omega) ?_
  refine BH.take 2 rfl (by kernel_rfl) (by decide +kernel) (by decide +kernel) rfl (o_fld rfl) rfl (by intro a; simp only [List.count_append, List.count_cons, List.count_nil] <;> omega) ?_
  (first | refine BH.take 3 rfl (by kernel_rfl) (by decide +kernel) (by decide +kernel) rfl (o_load rfl rfl) rfl (by intro a; simp only [List.count_append, List.count_cons, List.count_nil] <;> omega) ?_ | refine BH.take 3 rfl (by kernel_rfl) (by decide +kernel) (by decide +kernel) rfl (o_load rfl (by assumption)) rfl (by intro a; simp only [List.count_append, List.count_cons, List.count_nil] <;> omega) ?_)
  refine BH.branch [1] (by kernel_rfl) (by simp) ?_
  refine BrH.cons rfl rfl ?_ BrH.nil
  refine L.callR rfl (hc_func Try.func16 (by decide) rfl rfl) rfl (fun w hs => pgen_calls (H := .cells b2 72 [.int .u64 s.gen, .int .i64 s.root, .int .u64 s.epoch, .slice ap (pagesI s).length cp, .slice ab s.bytes.length cb] :: (Ad ++ H)) hP (hs.re (by intro a; simp only [List.count_append, List.count_cons, List.count_nil] <;> omega))) ?_
  rintro e w' ⟨rfl, hs'⟩
  refine ⟨_, _, rfl, (by assumption), ?_⟩
  refine L.nil ?_
  refine BH.go (by intro a; simp only [List.count_append, List.count_cons, List.count_nil] <;> omega) ?_
  (first | refine BH.take 4 rfl (by kernel_rfl) (by decide +kernel) (by decide +kernel) rfl (o_ne rfl rfl) rfl (by intro a; simp only [List.count_append, List.count_cons, List.count_nil] <;> omega) ?_ | refine BH.take 4 rfl (by kernel_rfl) (by decide +kernel) (by decide +kernel) rfl (o_ptrNilN rfl rfl) rfl (by intro a; simp only [List.count_append, List.count_cons, List.count_nil] <;> omega) ?_ | refine BH.take 4 rfl (by kernel_rfl) (by decide +kernel) (by decide +kernel) rfl (o_nilNilN rfl rfl) rfl (by intro a; simp only [List.count_append, List.count_cons, List.count_nil] <;> omega) ?_)
  refine BH.take 5 rfl (by kernel_rfl) (by decide +kernel) (by decide +kernel) rfl (o_move rfl) rfl (by intro a; simp only [List.count_append, List.count_cons, List.count_nil] <;> omega) ?_
  refine BH.split 13 rfl (fun x1 => ?_) (fun x1 => ?_)
  · refine BH.takeNo 6 rfl (by kernel_rfl) (by decide +kernel) (by decide +kernel) rfl rfl rfl rfl rfl rfl (by intro a; simp only [List.count_append, List.count_cons, List.count_nil] <;> omega) ?_
    refine BH.takeNo 7 rfl (by kernel_rfl) (by decide +kernel) (by decide +kernel) rfl rfl rfl rfl rfl rfl (by intro a; simp only [List.count_append, List.count_cons, List.count_nil] <;> omega) ?_
    refine BH.takeNo 8 rfl (by kernel_rfl) (by decide +kernel) (by decide +kernel) rfl rfl rfl rfl rfl rfl (by intro a; simp only [List.count_append, List.count_cons, List.count_nil] <;> omega) ?_
    refine BH.takeNo 9 rfl (by kernel_rfl) (by decide +kernel) (by decide +kernel) rfl rfl rfl rfl rfl rfl (by intro a; simp only [List.count_append, List.count_cons, List.count_nil] <;> omega) ?_
    refine BH.takeNo 10 rfl (by kernel_rfl) (by decide +kernel) (by decide +kernel) rfl rfl rfl rfl rfl rfl (by intro a; simp only [List.count_append, List.count_cons, List.count_nil] <;> omega) ?_
    (first | refine BH.take 11 rfl (by kernel_rfl) (by decide +kernel) (by decide +kernel) rfl (o_pickT rfl rfl) rfl (by intro a; simp only [List.count_append, List.count_cons, List.count_nil] <;> omega) ?_ | refine BH.take 11 rfl (by kernel_rfl) (by decide +kernel) (by decide +kernel) rfl (o_pickF rfl rfl) rfl (by intro a; simp only [List.count_append, List.count_cons, List.count_nil] <;> omega) ?_)
    refine BH.take 12 rfl (by kernel_rfl) (by decide +kernel) (by decide +kernel) rfl (o_move rfl) rfl (by intro a; simp only [List.count_append, List.count_cons, List.count_nil] <;> omega) ?_
    refine BH.takeNo 13 rfl (by kernel_rfl) (by decide +kernel) (by decide +kernel) rfl rfl rfl rfl rfl rfl (by intro a; simp only [List.count_append, List.count_cons, List.count_nil] <;> omega) ?_
    refine BH.takeNo 14 rfl (by kernel_rfl) (by decide +kernel) (by decide +kernel) rfl rfl rfl rfl rfl rfl (by intro a; simp only [List.count_append, List.count_cons, List.count_nil] <;> omega) ?_
    refine BH.takeNo 15 rfl (by kernel_rfl) (by decide +kernel) (by decide +kernel) rfl rfl rfl rfl rfl rfl (by intro a; simp only [List.count_append, List.count_cons, List.count_nil] <;> omega) ?_
    refine BH.takeNo 16 rfl (by kernel_rfl) (by decide +kernel) (by decide +kernel) rfl rfl rfl rfl rfl rfl (by intro a; simp only [List.count_append, List.count_cons, List.count_nil] <;> omega) ?_
    refine BH.takeNo 17 rfl (by kernel_rfl) (by decide +kernel) (by decide +kernel) rfl rfl rfl rfl rfl rfl (by intro a; simp only [List.count_append, List.count_cons, List.count_nil] <;> omega) ?_
    (first | refine BH.take 18 rfl (by kernel_rfl) (by decide +kernel) (by decide +kernel) rfl (o_pickT rfl rfl) rfl (by intro a; simp only [List.count_append, List.count_cons, List.count_nil] <;> omega) ?_ | refine BH.take 18 rfl (by kernel_rfl) (by decide +kernel) (by decide +kernel) rfl (o_pickF rfl rfl) rfl (by intro a; simp only [List.count_append, List.count_cons, List.count_nil] <;> omega) ?_)
    refine BH.take 19 rfl (by kernel_rfl) (by decide +kernel) (by decide +kernel) rfl (o_move rfl) rfl (by intro a; simp only [List.count_append, List.count_cons, List.count_nil] <;> omega) ?_
    refine BH.takeNo 20 rfl (by kernel_rfl) (by decide +kernel) (by decide +kernel) rfl rfl rfl rfl rfl rfl (by intro a; simp only [List.count_append, List.count_cons, List.count_nil] <;> omega) ?_
    refine BH.takeNo 21 rfl (by kernel_rfl) (by decide +kernel) (by decide +kernel) rfl rfl rfl rfl rfl rfl (by intro a; simp only [List.count_append, List.count_cons, List.count_nil] <;> omega) ?_
    refine BH.takeNo 22 rfl (by kernel_rfl) (by decide +kernel) (by decide +kernel) rfl rfl rfl rfl rfl rfl (by intro a; simp only [List.count_append, List.count_cons, List.count_nil] <;> omega) ?_
    refine BH.takeNo 23 rfl (by kernel_rfl) (by decide +kernel) (by decide +kernel) rfl rfl rfl rfl rfl rfl (by intro a; simp only [List.count_append, List.count_cons, List.count_nil] <;> omega) ?_
    refine BH.takeNo 24 rfl (by kernel_rfl) (by decide +kernel) (by decide +kernel) rfl rfl rfl rfl rfl rfl (by intro a; simp only [List.count_append, List.count_cons, List.count_nil] <;> omega) ?_
    (first | refine BH.take 25 rfl (by kernel_rfl) (by decide +kernel) (by decide +kernel) rfl (o_pickT rfl rfl) rfl (by intro a; simp only [List.count_append, List.count_cons, List.count_nil] <;> omega) ?_ | refine BH.take 25 rfl (by kernel_rfl) (by decide +kernel) (by decide +kernel) rfl (o_pickF rfl rfl) rfl (by intro a; simp only [List.count_append, List.count_cons, List.count_nil] <;> omega) ?_)
    refine BH.done (by decide +kernel) ?_
    exfalso; omega
  · refine BH.takeYes 6 rfl (by kernel_rfl) (by decide +kernel) (by decide +kernel) rfl rfl rfl rfl (o_move rfl) rfl (by intro a; simp only [List.count_append, List.count_cons, List.count_nil] <;> omega) ?_
    refine BH.takeYes 8 rfl (by kernel_rfl) (by decide +kernel) (by decide +kernel) rfl rfl rfl rfl (o_fld rfl) rfl (by intro a; simp only [List.count_append, List.count_cons, List.count_nil] <;> omega) ?_
    (first | refine BH.takeYes 9 rfl (by kernel_rfl) (by decide +kernel) (by decide +kernel) rfl rfl rfl rfl (o_load rfl rfl) rfl (by intro a; simp only [List.count_append, List.count_cons, List.count_nil] <;> omega) ?_ | refine BH.takeYes 9 rfl (by kernel_rfl) (by decide +kernel) (by decide +kernel) rfl rfl rfl rfl (o_load rfl (by assumption)) rfl (by intro a; simp only [List.count_append, List.count_cons, List.count_nil] <;> omega) ?_)
    refine BH.branch [7] (by kernel_rfl) (by simp) ?_
    refine BrH.cons rfl rfl ?_ BrH.nil
    refine L.gYes rfl rfl rfl ?_
    refine L.callR rfl (hc_func Try.func17 (by decide) rfl rfl) rfl (fun w hs => proot_calls (H := .cells b2 72 [.int .u64 s.gen, .int .i64 s.root, .int .u64 s.epoch, .slice ap (pagesI s).length cp, .slice ab s.bytes.length cb] :: (Ad ++ H)) hP (hs.re (by intro a; simp only [List.count_append, List.count_cons, List.count_nil] <;> omega))) ?_
    rintro e w' ⟨rfl, hs'⟩
    refine ⟨_, _, rfl, (by assumption), ?_⟩
    refine L.nil ?_
    refine BH.go (by intro a; simp only [List.count_append, List.count_cons, List.count_nil] <;> omega) ?_
    (first | refine BH.takeYes 10 rfl (by kernel_rfl) (by decide +kernel) (by decide +kernel) rfl rfl rfl rfl (o_ne rfl rfl) rfl (by intro a; simp only [List.count_append, List.count_cons, List.count_nil] <;> omega) ?_ | refine BH.takeYes 10 rfl (by kernel_rfl) (by decide +kernel) (by decide +kernel) rfl rfl rfl rfl (o_ptrNilN rfl rfl) rfl (by intro a; simp only [List.count_append, List.count_cons, List.count_nil] <;> omega) ?_ | refine BH.takeYes 10 rfl (by kernel_rfl) (by decide +kernel) (by decide +kernel) rfl rfl rfl rfl (o_nilNilN rfl rfl) rfl (by intro a; simp only [List.count_append, List.count_cons, List.count_nil] <;> omega) ?_)
    (first | refine BH.take 11 rfl (by kernel_rfl) (by decide +kernel) (by decide +kernel) rfl (o_pickT rfl rfl) rfl (by intro a; simp only [List.count_append, List.count_cons, List.count_nil] <;> omega) ?_ | refine BH.take 11 rfl (by kernel_rfl) (by decide +kernel) (by decide +kernel) rfl (o_pickF rfl rfl) rfl (by intro a; simp only [List.count_append, List.count_cons, List.count_nil] <;> omega) ?_)
    refine BH.take 12 rfl (by kernel_rfl) (by decide +kernel) (by decide +kernel) rfl (o_move rfl) rfl (by intro a; simp only [List.count_append, List.count_cons, List.count_nil] <;> omega) ?_
    refine BH.split 20 rfl (fun x2 => ?_) (fun x2 => ?_)
    · refine BH.takeNo 13 rfl (by kernel_rfl) (by decide +kernel) (by decide +kernel) rfl rfl rfl rfl rfl rfl (by intro a; simp only [List.count_append, List.count_cons, List.count_nil] <;> omega) ?_
      refine BH.takeNo 14 rfl (by kernel_rfl) (by decide +kernel) (by decide +kernel) rfl rfl rfl rfl rfl rfl (by intro a; simp only [List.count_append, List.count_cons, List.count_nil] <;> omega) ?_
      refine BH.takeNo 15 rfl (by kernel_rfl) (by decide +kernel) (by decide +kernel) rfl rfl rfl rfl rfl rfl (by intro a; simp only [List.count_append, List.count_cons, List.count_nil] <;> omega) ?_
      refine BH.takeNo 16 rfl (by kernel_rfl) (by decide +kernel) (by decide +kernel) rfl rfl rfl rfl rfl rfl (by intro a; simp only [List.count_append, List.count_cons, List.count_nil] <;> omega) ?_
      refine BH.takeNo 17 rfl (by kernel_rfl) (by decide +kernel) (by decide +kernel) rfl rfl rfl rfl rfl rfl (by intro a; simp only [List.count_append, List.count_cons, List.count_nil] <;> omega) ?_
      (first | refine BH.take 18 rfl (by kernel_rfl) (by decide +kernel) (by decide +kernel) rfl (o_pickT rfl rfl) rfl (by intro a; simp only [List.count_append, List.count_cons, List.count_nil] <;> omega) ?_ | refine BH.take 18 rfl (by kernel_rfl) (by decide +kernel) (by decide +kernel) rfl (o_pickF rfl rfl) rfl (by intro a; simp only [List.count_append, List.count_cons, List.count_nil] <;> omega) ?_)
      refine BH.take 19 rfl (by kernel_rfl) (by decide +kernel) (by decide +kernel) rfl (o_move rfl) rfl (by intro a; simp only [List.count_append, List.count_cons, List.count_nil] <;> omega) ?_
      refine BH.takeNo 20 rfl (by kernel_rfl) (by decide +kernel) (by decide +kernel) rfl rfl rfl rfl rfl rfl (by intro a; simp only [List.count_append, List.count_cons, List.count_nil] <;> omega) ?_
      refine BH.takeNo 21 rfl (by kernel_rfl) (by decide +kernel) (by decide +kernel) rfl rfl rfl rfl rfl rfl (by intro a; simp only [List.count_append, List.count_cons, List.count_nil] <;> omega) ?_
      refine BH.takeNo 22 rfl (by kernel_rfl) (by decide +kernel) (by decide +kernel) rfl rfl rfl rfl rfl rfl (by intro a; simp only [List.count_append, List.count_cons, List.count_nil] <;> omega) ?_
      refine BH.takeNo 23 rfl (by kernel_rfl) (by decide +kernel) (by decide +kernel) rfl rfl rfl rfl rfl rfl (by intro a; simp only [List.count_append, List.count_cons, List.count_nil] <;> omega) ?_
      refine BH.takeNo 24 rfl (by kernel_rfl) (by decide +kernel) (by decide +kernel) rfl rfl rfl rfl rfl rfl (by intro a; simp only [List.count_append, List.count_cons, List.count_nil] <;> omega) ?_
      (first | refine BH.take 25 rfl (by kernel_rfl) (by decide +kernel) (by decide +kernel) rfl (o_pickT rfl rfl) rfl (by intro a; simp only [List.count_append, List.count_cons, List.count_nil] <;> omega) ?_ | refine BH.take 25 rfl (by kernel_rfl) (by decide +kernel) (by decide +kernel) rfl (o_pickF rfl rfl) rfl (by intro a; simp only [List.count_append, List.count_cons, List.count_nil] <;> omega) ?_)
      refine BH.done (by decide +kernel) ?_
      exfalso; omega
    · refine BH.takeYes 13 rfl (by kernel_rfl) (by decide +kernel) (by decide +kernel) rfl rfl rfl rfl (o_move rfl) rfl (by intro a; simp only [List.count_append, List.count_cons, List.count_nil] <;> omega) ?_
      refine BH.takeYes 15 rfl (by kernel_rfl) (by decide +kernel) (by decide +kernel) rfl rfl rfl rfl (o_fld rfl) rfl (by intro a; simp only [List.count_append, List.count_cons, List.count_nil] <;> omega) ?_
      (first | refine BH.takeYes 16 rfl (by kernel_rfl) (by decide +kernel) (by decide +kernel) rfl rfl rfl rfl (o_load rfl rfl) rfl (by intro a; simp only [List.count_append, List.count_cons, List.count_nil] <;> omega) ?_ | refine BH.takeYes 16 rfl (by kernel_rfl) (by decide +kernel) (by decide +kernel) rfl rfl rfl rfl (o_load rfl (by assumption)) rfl (by intro a; simp only [List.count_append, List.count_cons, List.count_nil] <;> omega) ?_)
      refine BH.branch [14] (by kernel_rfl) (by simp) ?_
      refine BrH.cons rfl rfl ?_ BrH.nil
      refine L.gYes rfl rfl rfl ?_
      refine L.callR rfl (hc_func Try.func18 (by decide) rfl rfl) rfl (fun w hs => pepoch_calls (H := .cells b2 72 [.int .u64 s.gen, .int .i64 s.root, .int .u64 s.epoch, .slice ap (pagesI s).length cp, .slice ab s.bytes.length cb] :: (Ad ++ H)) hP (hs.re (by intro a; simp only [List.count_append, List.count_cons, List.count_nil] <;> omega))) ?_
      rintro e w' ⟨rfl, hs'⟩
      refine ⟨_, _, rfl, (by assumption), ?_⟩
      refine L.nil ?_
      refine BH.go (by intro a; simp only [List.count_append, List.count_cons, List.count_nil] <;> omega) ?_
      (first | refine BH.takeYes 17 rfl (by kernel_rfl) (by decide +kernel) (by decide +kernel) rfl rfl rfl rfl (o_ne rfl rfl) rfl (by intro a; simp only [List.count_append, List.count_cons, List.count_nil] <;> omega) ?_ | refine BH.takeYes 17 rfl (by kernel_rfl) (by decide +kernel) (by decide +kernel) rfl rfl rfl rfl (o_ptrNilN rfl rfl) rfl (by intro a; simp only [List.count_append, List.count_cons, List.count_nil] <;> omega) ?_ | refine BH.takeYes 17 rfl (by kernel_rfl) (by decide +kernel) (by decide +kernel) rfl rfl rfl rfl (o_nilNilN rfl rfl) rfl (by intro a; simp only [List.count_append, List.count_cons, List.count_nil] <;> omega) ?_)
      (first | refine BH.take 18 rfl (by kernel_rfl) (by decide +kernel) (by decide +kernel) rfl (o_pickT rfl rfl) rfl (by intro a; simp only [List.count_append, List.count_cons, List.count_nil] <;> omega) ?_ | refine BH.take 18 rfl (by kernel_rfl) (by decide +kernel) (by decide +kernel) rfl (o_pickF rfl rfl) rfl (by intro a; simp only [List.count_append, List.count_cons, List.count_nil] <;> omega) ?_)
      refine BH.take 19 rfl (by kernel_rfl) (by decide +kernel) (by decide +kernel) rfl (o_move rfl) rfl (by intro a; simp only [List.count_append, List.count_cons, List.count_nil] <;> omega) ?_
      refine BH.split 27 rfl (fun x3 => ?_) (fun x3 => ?_)
      · refine BH.takeNo 20 rfl (by kernel_rfl) (by decide +kernel) (by decide +kernel) rfl rfl rfl rfl rfl rfl (by intro a; simp only [List.count_append, List.count_cons, List.count_nil] <;> omega) ?_
        refine BH.takeNo 21 rfl (by kernel_rfl) (by decide +kernel) (by decide +kernel) rfl rfl rfl rfl rfl rfl (by intro a; simp only [List.count_append, List.count_cons, List.count_nil] <;> omega) ?_
        refine BH.takeNo 22 rfl (by kernel_rfl) (by decide +kernel) (by decide +kernel) rfl rfl rfl rfl rfl rfl (by intro a; simp only [List.count_append, List.count_cons, List.count_nil] <;> omega) ?_
        refine BH.takeNo 23 rfl (by kernel_rfl) (by decide +kernel) (by decide +kernel) rfl rfl rfl rfl rfl rfl (by intro a; simp only [List.count_append, List.count_cons, List.count_nil] <;> omega) ?_
        refine BH.takeNo 24 rfl (by kernel_rfl) (by decide +kernel) (by decide +kernel) rfl rfl rfl rfl rfl rfl (by intro a; simp only [List.count_append, List.count_cons, List.count_nil] <;> omega) ?_
        (first | refine BH.take 25 rfl (by kernel_rfl) (by decide +kernel) (by decide +kernel) rfl (o_pickT rfl rfl) rfl (by intro a; simp only [List.count_append, List.count_cons, List.count_nil] <;> omega) ?_ | refine BH.take 25 rfl (by kernel_rfl) (by decide +kernel) (by decide +kernel) rfl (o_pickF rfl rfl) rfl (by intro a; simp only [List.count_append, List.count_cons, List.count_nil] <;> omega) ?_)
        refine BH.done (by decide +kernel) ?_
        exfalso; omega
      · refine BH.takeYes 20 rfl (by kernel_rfl) (by decide +kernel) (by decide +kernel) rfl rfl rfl rfl (o_move rfl) rfl (by intro a; simp only [List.count_append, List.count_cons, List.count_nil] <;> omega) ?_
        refine BH.takeYes 21 rfl (by kernel_rfl) (by decide +kernel) (by decide +kernel) rfl rfl rfl rfl (o_fld rfl) rfl (by intro a; simp only [List.count_append, List.count_cons, List.count_nil] <;> omega) ?_
        (first | refine BH.takeYes 22 rfl (by kernel_rfl) (by decide +kernel) (by decide +kernel) rfl rfl rfl rfl (o_load rfl rfl) rfl (by intro a; simp only [List.count_append, List.count_cons, List.count_nil] <;> omega) ?_ | refine BH.takeYes 22 rfl (by kernel_rfl) (by decide +kernel) (by decide +kernel) rfl rfl rfl rfl (o_load rfl (by assumption)) rfl (by intro a; simp only [List.count_append, List.count_cons, List.count_nil] <;> omega) ?_)
        refine BH.branch [23] (by kernel_rfl) (by simp) ?_
        refine BrH.cons rfl rfl ?_ BrH.nil
        refine L.gYes rfl rfl rfl ?_
        refine L.callR rfl (hc_func Try.func31 (by decide) rfl rfl) rfl (fun w hs => (by have h := puse_calls (l := pagesI s) (v := .slice ap (pagesI s).length cp) (H := .cells b2 72 [.int .u64 s.gen, .int .i64 s.root, .int .u64 s.epoch, .slice ap (pagesI s).length cp, .slice ab s.bytes.length cb] :: (Ad ++ H)) (h1.mono (by intro x hx; simp [hx])) (by omega) hP (hs.re (by intro a; simp only [List.count_append, List.count_cons, List.count_nil] <;> omega)); rw [hu] at h; exact h)) ?_
        rintro e w' ⟨rfl, A', hP', hs'⟩
        refine ⟨_, _, rfl, (by assumption), ?_⟩
        refine L.nil ?_
        refine BH.go (by intro a; simp only [List.count_append, List.count_cons, List.count_nil] <;> omega) ?_
        (first | refine BH.takeYes 24 rfl (by kernel_rfl) (by decide +kernel) (by decide +kernel) rfl rfl rfl rfl (o_ne rfl rfl) rfl (by intro a; simp only [List.count_append, List.count_cons, List.count_nil] <;> omega) ?_ | refine BH.takeYes 24 rfl (by kernel_rfl) (by decide +kernel) (by decide +kernel) rfl rfl rfl rfl (o_ptrNilN rfl rfl) rfl (by intro a; simp only [List.count_append, List.count_cons, List.count_nil] <;> omega) ?_ | refine BH.takeYes 24 rfl (by kernel_rfl) (by decide +kernel) (by decide +kernel) rfl rfl rfl rfl (o_nilNilN rfl rfl) rfl (by intro a; simp only [List.count_append, List.count_cons, List.count_nil] <;> omega) ?_)
        (first | refine BH.take 25 rfl (by kernel_rfl) (by decide +kernel) (by decide +kernel) rfl (o_pickT rfl rfl) rfl (by intro a; simp only [List.count_append, List.count_cons, List.count_nil] <;> omega) ?_ | refine BH.take 25 rfl (by kernel_rfl) (by decide +kernel) (by decide +kernel) rfl (o_pickF rfl rfl) rfl (by intro a; simp only [List.count_append, List.count_cons, List.count_nil] <;> omega) ?_)
        refine BH.done (by decide +kernel) ?_
        dsimp only at hP'
        (repeat (first | refine S.seq ?_ | refine S.region ?_ | refine L.nil ?_ | refine L.p (by first | exact o_assign rfl | exact o_move rfl | exact o_fld rfl | exact o_load rfl rfl | exact o_load rfl (by assumption) | exact o_ne rfl rfl | exact o_ptrNilN rfl rfl | exact o_nilNilN rfl rfl | exact o_pickT rfl rfl | exact o_pickF rfl rfl | exact o_lenS rfl | exact o_lenStr rfl | exact o_lt rfl rfl | exact o_idx rfl rfl (by omega) | exact o_idxA rfl rfl (by omega) | exact o_ext rfl rfl | exact o_add rfl rfl (by unfold I64; omega)) rfl ?_ | refine L.gYes rfl rfl rfl ?_ | refine L.gNo rfl rfl rfl rfl rfl ?_ | refine L.gUnd rfl rfl rfl rfl ?_ | refine S.block ?_ | refine S.pop ?_ | refine S.skip ?_ | refine S.exit rfl ?_ | refine S.condT rfl ?_ | refine S.condF rfl ?_))
        refine S.loop (G := Nat × List Atom) (fun q => q.1 ≤ s.pages.length)
          (fun q => [(5, .int .i64 q.1), (2, ptr b2), (1, ptr bp)])
          (fun q => A' ++ (.cells b2 72 [.int .u64 s.gen, .int .i64 s.root, .int .u64 s.epoch, .slice ap (pagesI s).length cp, .slice ab s.bytes.length cb] :: (Ad ++ (q.2 ++ H)))) (fun q => s.pages.length - q.1) (0, []) (by simp) (by repeat (first | exact trivial | refine ⟨rfl, ?_⟩)) (fun w hs => by simpa using hs.re (H' := A' ++ (.cells b2 72 [.int .u64 s.gen, .int .i64 s.root, .int .u64 s.epoch, .slice ap (pagesI s).length cp, .slice ab s.bytes.length cb] :: (Ad ++ H))) (by intro a; simp only [List.count_append, List.count_cons, List.count_nil] <;> omega)) ?_
        rintro ⟨i, Y⟩ m h3 hm
        simp only at h3 hm
        dsimp only
        (repeat (first | refine S.seq ?_ | refine S.region ?_ | refine L.nil ?_ | refine L.p (by first | exact o_assign rfl | exact o_move rfl | exact o_fld rfl | exact o_load rfl rfl | exact o_load rfl (by assumption) | exact o_ne rfl rfl | exact o_ptrNilN rfl rfl | exact o_nilNilN rfl rfl | exact o_pickT rfl rfl | exact o_pickF rfl rfl | exact o_lenS rfl | exact o_lenStr rfl | exact o_lt rfl rfl | exact o_idx rfl rfl (by omega) | exact o_idxA rfl rfl (by omega) | exact o_ext rfl rfl | exact o_add rfl rfl (by unfold I64; omega)) rfl ?_ | refine L.gYes rfl rfl rfl ?_ | refine L.gNo rfl rfl rfl rfl rfl ?_ | refine L.gUnd rfl rfl rfl rfl ?_ | refine S.block ?_ | refine S.pop ?_ | refine S.skip ?_ | refine S.exit rfl ?_ | refine S.condT rfl ?_ | refine S.condF rfl ?_))
        refine S.condD rfl (fun hi => ?_) (fun hi => ?_)
        · have hi' : i < s.pages.length := by omega
          have hi2 : i < (pagesI s).length := by omega
          have hib : i < s.bytes.length := by rw [hg.len]; exact hi'
          have hgp : (pagesI s)[i] = (s.pages[i] : Int) := by simp [pagesI]
          have hr12 := hg.range _ (List.getElem_mem hi')
          have hrd : ({ p.settle with used := maskOf s.pages } : PgM).read D (s.pages[i] : Int) = (s.bytes[i], 0) := by
            unfold PgM.read
            rw [taken_iff hml, mask_get hr12, if_pos (decide_eq_true (List.getElem_mem hi'))]
            show D.read ((p.first : Int) + 2 + (s.pages[i] : Int)) = _
            unfold DiskM.read
            rw [hf, if_pos (by rw [hn]; omega), hoff, show (((1 : Nat) : Int) + 2 + (s.pages[i] : Int)).toNat = 3 + s.pages[i] by omega]
            rw [hg.pages i hi']
            simp [hib]
          have h1' := h1
          generalize hqv : Value.slice ap (pagesI s).length cp = qv at h1'
          cases h1' with
          | none h => simp [h] at hi2
          | @mk b9 o9 _ cs9 hc9 hh9 ho9 he9 =>
          cases hqv
          have gp := get_of_part he9 hi2
          rw [zs_get _ i hi2, hgp] at gp
          have h2' := h2
          generalize hqv2 : Value.slice ab s.bytes.length cb = qv2 at h2'
          cases h2' with
          | none h => simp [h] at hib
          | @mk b8 o8 _ cs8 hc8 hh8 ho8 he8 =>
          cases hqv2
          have gb := get_of_part he8 hib
          rw [strs_get _ i hib] at gb
          (repeat (first | refine L.p (o_loadA (b := b9) (cs := cs9) rfl (hh9.mono (by intro x hx; simp [hx])) gp) rfl ?_ | refine S.seq ?_ | refine S.region ?_ | refine L.nil ?_ | refine L.p (by first | exact o_assign rfl | exact o_move rfl | exact o_fld rfl | exact o_load rfl rfl | exact o_load rfl (by assumption) | exact o_ne rfl rfl | exact o_ptrNilN rfl rfl | exact o_nilNilN rfl rfl | exact o_pickT rfl rfl | exact o_pickF rfl rfl | exact o_lenS rfl | exact o_lenStr rfl | exact o_lt rfl rfl | exact o_idx rfl rfl (by omega) | exact o_idxA rfl rfl (by omega) | exact o_ext rfl rfl | exact o_add rfl rfl (by unfold I64; omega)) rfl ?_ | refine L.gYes rfl rfl rfl ?_ | refine L.gNo rfl rfl rfl rfl rfl ?_ | refine L.gUnd rfl rfl rfl rfl ?_ | refine S.block ?_ | refine S.pop ?_ | refine S.skip ?_ | refine S.exit rfl ?_ | refine S.condT rfl ?_ | refine S.condF rfl ?_))
          refine L.callR rfl (hc_func Try.func25 (by decide) rfl rfl) rfl (fun w hs => (by have h := pread_calls (i := (s.pages[i] : Int)) (H := .cells b2 72 [.int .u64 s.gen, .int .i64 s.root, .int .u64 s.epoch, .slice (some ⟨b9, o9, none⟩) (pagesI s).length cp, .slice (some ⟨b8, o8, none⟩) s.bytes.length cb] :: (Y ++ H)) hn hP' hD (hs.re (by intro a; simp only [List.count_append, List.count_cons, List.count_nil] <;> omega)); rw [hrd] at h; exact h)) ?_
          rintro e w' ⟨v, B, rfl, hB, hs'⟩
          refine ⟨_, _, rfl, (by assumption), ?_⟩
          (repeat (first | refine S.seq ?_ | refine S.region ?_ | refine L.nil ?_ | refine L.p (by first | exact o_assign rfl | exact o_move rfl | exact o_fld rfl | exact o_load rfl rfl | exact o_load rfl (by assumption) | exact o_ne rfl rfl | exact o_ptrNilN rfl rfl | exact o_nilNilN rfl rfl | exact o_pickT rfl rfl | exact o_pickF rfl rfl | exact o_lenS rfl | exact o_lenStr rfl | exact o_lt rfl rfl | exact o_idx rfl rfl (by omega) | exact o_idxA rfl rfl (by omega) | exact o_ext rfl rfl | exact o_add rfl rfl (by unfold I64; omega)) rfl ?_ | refine L.gYes rfl rfl rfl ?_ | refine L.gNo rfl rfl rfl rfl rfl ?_ | refine L.gUnd rfl rfl rfl rfl ?_ | refine S.block ?_ | refine S.pop ?_ | refine S.skip ?_ | refine S.exit rfl ?_ | refine S.condT rfl ?_ | refine S.condF rfl ?_))
          refine S.anyH (id := 7) ((B ++ (A' ++ (Ad ++ (.cells b2 72 [.int .u64 s.gen, .int .i64 s.root, .int .u64 s.epoch, .slice (some ⟨b9, o9, none⟩) (pagesI s).length cp, .slice (some ⟨b8, o8, none⟩) s.bytes.length cb] :: (Y ++ H)))))) (by kernel_rfl) ?_
          refine BH.take 0 rfl (by kernel_rfl) (by decide +kernel) (by decide +kernel) rfl (o_move rfl) rfl (by intro a; simp only [List.count_append, List.count_cons, List.count_nil] <;> omega) ?_
          (first | refine BH.take 1 rfl (by kernel_rfl) (by decide +kernel) (by decide +kernel) rfl (o_ne rfl rfl) rfl (by intro a; simp only [List.count_append, List.count_cons, List.count_nil] <;> omega) ?_ | refine BH.take 1 rfl (by kernel_rfl) (by decide +kernel) (by decide +kernel) rfl (o_ptrNilN rfl rfl) rfl (by intro a; simp only [List.count_append, List.count_cons, List.count_nil] <;> omega) ?_ | refine BH.take 1 rfl (by kernel_rfl) (by decide +kernel) (by decide +kernel) rfl (o_nilNilN rfl rfl) rfl (by intro a; simp only [List.count_append, List.count_cons, List.count_nil] <;> omega) ?_)
          refine BH.take 2 rfl (by kernel_rfl) (by decide +kernel) (by decide +kernel) rfl (o_move rfl) rfl (by intro a; simp only [List.count_append, List.count_cons, List.count_nil] <;> omega) ?_
          refine BH.takeYes 3 rfl (by kernel_rfl) (by decide +kernel) (by decide +kernel) rfl rfl rfl rfl (o_move rfl) rfl (by intro a; simp only [List.count_append, List.count_cons, List.count_nil] <;> omega) ?_
          refine BH.takeYes 4 rfl (by kernel_rfl) (by decide +kernel) (by decide +kernel) rfl rfl rfl rfl (o_b2s (bs := s.bytes[i]) rfl (hB.mono (by intro x hx; simp [hx]))) rfl (by intro a; simp only [List.count_append, List.count_cons, List.count_nil] <;> omega) ?_
          refine BH.takeYes 5 rfl (by kernel_rfl) (by decide +kernel) (by decide +kernel) rfl rfl rfl rfl (o_fld rfl) rfl (by intro a; simp only [List.count_append, List.count_cons, List.count_nil] <;> omega) ?_
          (first | refine BH.takeYes 6 rfl (by kernel_rfl) (by decide +kernel) (by decide +kernel) rfl rfl rfl rfl (o_load rfl rfl) rfl (by intro a; simp only [List.count_append, List.count_cons, List.count_nil] <;> omega) ?_ | refine BH.takeYes 6 rfl (by kernel_rfl) (by decide +kernel) (by decide +kernel) rfl rfl rfl rfl (o_load rfl (by assumption)) rfl (by intro a; simp only [List.count_append, List.count_cons, List.count_nil] <;> omega) ?_)
          refine BH.takeYes 7 rfl (by kernel_rfl) (by decide +kernel) (by decide +kernel) rfl rfl rfl rfl (o_move rfl) rfl (by intro a; simp only [List.count_append, List.count_cons, List.count_nil] <;> omega) ?_
          (first | refine BH.takeYes 8 rfl (by kernel_rfl) (by decide +kernel) (by decide +kernel) rfl rfl rfl rfl (o_idx rfl rfl (by omega)) rfl (by intro a; simp only [List.count_append, List.count_cons, List.count_nil] <;> omega) ?_ | refine BH.takeYes 8 rfl (by kernel_rfl) (by decide +kernel) (by decide +kernel) rfl rfl rfl rfl (o_idxA rfl rfl (by omega)) rfl (by intro a; simp only [List.count_append, List.count_cons, List.count_nil] <;> omega) ?_)
          refine BH.takeYes 9 rfl (by kernel_rfl) (by decide +kernel) (by decide +kernel) rfl rfl rfl rfl (o_loadA (b := b8) (cs := cs8) rfl (hh8.mono (by intro x hx; simp [hx])) gb) rfl (by intro a; simp only [List.count_append, List.count_cons, List.count_nil] <;> omega) ?_
          refine BH.takeYes 10 rfl (by kernel_rfl) (by decide +kernel) (by decide +kernel) rfl rfl rfl rfl (o_strNe (p := s.bytes[i]) (q := s.bytes[i]) rfl rfl) rfl (by intro a; simp only [List.count_append, List.count_cons, List.count_nil] <;> omega) ?_
          (first | refine BH.take 11 rfl (by kernel_rfl) (by decide +kernel) (by decide +kernel) rfl (o_pickT rfl rfl) rfl (by intro a; simp only [List.count_append, List.count_cons, List.count_nil] <;> omega) ?_ | refine BH.take 11 rfl (by kernel_rfl) (by decide +kernel) (by decide +kernel) rfl (o_pickF rfl rfl) rfl (by intro a; simp only [List.count_append, List.count_cons, List.count_nil] <;> omega) ?_)
          refine BH.done (by decide +kernel) ?_
          rw [show decide (s.bytes[i] ≠ s.bytes[i]) = false by simp]
          (repeat (first | refine S.seq ?_ | refine S.region ?_ | refine L.nil ?_ | refine L.p (by first | exact o_assign rfl | exact o_move rfl | exact o_fld rfl | exact o_load rfl rfl | exact o_load rfl (by assumption) | exact o_ne rfl rfl | exact o_ptrNilN rfl rfl | exact o_nilNilN rfl rfl | exact o_pickT rfl rfl | exact o_pickF rfl rfl | exact o_lenS rfl | exact o_lenStr rfl | exact o_lt rfl rfl | exact o_idx rfl rfl (by omega) | exact o_idxA rfl rfl (by omega) | exact o_ext rfl rfl | exact o_add rfl rfl (by unfold I64; omega)) rfl ?_ | refine L.gYes rfl rfl rfl ?_ | refine L.gNo rfl rfl rfl rfl rfl ?_ | refine L.gUnd rfl rfl rfl rfl ?_ | refine S.block ?_ | refine S.pop ?_ | refine S.skip ?_ | refine S.exit rfl ?_ | refine S.condT rfl ?_ | refine S.condF rfl ?_))
          refine S.round (fun ac_ w hac_ hs => ⟨((i + 1, B ++ Y)), ⟨?_, (by (try dsimp only); omega)⟩, hac_.weaken (look_sub (by repeat (first | exact trivial | refine ⟨rfl, ?_⟩))), (by (try dsimp only); exact hs.re (by intro a; simp only [List.count_append, List.count_cons, List.count_nil] <;> omega))⟩)
          omega
        · (repeat (first | refine S.seq ?_ | refine S.region ?_ | refine L.nil ?_ | refine L.p (by first | exact o_assign rfl | exact o_move rfl | exact o_fld rfl | exact o_load rfl rfl | exact o_load rfl (by assumption) | exact o_ne rfl rfl | exact o_ptrNilN rfl rfl | exact o_nilNilN rfl rfl | exact o_pickT rfl rfl | exact o_pickF rfl rfl | exact o_lenS rfl | exact o_lenStr rfl | exact o_lt rfl rfl | exact o_idx rfl rfl (by omega) | exact o_idxA rfl rfl (by omega) | exact o_ext rfl rfl | exact o_add rfl rfl (by unfold I64; omega)) rfl ?_ | refine L.gYes rfl rfl rfl ?_ | refine L.gNo rfl rfl rfl rfl rfl ?_ | refine L.gUnd rfl rfl rfl rfl ?_ | refine S.block ?_ | refine S.pop ?_ | refine S.skip ?_ | refine S.exit rfl ?_ | refine S.condT rfl ?_ | refine S.condF rfl ?_))
          refine S.fin (Fin.one rfl (RV.tmp rfl)) (fun w hs => ?_)
          exact ⟨A', rfl, hP', hs.less (by intro a; simp only [List.count_append, List.count_cons, List.count_nil] <;> omega)⟩
end Go.Proofs.Ytlecgoebbjnnmaa

