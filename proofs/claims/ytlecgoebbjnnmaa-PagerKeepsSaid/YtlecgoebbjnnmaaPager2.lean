/- The pager's functions: writing, dropping, committing. -/
import Derived.Test.YtlecgoebbjnnmaaPager
set_option linter.unusedVariables false
set_option linter.unusedSimpArgs false
set_option linter.unusedSectionVars false
set_option linter.constructorNameAsVariable false
set_option maxRecDepth 100000
set_option maxHeartbeats 4000000
namespace Go.Proofs.Ytlecgoebbjnnmaa
open Go
variable [Ref]

theorem pwrite_nil {w : World} {H : List Atom} {i : Int} {v : Value} (hs : Sat w H) : Calls Try.prog 26 [.pointer none, .int .i64 i, v].toArray w (fun e w' => e = .returned (.int .i64 1) ∧ Sat w' H) := by
  refine enter Try.func26 rfl Try.ntmps26 rfl hs ?_
  (repeat (first | refine S.seq ?_ | refine S.region ?_ | refine L.nil ?_ | refine L.p (by first | exact o_assign rfl | exact o_move rfl | exact o_eq rfl rfl | exact o_ptrNil rfl rfl | exact o_nilNil rfl rfl | exact o_notT rfl | exact o_notF rfl | exact o_notD rfl | exact o_notB rfl | exact o_pickT rfl rfl | exact o_pickF rfl rfl | exact o_lenS rfl | exact o_lenStr rfl | exact o_ne rfl rfl | exact o_ptrNilN rfl rfl | exact o_nilNilN rfl rfl | exact o_nil rfl | exact o_nilFn rfl | exact o_fld rfl | exact o_load rfl rfl | exact o_load rfl (by assumption) | exact o_add rfl rfl (by unfold I64; omega)) rfl ?_ | refine L.gYes rfl rfl rfl ?_ | refine L.gNo rfl rfl rfl rfl rfl ?_ | refine L.gUnd rfl rfl rfl rfl ?_ | refine S.block ?_ | refine S.pop ?_ | refine S.skip ?_ | refine S.exit rfl ?_ | refine S.condT rfl ?_ | refine S.condF rfl ?_))
  refine S.fin (Fin.one rfl (RV.tmp rfl)) (fun w hs => ?_)
  exact ⟨rfl, hs⟩
theorem pwrite_calls {w : World} {A Ad H : List Atom} {bp bd n : Nat} {p : PgM} {D : DiskM} {i : Int} {v : Value} {b : List UInt8} (hpb : D.pend.length ≤ 900000) (hfr : ∀ x ∈ p.fresh, 0 ≤ x ∧ x < p.pages) (hn : D.n = n) (hb : BytesIn H v b)
    (hP : PagerAt bp bd n p A) (hD : DiskAt bd D Ad) (hs : Sat w (A ++ (Ad ++ H))) :
    Calls Try.prog 26 [ptr bp, .int .i64 i, v].toArray w (fun e w' => e = .returned (.int .i64 (p.write D i b).2.2) ∧ ∃ A' Ad', PagerAt bp bd n (p.write D i b).1 A' ∧ DiskAt bd (p.write D i b).2.1 Ad' ∧ Sat w' (A' ++ (Ad' ++ H))) := by
  obtain ⟨a, cap, rfl⟩ := hb.len
  have hn2 := hD.wf.n2
  refine enter Try.func26 rfl Try.ntmps26 rfl hs ?_
  (repeat (first | refine S.seq ?_ | refine S.region ?_ | refine L.nil ?_ | refine L.p (by first | exact o_assign rfl | exact o_move rfl | exact o_eq rfl rfl | exact o_ptrNil rfl rfl | exact o_nilNil rfl rfl | exact o_notT rfl | exact o_notF rfl | exact o_notD rfl | exact o_notB rfl | exact o_pickT rfl rfl | exact o_pickF rfl rfl | exact o_lenS rfl | exact o_lenStr rfl | exact o_ne rfl rfl | exact o_ptrNilN rfl rfl | exact o_nilNilN rfl rfl | exact o_nil rfl | exact o_nilFn rfl | exact o_fld rfl | exact o_load rfl rfl | exact o_load rfl (by assumption) | exact o_add rfl rfl (by unfold I64; omega)) rfl ?_ | refine L.gYes rfl rfl rfl ?_ | refine L.gNo rfl rfl rfl rfl rfl ?_ | refine L.gUnd rfl rfl rfl rfl ?_ | refine S.block ?_ | refine S.pop ?_ | refine S.skip ?_ | refine S.exit rfl ?_ | refine S.condT rfl ?_ | refine S.condF rfl ?_))
  refine L.callR rfl (hc_func Try.func68 (by decide) rfl rfl) rfl (fun w hs => pfresh_calls hP hs) ?_
  rintro e w' ⟨rfl, hs'⟩
  refine ⟨_, _, rfl, (by assumption), ?_⟩
  by_cases hfi : i ∈ p.fresh
  · have hir := hfr i hfi
    rw [decide_eq_true hfi]
    (repeat (first | refine S.seq ?_ | refine S.region ?_ | refine L.nil ?_ | refine L.p (by first | exact o_assign rfl | exact o_move rfl | exact o_eq rfl rfl | exact o_ptrNil rfl rfl | exact o_nilNil rfl rfl | exact o_notT rfl | exact o_notF rfl | exact o_notD rfl | exact o_notB rfl | exact o_pickT rfl rfl | exact o_pickF rfl rfl | exact o_lenS rfl | exact o_lenStr rfl | exact o_ne rfl rfl | exact o_ptrNilN rfl rfl | exact o_nilNilN rfl rfl | exact o_nil rfl | exact o_nilFn rfl | exact o_fld rfl | exact o_load rfl rfl | exact o_load rfl (by assumption) | exact o_add rfl rfl (by unfold I64; omega)) rfl ?_ | refine L.gYes rfl rfl rfl ?_ | refine L.gNo rfl rfl rfl rfl rfl ?_ | refine L.gUnd rfl rfl rfl rfl ?_ | refine S.block ?_ | refine S.pop ?_ | refine S.skip ?_ | refine S.exit rfl ?_ | refine S.condT rfl ?_ | refine S.condF rfl ?_))
    refine S.condD rfl (fun hlen => ?_) (fun hlen => ?_)
    · have hw : p.write D i b = (p, D, 1) := by unfold PgM.write; rw [if_pos (Or.inr (by omega))]
      (repeat (first | refine S.seq ?_ | refine S.region ?_ | refine L.nil ?_ | refine L.p (by first | exact o_assign rfl | exact o_move rfl | exact o_eq rfl rfl | exact o_ptrNil rfl rfl | exact o_nilNil rfl rfl | exact o_notT rfl | exact o_notF rfl | exact o_notD rfl | exact o_notB rfl | exact o_pickT rfl rfl | exact o_pickF rfl rfl | exact o_lenS rfl | exact o_lenStr rfl | exact o_ne rfl rfl | exact o_ptrNilN rfl rfl | exact o_nilNilN rfl rfl | exact o_nil rfl | exact o_nilFn rfl | exact o_fld rfl | exact o_load rfl rfl | exact o_load rfl (by assumption) | exact o_add rfl rfl (by unfold I64; omega)) rfl ?_ | refine L.gYes rfl rfl rfl ?_ | refine L.gNo rfl rfl rfl rfl rfl ?_ | refine L.gUnd rfl rfl rfl rfl ?_ | refine S.block ?_ | refine S.pop ?_ | refine S.skip ?_ | refine S.exit rfl ?_ | refine S.condT rfl ?_ | refine S.condF rfl ?_))
      refine S.fin (Fin.one rfl (RV.tmp rfl)) (fun w hs => ?_)
      rw [hw]
      exact ⟨rfl, A, Ad, hP, hD, hs⟩
    · have hl : b.length = 256 := by omega
      cases hP with
      | @mk bs bm vd es c A E wf hS hm hd =>
      have hfit := wf.fit
      refine S.re (H' := A ++ (.cells bp 115 [.int .u64 p.gen, .int .i64 p.root, .int .u64 p.epoch, ptr bd, .int .i64 p.first, .int .i64 p.pages, ptr bs, .map (some bm), vd, .bool p.broken] :: .map bm es c :: (E ++ (Ad ++ H)))) ?_ (by intro a; simp only [List.count_append, List.count_cons, List.count_nil] <;> omega)
      (repeat (first | refine S.seq ?_ | refine S.region ?_ | refine L.nil ?_ | refine L.p (by first | exact o_assign rfl | exact o_move rfl | exact o_eq rfl rfl | exact o_ptrNil rfl rfl | exact o_nilNil rfl rfl | exact o_notT rfl | exact o_notF rfl | exact o_notD rfl | exact o_notB rfl | exact o_pickT rfl rfl | exact o_pickF rfl rfl | exact o_lenS rfl | exact o_lenStr rfl | exact o_ne rfl rfl | exact o_ptrNilN rfl rfl | exact o_nilNilN rfl rfl | exact o_nil rfl | exact o_nilFn rfl | exact o_fld rfl | exact o_load rfl rfl | exact o_load rfl (by assumption) | exact o_add rfl rfl (by unfold I64; omega)) rfl ?_ | refine L.gYes rfl rfl rfl ?_ | refine L.gNo rfl rfl rfl rfl rfl ?_ | refine L.gUnd rfl rfl rfl rfl ?_ | refine S.block ?_ | refine S.pop ?_ | refine S.skip ?_ | refine S.exit rfl ?_ | refine S.condT rfl ?_ | refine S.condF rfl ?_))
      cases hbr : p.broken with
      | true =>
        have hw : p.write D i b = (p, D, 9) := by unfold PgM.write; rw [if_neg (by simp [hfi, hl]), if_pos hbr]
        (repeat (first | refine S.seq ?_ | refine S.region ?_ | refine L.nil ?_ | refine L.p (by first | exact o_assign rfl | exact o_move rfl | exact o_eq rfl rfl | exact o_ptrNil rfl rfl | exact o_nilNil rfl rfl | exact o_notT rfl | exact o_notF rfl | exact o_notD rfl | exact o_notB rfl | exact o_pickT rfl rfl | exact o_pickF rfl rfl | exact o_lenS rfl | exact o_lenStr rfl | exact o_ne rfl rfl | exact o_ptrNilN rfl rfl | exact o_nilNilN rfl rfl | exact o_nil rfl | exact o_nilFn rfl | exact o_fld rfl | exact o_load rfl rfl | exact o_load rfl (by assumption) | exact o_add rfl rfl (by unfold I64; omega)) rfl ?_ | refine L.gYes rfl rfl rfl ?_ | refine L.gNo rfl rfl rfl rfl rfl ?_ | refine L.gUnd rfl rfl rfl rfl ?_ | refine S.block ?_ | refine S.pop ?_ | refine S.skip ?_ | refine S.exit rfl ?_ | refine S.condT rfl ?_ | refine S.condF rfl ?_))
        refine S.fin (Fin.one rfl (RV.tmp rfl)) (fun w hs => ?_)
        rw [hw]
        exact ⟨rfl, .cells bp 115 [.int .u64 p.gen, .int .i64 p.root, .int .u64 p.epoch, ptr bd, .int .i64 p.first, .int .i64 p.pages, ptr bs, .map (some bm), vd, .bool p.broken] :: .map bm es c :: (A ++ E), Ad, .mk wf hS hm hd, hD, by rw [hbr]; exact hs.re (by intro a; simp only [List.count_append, List.count_cons, List.count_nil] <;> omega)⟩
      | false =>
        have hw : p.write D i b = p.put D (2 + i) b := by unfold PgM.write; rw [if_neg (by simp [hfi, hl]), if_neg (by simp [hbr])]
        (repeat (first | refine S.seq ?_ | refine S.region ?_ | refine L.nil ?_ | refine L.p (by first | exact o_assign rfl | exact o_move rfl | exact o_eq rfl rfl | exact o_ptrNil rfl rfl | exact o_nilNil rfl rfl | exact o_notT rfl | exact o_notF rfl | exact o_notD rfl | exact o_notB rfl | exact o_pickT rfl rfl | exact o_pickF rfl rfl | exact o_lenS rfl | exact o_lenStr rfl | exact o_ne rfl rfl | exact o_ptrNilN rfl rfl | exact o_nilNilN rfl rfl | exact o_nil rfl | exact o_nilFn rfl | exact o_fld rfl | exact o_load rfl rfl | exact o_load rfl (by assumption) | exact o_add rfl rfl (by unfold I64; omega)) rfl ?_ | refine L.gYes rfl rfl rfl ?_ | refine L.gNo rfl rfl rfl rfl rfl ?_ | refine L.gUnd rfl rfl rfl rfl ?_ | refine S.block ?_ | refine S.pop ?_ | refine S.skip ?_ | refine S.exit rfl ?_ | refine S.condT rfl ?_ | refine S.condF rfl ?_))
        refine L.callR rfl (hc_func Try.func65 (by decide) rfl rfl) rfl (fun w hs => pput_calls (A := .cells bp 115 [.int .u64 p.gen, .int .i64 p.root, .int .u64 p.epoch, ptr bd, .int .i64 p.first, .int .i64 p.pages, ptr bs, .map (some bm), vd, .bool p.broken] :: .map bm es c :: (A ++ E)) (i := 2 + i) hpb (by omega) hn hb (.mk wf hS hm hd) hD (by rw [hbr]; exact hs.re (by intro a; simp only [List.count_append, List.count_cons, List.count_nil] <;> omega))) ?_
        rintro e w2 ⟨rfl, A', Ad', hP', hD', hs2⟩
        refine ⟨_, _, rfl, (by assumption), ?_⟩
        (repeat (first | refine S.seq ?_ | refine S.region ?_ | refine L.nil ?_ | refine L.p (by first | exact o_assign rfl | exact o_move rfl | exact o_eq rfl rfl | exact o_ptrNil rfl rfl | exact o_nilNil rfl rfl | exact o_notT rfl | exact o_notF rfl | exact o_notD rfl | exact o_notB rfl | exact o_pickT rfl rfl | exact o_pickF rfl rfl | exact o_lenS rfl | exact o_lenStr rfl | exact o_ne rfl rfl | exact o_ptrNilN rfl rfl | exact o_nilNilN rfl rfl | exact o_nil rfl | exact o_nilFn rfl | exact o_fld rfl | exact o_load rfl rfl | exact o_load rfl (by assumption) | exact o_add rfl rfl (by unfold I64; omega)) rfl ?_ | refine L.gYes rfl rfl rfl ?_ | refine L.gNo rfl rfl rfl rfl rfl ?_ | refine L.gUnd rfl rfl rfl rfl ?_ | refine S.block ?_ | refine S.pop ?_ | refine S.skip ?_ | refine S.exit rfl ?_ | refine S.condT rfl ?_ | refine S.condF rfl ?_))
        refine S.fin (Fin.one rfl (RV.tmp rfl)) (fun w hs => ?_)
        rw [hw]
        exact ⟨rfl, A', Ad', hP', hD', hs⟩
  · have hw : p.write D i b = (p, D, 1) := by unfold PgM.write; rw [if_pos (Or.inl hfi)]
    rw [decide_eq_false hfi]
    (repeat (first | refine S.seq ?_ | refine S.region ?_ | refine L.nil ?_ | refine L.p (by first | exact o_assign rfl | exact o_move rfl | exact o_eq rfl rfl | exact o_ptrNil rfl rfl | exact o_nilNil rfl rfl | exact o_notT rfl | exact o_notF rfl | exact o_notD rfl | exact o_notB rfl | exact o_pickT rfl rfl | exact o_pickF rfl rfl | exact o_lenS rfl | exact o_lenStr rfl | exact o_ne rfl rfl | exact o_ptrNilN rfl rfl | exact o_nilNilN rfl rfl | exact o_nil rfl | exact o_nilFn rfl | exact o_fld rfl | exact o_load rfl rfl | exact o_load rfl (by assumption) | exact o_add rfl rfl (by unfold I64; omega)) rfl ?_ | refine L.gYes rfl rfl rfl ?_ | refine L.gNo rfl rfl rfl rfl rfl ?_ | refine L.gUnd rfl rfl rfl rfl ?_ | refine S.block ?_ | refine S.pop ?_ | refine S.skip ?_ | refine S.exit rfl ?_ | refine S.condT rfl ?_ | refine S.condF rfl ?_))
    refine S.fin (Fin.one rfl (RV.tmp rfl)) (fun w hs => ?_)
    rw [hw]
    exact ⟨rfl, A, Ad, hP, hD, hs⟩

theorem pdrop_nil {w : World} {H : List Atom} {i : Int} (hs : Sat w H) : Calls Try.prog 30 [.pointer none, .int .i64 i].toArray w (fun e w' => e = .returned (.int .i64 1) ∧ Sat w' H) := by
  refine enter Try.func30 rfl Try.ntmps30 rfl hs ?_
  (repeat (first | refine S.seq ?_ | refine S.region ?_ | refine L.nil ?_ | refine L.p (by first | exact o_assign rfl | exact o_move rfl | exact o_eq rfl rfl | exact o_ptrNil rfl rfl | exact o_nilNil rfl rfl | exact o_nil rfl | exact o_nilFn rfl | exact o_fld rfl | exact o_load rfl rfl | exact o_load rfl (by assumption) | exact o_notT rfl | exact o_notF rfl | exact o_notD rfl | exact o_notB rfl | exact o_pickT rfl rfl | exact o_pickF rfl rfl) rfl ?_ | refine L.gYes rfl rfl rfl ?_ | refine L.gNo rfl rfl rfl rfl rfl ?_ | refine L.gUnd rfl rfl rfl rfl ?_ | refine L.store rfl rfl (blt_iff.1 rfl) rfl ?_ | refine S.block ?_ | refine S.pop ?_ | refine S.skip ?_ | refine S.exit rfl ?_ | refine S.condT rfl ?_ | refine S.condF rfl ?_))
  refine S.fin (Fin.one rfl (RV.tmp rfl)) (fun w hs => ?_)
  exact ⟨rfl, hs⟩
theorem Own.ints {v : Value} {l : List Int} {A H : List Atom} (h : Own 3 1 v (zs l) A) (hs : ∀ x ∈ A, x ∈ H) : IntsIn H l v := by
  generalize hq : zs l = q at h
  cases h with
  | nil =>
    have : l = [] := by simpa [zs] using hq
    subst this; exact .none rfl
  | @mk b len cap _ extra hx hc h1 =>
    subst hq
    simp only [zs_length, Nat.mul_one] at hx
    subst hx
    exact .mk (o := 0) (cs := zs l ++ extra) h1 (.inl ⟨3, hs _ (by simp)⟩) (by simp) (by rw [List.drop_zero]; exact List.take_left' (by simp))
theorem pdrop_calls {w : World} {A H : List Atom} {bp bd n : Nat} {p : PgM} {i : Int} (hn2 : n ≤ 4096) (hP : PagerAt bp bd n p A) (hs : Sat w (A ++ H)) :
    Calls Try.prog 30 [ptr bp, .int .i64 i].toArray w (fun e w' => e = .returned (.int .i64 (p.drop i).2) ∧ ∃ A', PagerAt bp bd n (p.drop i).1 A' ∧ Sat w' (A' ++ H)) := by
  have hP0 := hP
  cases hP with
  | @mk bs bm vd es c A E wf hS hm hd =>
  replace hs := hs.re (H' := A ++ (.cells bp 115 [.int .u64 p.gen, .int .i64 p.root, .int .u64 p.epoch, ptr bd, .int .i64 p.first, .int .i64 p.pages, ptr bs, .map (some bm), vd, .bool p.broken] :: .map bm es c :: (E ++ H))) (by intro a; simp only [List.count_append, List.count_cons, List.count_nil] <;> omega)
  have hfit := wf.fit
  have hdl := wf.dl
  have hul := wf.used
  refine enter Try.func30 rfl Try.ntmps30 rfl hs ?_
  (repeat (first | refine S.seq ?_ | refine S.region ?_ | refine L.nil ?_ | refine L.p (by first | exact o_assign rfl | exact o_move rfl | exact o_eq rfl rfl | exact o_ptrNil rfl rfl | exact o_nilNil rfl rfl | exact o_nil rfl | exact o_nilFn rfl | exact o_fld rfl | exact o_load rfl rfl | exact o_load rfl (by assumption) | exact o_notT rfl | exact o_notF rfl | exact o_notD rfl | exact o_notB rfl | exact o_pickT rfl rfl | exact o_pickF rfl rfl) rfl ?_ | refine L.gYes rfl rfl rfl ?_ | refine L.gNo rfl rfl rfl rfl rfl ?_ | refine L.gUnd rfl rfl rfl rfl ?_ | refine L.store rfl rfl (blt_iff.1 rfl) rfl ?_ | refine S.block ?_ | refine S.pop ?_ | refine S.skip ?_ | refine S.exit rfl ?_ | refine S.condT rfl ?_ | refine S.condF rfl ?_))
  refine L.callR rfl (hc_func Try.func62 (by decide) rfl rfl) rfl (fun w hs => staken_calls hS hs) ?_
  rintro e w' ⟨rfl, hs'⟩
  refine ⟨_, _, rfl, (by assumption), ?_⟩
  by_cases ht : 0 ≤ i ∧ i < p.used.length ∧ p.used.getD i.toNat false = true
  · have htk : takenM p.used i = true := decide_eq_true ht
    rw [decide_eq_true ht]
    (repeat (first | refine S.seq ?_ | refine S.region ?_ | refine L.nil ?_ | refine L.p (by first | exact o_assign rfl | exact o_move rfl | exact o_eq rfl rfl | exact o_ptrNil rfl rfl | exact o_nilNil rfl rfl | exact o_nil rfl | exact o_nilFn rfl | exact o_fld rfl | exact o_load rfl rfl | exact o_load rfl (by assumption) | exact o_notT rfl | exact o_notF rfl | exact o_notD rfl | exact o_notB rfl | exact o_pickT rfl rfl | exact o_pickF rfl rfl) rfl ?_ | refine L.gYes rfl rfl rfl ?_ | refine L.gNo rfl rfl rfl rfl rfl ?_ | refine L.gUnd rfl rfl rfl rfl ?_ | refine L.store rfl rfl (blt_iff.1 rfl) rfl ?_ | refine S.block ?_ | refine S.pop ?_ | refine S.skip ?_ | refine S.exit rfl ?_ | refine S.condT rfl ?_ | refine S.condF rfl ?_))
    refine L.callR rfl (hc_func Try.func63 (by decide) rfl rfl) rfl (fun w hs => contains_calls (hd.ints (H := A ++ (.cells bp 115 [.int .u64 p.gen, .int .i64 p.root, .int .u64 p.epoch, ptr bd, .int .i64 p.first, .int .i64 p.pages, ptr bs, .map (some bm), vd, .bool p.broken] :: .map bm es c :: (E ++ H))) (by intro x hx; simp [hx])) (by omega) hs) ?_
    rintro e w' ⟨rfl, hs'⟩
    refine ⟨_, _, rfl, (by assumption), ?_⟩
    by_cases hdi : i ∈ p.dropped
    · have hw : p.drop i = (p, 1) := by unfold PgM.drop; rw [if_pos (Or.inr hdi)]
      rw [decide_eq_true hdi]
      (repeat (first | refine S.seq ?_ | refine S.region ?_ | refine L.nil ?_ | refine L.p (by first | exact o_assign rfl | exact o_move rfl | exact o_eq rfl rfl | exact o_ptrNil rfl rfl | exact o_nilNil rfl rfl | exact o_nil rfl | exact o_nilFn rfl | exact o_fld rfl | exact o_load rfl rfl | exact o_load rfl (by assumption) | exact o_notT rfl | exact o_notF rfl | exact o_notD rfl | exact o_notB rfl | exact o_pickT rfl rfl | exact o_pickF rfl rfl) rfl ?_ | refine L.gYes rfl rfl rfl ?_ | refine L.gNo rfl rfl rfl rfl rfl ?_ | refine L.gUnd rfl rfl rfl rfl ?_ | refine L.store rfl rfl (blt_iff.1 rfl) rfl ?_ | refine S.block ?_ | refine S.pop ?_ | refine S.skip ?_ | refine S.exit rfl ?_ | refine S.condT rfl ?_ | refine S.condF rfl ?_))
      refine S.fin (Fin.one rfl (RV.tmp rfl)) (fun w hs => ?_)
      rw [hw]
      exact ⟨rfl, .cells bp 115 [.int .u64 p.gen, .int .i64 p.root, .int .u64 p.epoch, ptr bd, .int .i64 p.first, .int .i64 p.pages, ptr bs, .map (some bm), vd, .bool p.broken] :: .map bm es c :: (A ++ E), .mk wf hS hm hd, hs.re (by intro a; simp only [List.count_append, List.count_cons, List.count_nil] <;> omega)⟩
    · rw [decide_eq_false hdi]
      (repeat (first | refine S.seq ?_ | refine S.region ?_ | refine L.nil ?_ | refine L.p (by first | exact o_assign rfl | exact o_move rfl | exact o_eq rfl rfl | exact o_ptrNil rfl rfl | exact o_nilNil rfl rfl | exact o_nil rfl | exact o_nilFn rfl | exact o_fld rfl | exact o_load rfl rfl | exact o_load rfl (by assumption) | exact o_notT rfl | exact o_notF rfl | exact o_notD rfl | exact o_notB rfl | exact o_pickT rfl rfl | exact o_pickF rfl rfl) rfl ?_ | refine L.gYes rfl rfl rfl ?_ | refine L.gNo rfl rfl rfl rfl rfl ?_ | refine L.gUnd rfl rfl rfl rfl ?_ | refine L.store rfl rfl (blt_iff.1 rfl) rfl ?_ | refine S.block ?_ | refine S.pop ?_ | refine S.skip ?_ | refine S.exit rfl ?_ | refine S.condT rfl ?_ | refine S.condF rfl ?_))
      refine L.callR rfl (hc_func Try.func68 (by decide) rfl rfl) rfl (fun w hs => pfresh_calls (H := H) (A := .cells bp 115 [.int .u64 p.gen, .int .i64 p.root, .int .u64 p.epoch, ptr bd, .int .i64 p.first, .int .i64 p.pages, ptr bs, .map (some bm), vd, .bool p.broken] :: .map bm es c :: (A ++ E)) (.mk wf hS hm hd) (hs.re (by intro a; simp only [List.count_append, List.count_cons, List.count_nil] <;> omega))) ?_
      rintro e w' ⟨rfl, hs'⟩
      refine ⟨_, A ++ (.cells bp 115 [.int .u64 p.gen, .int .i64 p.root, .int .u64 p.epoch, ptr bd, .int .i64 p.first, .int .i64 p.pages, ptr bs, .map (some bm), vd, .bool p.broken] :: .map bm es c :: (E ++ H)), rfl, hs'.re (by intro a; simp only [List.count_append, List.count_cons, List.count_nil] <;> omega), ?_⟩
      by_cases hfi : i ∈ p.fresh
      · have hw : p.drop i = ({ p with fresh := p.fresh.erase i, used := giveM p.used i }, 0) := by unfold PgM.drop; rw [if_neg (by simp [htk, hdi]), if_pos hfi]
        rw [decide_eq_true hfi]
        (repeat (first | refine S.seq ?_ | refine S.region ?_ | refine L.nil ?_ | refine L.p (by first | exact o_assign rfl | exact o_move rfl | exact o_eq rfl rfl | exact o_ptrNil rfl rfl | exact o_nilNil rfl rfl | exact o_nil rfl | exact o_nilFn rfl | exact o_fld rfl | exact o_load rfl rfl | exact o_load rfl (by assumption) | exact o_notT rfl | exact o_notF rfl | exact o_notD rfl | exact o_notB rfl | exact o_pickT rfl rfl | exact o_pickF rfl rfl) rfl ?_ | refine L.gYes rfl rfl rfl ?_ | refine L.gNo rfl rfl rfl rfl rfl ?_ | refine L.gUnd rfl rfl rfl rfl ?_ | refine L.store rfl rfl (blt_iff.1 rfl) rfl ?_ | refine S.block ?_ | refine S.pop ?_ | refine S.skip ?_ | refine S.exit rfl ?_ | refine S.condT rfl ?_ | refine S.condF rfl ?_))
        refine L.deleteS rfl rfl hm (fun es' hm' => ?_)
        (repeat (first | refine S.seq ?_ | refine S.region ?_ | refine L.nil ?_ | refine L.p (by first | exact o_assign rfl | exact o_move rfl | exact o_eq rfl rfl | exact o_ptrNil rfl rfl | exact o_nilNil rfl rfl | exact o_nil rfl | exact o_nilFn rfl | exact o_fld rfl | exact o_load rfl rfl | exact o_load rfl (by assumption) | exact o_notT rfl | exact o_notF rfl | exact o_notD rfl | exact o_notB rfl | exact o_pickT rfl rfl | exact o_pickF rfl rfl) rfl ?_ | refine L.gYes rfl rfl rfl ?_ | refine L.gNo rfl rfl rfl rfl rfl ?_ | refine L.gUnd rfl rfl rfl rfl ?_ | refine L.store rfl rfl (blt_iff.1 rfl) rfl ?_ | refine S.block ?_ | refine S.pop ?_ | refine S.skip ?_ | refine S.exit rfl ?_ | refine S.condT rfl ?_ | refine S.condF rfl ?_))
        refine L.callR rfl (hc_func Try.func67 (by decide) rfl rfl) rfl (fun w hs => give_calls hS hs) ?_
        rintro e w' ⟨A', rfl, hS', hs'⟩
        refine ⟨_, _, rfl, (by assumption), ?_⟩
        (repeat (first | refine S.seq ?_ | refine S.region ?_ | refine L.nil ?_ | refine L.p (by first | exact o_assign rfl | exact o_move rfl | exact o_eq rfl rfl | exact o_ptrNil rfl rfl | exact o_nilNil rfl rfl | exact o_nil rfl | exact o_nilFn rfl | exact o_fld rfl | exact o_load rfl rfl | exact o_load rfl (by assumption) | exact o_notT rfl | exact o_notF rfl | exact o_notD rfl | exact o_notB rfl | exact o_pickT rfl rfl | exact o_pickF rfl rfl) rfl ?_ | refine L.gYes rfl rfl rfl ?_ | refine L.gNo rfl rfl rfl rfl rfl ?_ | refine L.gUnd rfl rfl rfl rfl ?_ | refine L.store rfl rfl (blt_iff.1 rfl) rfl ?_ | refine S.block ?_ | refine S.pop ?_ | refine S.skip ?_ | refine S.exit rfl ?_ | refine S.condT rfl ?_ | refine S.condF rfl ?_))
        refine S.fin (Fin.one rfl (RV.tmp rfl)) (fun w hs => ?_)
        rw [hw]
        refine ⟨by rw [if_pos ht], .cells bp 115 [.int .u64 p.gen, .int .i64 p.root, .int .u64 p.epoch, ptr bd, .int .i64 p.first, .int .i64 p.pages, ptr bs, .map (some bm), vd, .bool p.broken] :: .map bm es' c :: (A' ++ E), ?_, hs.re (by intro a; simp only [List.count_append, List.count_cons, List.count_nil] <;> omega)⟩
        exact .mk ⟨wf.gen, wf.root, wf.epoch, wf.pages, wf.fit, by simpa using wf.used, wf.dnd, wf.drg, wf.fnd.erase _⟩ hS' hm' hd
      · have hw : p.drop i = ({ p with dropped := p.dropped ++ [i] }, 0) := by unfold PgM.drop; rw [if_neg (by simp [htk, hdi]), if_neg hfi]
        rw [decide_eq_false hfi]
        (repeat (first | refine S.seq ?_ | refine S.region ?_ | refine L.nil ?_ | refine L.p (by first | exact o_assign rfl | exact o_move rfl | exact o_eq rfl rfl | exact o_ptrNil rfl rfl | exact o_nilNil rfl rfl | exact o_nil rfl | exact o_nilFn rfl | exact o_fld rfl | exact o_load rfl rfl | exact o_load rfl (by assumption) | exact o_notT rfl | exact o_notF rfl | exact o_notD rfl | exact o_notB rfl | exact o_pickT rfl rfl | exact o_pickF rfl rfl) rfl ?_ | refine L.gYes rfl rfl rfl ?_ | refine L.gNo rfl rfl rfl rfl rfl ?_ | refine L.gUnd rfl rfl rfl rfl ?_ | refine L.store rfl rfl (blt_iff.1 rfl) rfl ?_ | refine S.block ?_ | refine S.pop ?_ | refine S.skip ?_ | refine S.exit rfl ?_ | refine S.condT rfl ?_ | refine S.condF rfl ?_))
        refine L.slice1 rfl [.int .i64 i] rfl (by rfl) (by rfl) rfl (by decide) (fun b1 => ?_)
        (repeat (first | refine S.seq ?_ | refine S.region ?_ | refine L.nil ?_ | refine L.p (by first | exact o_assign rfl | exact o_move rfl | exact o_eq rfl rfl | exact o_ptrNil rfl rfl | exact o_nilNil rfl rfl | exact o_nil rfl | exact o_nilFn rfl | exact o_fld rfl | exact o_load rfl rfl | exact o_load rfl (by assumption) | exact o_notT rfl | exact o_notF rfl | exact o_notD rfl | exact o_notB rfl | exact o_pickT rfl rfl | exact o_pickF rfl rfl) rfl ?_ | refine L.gYes rfl rfl rfl ?_ | refine L.gNo rfl rfl rfl rfl rfl ?_ | refine L.gUnd rfl rfl rfl rfl ?_ | refine L.store rfl rfl (blt_iff.1 rfl) rfl ?_ | refine S.block ?_ | refine S.pop ?_ | refine S.skip ?_ | refine S.exit rfl ?_ | refine S.condT rfl ?_ | refine S.condF rfl ?_))
        refine L.append (m := 1) (cnt := p.dropped.length) (news := [.int .i64 i]) (A := E) (R := .cells b1 3 [.int .i64 i] :: (A ++ (.cells bp 115 [.int .u64 p.gen, .int .i64 p.root, .int .u64 p.epoch, ptr bd, .int .i64 p.first, .int .i64 p.pages, ptr bs, .map (some bm), vd, .bool p.broken] :: .map bm es c :: H))) rfl hd rfl (Own.src3 (by simp)) lenOf_slice rfl (by simp [Value.oneCell']) (by simp) (by omega) (by decide) rfl (by intro a; simp only [List.count_append, List.count_cons, List.count_nil] <;> omega) rfl (fun a' c' A' ho => ?_)
        (repeat (first | refine S.seq ?_ | refine S.region ?_ | refine L.nil ?_ | refine L.p (by first | exact o_assign rfl | exact o_move rfl | exact o_eq rfl rfl | exact o_ptrNil rfl rfl | exact o_nilNil rfl rfl | exact o_nil rfl | exact o_nilFn rfl | exact o_fld rfl | exact o_load rfl rfl | exact o_load rfl (by assumption) | exact o_notT rfl | exact o_notF rfl | exact o_notD rfl | exact o_notB rfl | exact o_pickT rfl rfl | exact o_pickF rfl rfl) rfl ?_ | refine L.gYes rfl rfl rfl ?_ | refine L.gNo rfl rfl rfl rfl rfl ?_ | refine L.gUnd rfl rfl rfl rfl ?_ | refine L.store rfl rfl (blt_iff.1 rfl) rfl ?_ | refine S.block ?_ | refine S.pop ?_ | refine S.skip ?_ | refine S.exit rfl ?_ | refine S.condT rfl ?_ | refine S.condF rfl ?_))
        refine S.fin (Fin.one rfl (RV.tmp rfl)) (fun w hs => ?_)
        rw [hw]
        refine ⟨rfl, .cells bp 115 [.int .u64 p.gen, .int .i64 p.root, .int .u64 p.epoch, ptr bd, .int .i64 p.first, .int .i64 p.pages, ptr bs, .map (some bm), .slice a' (p.dropped.length + 1) c', .bool p.broken] :: .map bm es c :: (A ++ A'), ?_, hs.less (by intro a; simp only [List.count_append, List.count_cons, List.count_nil] <;> omega)⟩
        refine .mk ⟨wf.gen, wf.root, wf.epoch, wf.pages, wf.fit, wf.used, ?_, ?_, wf.fnd⟩ hS hm (by show Own 3 1 _ (zs (p.dropped ++ [i])) _; rw [show zs (p.dropped ++ [i]) = zs p.dropped ++ [.int .i64 i] by simp [zs]]; exact ho)
        · show (p.dropped ++ [i]).Nodup
          rw [List.nodup_append]
          exact ⟨wf.dnd, by simp, fun a ha b hb => by simp at hb; subst hb; exact fun e => hdi (e ▸ ha)⟩
        · intro x hx
          rcases List.mem_append.1 hx with hx | hx
          · exact wf.drg x hx
          · have : x = i := by simpa using hx
            subst this
            exact ⟨ht.1, by show x < (p.pages : Int); omega⟩
  · have htk : takenM p.used i = false := decide_eq_false ht
    have hw : p.drop i = (p, 1) := by unfold PgM.drop; rw [if_pos (Or.inl htk)]
    rw [decide_eq_false ht]
    (repeat (first | refine S.seq ?_ | refine S.region ?_ | refine L.nil ?_ | refine L.p (by first | exact o_assign rfl | exact o_move rfl | exact o_eq rfl rfl | exact o_ptrNil rfl rfl | exact o_nilNil rfl rfl | exact o_nil rfl | exact o_nilFn rfl | exact o_fld rfl | exact o_load rfl rfl | exact o_load rfl (by assumption) | exact o_notT rfl | exact o_notF rfl | exact o_notD rfl | exact o_notB rfl | exact o_pickT rfl rfl | exact o_pickF rfl rfl) rfl ?_ | refine L.gYes rfl rfl rfl ?_ | refine L.gNo rfl rfl rfl rfl rfl ?_ | refine L.gUnd rfl rfl rfl rfl ?_ | refine L.store rfl rfl (blt_iff.1 rfl) rfl ?_ | refine S.block ?_ | refine S.pop ?_ | refine S.skip ?_ | refine S.exit rfl ?_ | refine S.condT rfl ?_ | refine S.condF rfl ?_))
    refine S.fin (Fin.one rfl (RV.tmp rfl)) (fun w hs => ?_)
    rw [hw]
    exact ⟨rfl, .cells bp 115 [.int .u64 p.gen, .int .i64 p.root, .int .u64 p.epoch, ptr bd, .int .i64 p.first, .int .i64 p.pages, ptr bs, .map (some bm), vd, .bool p.broken] :: .map bm es c :: (A ++ E), .mk wf hS hm hd, hs.re (by intro a; simp only [List.count_append, List.count_cons, List.count_nil] <;> omega)⟩

theorem pflush_calls {w : World} {A Ad H : List Atom} {bp bd n : Nat} {p : PgM} {D : DiskM} (hpb : D.pend.length ≤ 1000000)
    (hP : PagerAt bp bd n p A) (hD : DiskAt bd D Ad) (hs : Sat w (A ++ (Ad ++ H))) :
    Calls Try.prog 64 [ptr bp].toArray w (fun e w' => e = .returned (.int .i64 (p.flush D).2.2) ∧ ∃ A' Ad', PagerAt bp bd n (p.flush D).1 A' ∧ DiskAt bd (p.flush D).2.1 Ad' ∧ Sat w' (A' ++ (Ad' ++ H))) := by
  cases hP with
  | @mk bs bm vd es c A E wf hS hm hd =>
  replace hs := hs.re (H' := A ++ (.cells bp 115 [.int .u64 p.gen, .int .i64 p.root, .int .u64 p.epoch, ptr bd, .int .i64 p.first, .int .i64 p.pages, ptr bs, .map (some bm), vd, .bool p.broken] :: .map bm es c :: (E ++ (Ad ++ H)))) (by intro a; simp only [List.count_append, List.count_cons, List.count_nil] <;> omega)
  refine enter Try.func64 rfl Try.ntmps64 rfl hs ?_
  (repeat (first | refine S.seq ?_ | refine S.region ?_ | refine L.nil ?_ | refine L.p (by first | exact o_assign rfl | exact o_move rfl | exact o_nil rfl | exact o_nilFn rfl | exact o_fld rfl | exact o_load rfl rfl | exact o_load rfl (by assumption) | exact o_ne rfl rfl | exact o_ptrNilN rfl rfl | exact o_nilNilN rfl rfl) rfl ?_ | refine L.store rfl rfl (blt_iff.1 rfl) rfl ?_ | refine S.block ?_ | refine S.pop ?_ | refine S.skip ?_ | refine S.exit rfl ?_ | refine S.condT rfl ?_ | refine S.condF rfl ?_))
  refine L.callR rfl (hc_func Try.func89 (by decide) rfl rfl) rfl (fun w hs => flush_calls (H := A ++ (.cells bp 115 [.int .u64 p.gen, .int .i64 p.root, .int .u64 p.epoch, ptr bd, .int .i64 p.first, .int .i64 p.pages, ptr bs, .map (some bm), vd, .bool p.broken] :: .map bm es c :: (E ++ H))) hpb hD (hs.re (by intro a; simp only [List.count_append, List.count_cons, List.count_nil] <;> omega))) ?_
  rintro e w' ⟨rfl, Ad', hD', hs'⟩
  refine ⟨_, _, rfl, (by assumption), ?_⟩
  (repeat (first | refine S.seq ?_ | refine S.region ?_ | refine L.nil ?_ | refine L.p (by first | exact o_assign rfl | exact o_move rfl | exact o_nil rfl | exact o_nilFn rfl | exact o_fld rfl | exact o_load rfl rfl | exact o_load rfl (by assumption) | exact o_ne rfl rfl | exact o_ptrNilN rfl rfl | exact o_nilNilN rfl rfl) rfl ?_ | refine L.store rfl rfl (blt_iff.1 rfl) rfl ?_ | refine S.block ?_ | refine S.pop ?_ | refine S.skip ?_ | refine S.exit rfl ?_ | refine S.condT rfl ?_ | refine S.condF rfl ?_))
  refine S.fin (Fin.one rfl (RV.tmp rfl)) (fun w hs => ?_)
  have hs2 : Sat w (Ad' ++ (A ++ (.cells bp 115 [.int .u64 p.gen, .int .i64 p.root, .int .u64 p.epoch, ptr bd, .int .i64 p.first, .int .i64 p.pages, ptr bs, .map (some bm), vd, .bool (decide (D.flush.2 ≠ 0))] :: .map bm es c :: (E ++ H)))) := hs
  exact ⟨rfl, .cells bp 115 [.int .u64 p.gen, .int .i64 p.root, .int .u64 p.epoch, ptr bd, .int .i64 p.first, .int .i64 p.pages, ptr bs, .map (some bm), vd, .bool (decide (D.flush.2 ≠ 0))] :: .map bm es c :: (A ++ E), Ad', .mk (wf.broken _) hS hm hd, hD', hs2.re (by intro a; simp only [List.count_append, List.count_cons, List.count_nil] <;> omega)⟩

theorem pundo_nil {w : World} {H : List Atom} (hs : Sat w H) : Calls Try.prog 29 [.pointer none].toArray w (fun e w' => e = .returned (.tuple #[]) ∧ Sat w' H) := by
  refine enter Try.func29 rfl Try.ntmps29 rfl hs ?_
  (repeat (first | refine S.seq ?_ | refine S.region ?_ | refine L.nil ?_ | refine L.p (by first | exact o_move rfl | exact o_eq rfl rfl | exact o_ptrNil rfl rfl | exact o_nilNil rfl rfl | exact o_nil rfl | exact o_nilFn rfl | exact o_fld rfl | exact o_load rfl rfl | exact o_load rfl (by assumption) | exact o_lt rfl rfl | exact o_assign rfl | exact o_add rfl rfl (by unfold I64; omega)) rfl ?_ | refine S.block ?_ | refine S.pop ?_ | refine S.skip ?_ | refine S.exit rfl ?_ | refine S.condT rfl ?_ | refine S.condF rfl ?_))
  refine S.fin (Fin.zero rfl) (fun w hs => ?_)
  exact ⟨rfl, hs⟩
theorem pundo_calls {w : World} {A H : List Atom} {bp bd n : Nat} {p : PgM} (hn2 : n ≤ 4096) (hP : PagerAt bp bd n p A) (hs : Sat w (A ++ H)) :
    Calls Try.prog 29 [ptr bp].toArray w (fun e w' => e = .returned (.tuple #[]) ∧ ∃ A', PagerAt bp bd n p.undo A' ∧ Sat w' (A' ++ H)) := by
  cases hP with
  | @mk bs bm vd es c A E wf hS hm hd =>
  replace hs := hs.re (H' := A ++ (.cells bp 115 [.int .u64 p.gen, .int .i64 p.root, .int .u64 p.epoch, ptr bd, .int .i64 p.first, .int .i64 p.pages, ptr bs, .map (some bm), vd, .bool p.broken] :: .map bm es c :: (E ++ H))) (by intro a; simp only [List.count_append, List.count_cons, List.count_nil] <;> omega)
  have hfit := wf.fit
  refine enter Try.func29 rfl Try.ntmps29 rfl hs ?_
  (repeat (first | refine S.seq ?_ | refine S.region ?_ | refine L.nil ?_ | refine L.p (by first | exact o_move rfl | exact o_eq rfl rfl | exact o_ptrNil rfl rfl | exact o_nilNil rfl rfl | exact o_nil rfl | exact o_nilFn rfl | exact o_fld rfl | exact o_load rfl rfl | exact o_load rfl (by assumption) | exact o_lt rfl rfl | exact o_assign rfl | exact o_add rfl rfl (by unfold I64; omega)) rfl ?_ | refine S.block ?_ | refine S.pop ?_ | refine S.skip ?_ | refine S.exit rfl ?_ | refine S.condT rfl ?_ | refine S.condF rfl ?_))
  refine S.loop (G := Nat × List Atom) (fun s => s.1 ≤ p.pages ∧ SpaceAt bs (undoM p.fresh s.1 p.used) s.2)
    (fun s => [(8, .int .i64 p.pages), (9, .int .i64 s.1), (0, ptr bp)])
    (fun s => s.2 ++ (.cells bp 115 [.int .u64 p.gen, .int .i64 p.root, .int .u64 p.epoch, ptr bd, .int .i64 p.first, .int .i64 p.pages, ptr bs, .map (some bm), vd, .bool p.broken] :: .map bm es c :: (E ++ H))) (fun s => p.pages - s.1) (0, A) ⟨by simp, hS⟩ (by repeat (first | exact trivial | refine ⟨rfl, ?_⟩)) (fun w hs => hs) ?_
  rintro ⟨i, A⟩ m ⟨h1, hS⟩ hm2
  simp only at h1 hS hm2
  dsimp only
  (repeat (first | refine S.seq ?_ | refine S.region ?_ | refine L.nil ?_ | refine L.p (by first | exact o_move rfl | exact o_eq rfl rfl | exact o_ptrNil rfl rfl | exact o_nilNil rfl rfl | exact o_nil rfl | exact o_nilFn rfl | exact o_fld rfl | exact o_load rfl rfl | exact o_load rfl (by assumption) | exact o_lt rfl rfl | exact o_assign rfl | exact o_add rfl rfl (by unfold I64; omega)) rfl ?_ | refine S.block ?_ | refine S.pop ?_ | refine S.skip ?_ | refine S.exit rfl ?_ | refine S.condT rfl ?_ | refine S.condF rfl ?_))
  refine S.condD rfl (fun hi => ?_) (fun hi => ?_)
  · have hi' : i < p.pages := by omega
    (repeat (first | refine S.seq ?_ | refine S.region ?_ | refine L.nil ?_ | refine L.p (by first | exact o_move rfl | exact o_eq rfl rfl | exact o_ptrNil rfl rfl | exact o_nilNil rfl rfl | exact o_nil rfl | exact o_nilFn rfl | exact o_fld rfl | exact o_load rfl rfl | exact o_load rfl (by assumption) | exact o_lt rfl rfl | exact o_assign rfl | exact o_add rfl rfl (by unfold I64; omega)) rfl ?_ | refine S.block ?_ | refine S.pop ?_ | refine S.skip ?_ | refine S.exit rfl ?_ | refine S.condT rfl ?_ | refine S.condF rfl ?_))
    refine L.callR rfl (hc_func Try.func68 (by decide) rfl rfl) rfl (fun w hs => pfresh_calls (p := { p with used := undoM p.fresh i p.used }) (H := H) (A := .cells bp 115 [.int .u64 p.gen, .int .i64 p.root, .int .u64 p.epoch, ptr bd, .int .i64 p.first, .int .i64 p.pages, ptr bs, .map (some bm), vd, .bool p.broken] :: .map bm es c :: (A ++ E)) (.mk (giveM_wf wf (by simpa using wf.used)) hS hm hd) (hs.re (by intro a; simp only [List.count_append, List.count_cons, List.count_nil] <;> omega))) ?_
    rintro e w' ⟨rfl, hs'⟩
    refine ⟨_, A ++ (.cells bp 115 [.int .u64 p.gen, .int .i64 p.root, .int .u64 p.epoch, ptr bd, .int .i64 p.first, .int .i64 p.pages, ptr bs, .map (some bm), vd, .bool p.broken] :: .map bm es c :: (E ++ H)), rfl, hs'.re (by intro a; simp only [List.count_append, List.count_cons, List.count_nil] <;> omega), ?_⟩
    (repeat (first | refine S.seq ?_ | refine S.region ?_ | refine L.nil ?_ | refine L.p (by first | exact o_move rfl | exact o_eq rfl rfl | exact o_ptrNil rfl rfl | exact o_nilNil rfl rfl | exact o_nil rfl | exact o_nilFn rfl | exact o_fld rfl | exact o_load rfl rfl | exact o_load rfl (by assumption) | exact o_lt rfl rfl | exact o_assign rfl | exact o_add rfl rfl (by unfold I64; omega)) rfl ?_ | refine S.block ?_ | refine S.pop ?_ | refine S.skip ?_ | refine S.exit rfl ?_ | refine S.condT rfl ?_ | refine S.condF rfl ?_))
    refine S.condD rfl (fun hfi => ?_) (fun hfi => ?_)
    · (repeat (first | refine S.seq ?_ | refine S.region ?_ | refine L.nil ?_ | refine L.p (by first | exact o_move rfl | exact o_eq rfl rfl | exact o_ptrNil rfl rfl | exact o_nilNil rfl rfl | exact o_nil rfl | exact o_nilFn rfl | exact o_fld rfl | exact o_load rfl rfl | exact o_load rfl (by assumption) | exact o_lt rfl rfl | exact o_assign rfl | exact o_add rfl rfl (by unfold I64; omega)) rfl ?_ | refine S.block ?_ | refine S.pop ?_ | refine S.skip ?_ | refine S.exit rfl ?_ | refine S.condT rfl ?_ | refine S.condF rfl ?_))
      refine L.callR rfl (hc_func Try.func67 (by decide) rfl rfl) rfl (fun w hs => give_calls hS hs) ?_
      rintro e w' ⟨A', rfl, hS', hs'⟩
      refine ⟨_, _, rfl, (by assumption), ?_⟩
      (repeat (first | refine S.seq ?_ | refine S.region ?_ | refine L.nil ?_ | refine L.p (by first | exact o_move rfl | exact o_eq rfl rfl | exact o_ptrNil rfl rfl | exact o_nilNil rfl rfl | exact o_nil rfl | exact o_nilFn rfl | exact o_fld rfl | exact o_load rfl rfl | exact o_load rfl (by assumption) | exact o_lt rfl rfl | exact o_assign rfl | exact o_add rfl rfl (by unfold I64; omega)) rfl ?_ | refine S.block ?_ | refine S.pop ?_ | refine S.skip ?_ | refine S.exit rfl ?_ | refine S.condT rfl ?_ | refine S.condF rfl ?_))
      refine S.round (fun ac_ w hac_ hs => ⟨((i + 1, A')), ⟨?_, (by (try dsimp only); omega)⟩, hac_.weaken (look_sub (by repeat (first | exact trivial | refine ⟨rfl, ?_⟩))), (by (try dsimp only); exact hs)⟩)
      refine ⟨by omega, ?_⟩
      dsimp only
      rw [undoM, if_pos hfi]
      exact hS'
    · (repeat (first | refine S.seq ?_ | refine S.region ?_ | refine L.nil ?_ | refine L.p (by first | exact o_move rfl | exact o_eq rfl rfl | exact o_ptrNil rfl rfl | exact o_nilNil rfl rfl | exact o_nil rfl | exact o_nilFn rfl | exact o_fld rfl | exact o_load rfl rfl | exact o_load rfl (by assumption) | exact o_lt rfl rfl | exact o_assign rfl | exact o_add rfl rfl (by unfold I64; omega)) rfl ?_ | refine S.block ?_ | refine S.pop ?_ | refine S.skip ?_ | refine S.exit rfl ?_ | refine S.condT rfl ?_ | refine S.condF rfl ?_))
      refine S.round (fun ac_ w hac_ hs => ⟨((i + 1, A)), ⟨?_, (by (try dsimp only); omega)⟩, hac_.weaken (look_sub (by repeat (first | exact trivial | refine ⟨rfl, ?_⟩))), (by (try dsimp only); exact hs)⟩)
      refine ⟨by omega, ?_⟩
      dsimp only
      rw [undoM, if_neg hfi]
      exact hS
  · have hi' : i = p.pages := by omega
    subst hi'
    (repeat (first | refine S.seq ?_ | refine S.region ?_ | refine L.nil ?_ | refine L.p (by first | exact o_move rfl | exact o_eq rfl rfl | exact o_ptrNil rfl rfl | exact o_nilNil rfl rfl | exact o_nil rfl | exact o_nilFn rfl | exact o_fld rfl | exact o_load rfl rfl | exact o_load rfl (by assumption) | exact o_lt rfl rfl | exact o_assign rfl | exact o_add rfl rfl (by unfold I64; omega)) rfl ?_ | refine S.block ?_ | refine S.pop ?_ | refine S.skip ?_ | refine S.exit rfl ?_ | refine S.condT rfl ?_ | refine S.condF rfl ?_))
    refine L.callR rfl (hc_func Try.func56 (by decide) rfl rfl) rfl (fun w hs => psettle_calls (H := .map bm es c :: (A ++ (E ++ H))) (hs.re (H' := .cells bp 115 [.int .u64 p.gen, .int .i64 p.root, .int .u64 p.epoch, ptr bd, .int .i64 p.first, .int .i64 p.pages, ptr bs, .map (some bm), vd, .bool p.broken] :: .map bm es c :: (A ++ (E ++ H))) (by intro a; simp only [List.count_append, List.count_cons, List.count_nil] <;> omega))) ?_
    rintro e w2 ⟨bm2, rfl, hs2⟩
    refine ⟨_, _, rfl, (by assumption), ?_⟩
    (repeat (first | refine S.seq ?_ | refine S.region ?_ | refine L.nil ?_ | refine L.p (by first | exact o_move rfl | exact o_eq rfl rfl | exact o_ptrNil rfl rfl | exact o_nilNil rfl rfl | exact o_nil rfl | exact o_nilFn rfl | exact o_fld rfl | exact o_load rfl rfl | exact o_load rfl (by assumption) | exact o_lt rfl rfl | exact o_assign rfl | exact o_add rfl rfl (by unfold I64; omega)) rfl ?_ | refine S.block ?_ | refine S.pop ?_ | refine S.skip ?_ | refine S.exit rfl ?_ | refine S.condT rfl ?_ | refine S.condF rfl ?_))
    refine S.end (Fin.zero rfl) (fun w hs => ?_)
    refine ⟨rfl, .cells bp 115 [.int .u64 p.gen, .int .i64 p.root, .int .u64 p.epoch, ptr bd, .int .i64 p.first, .int .i64 p.pages, ptr bs, .map (some bm2), .slice none 0 0, .bool p.broken] :: .map bm2 [] 0 :: (A ++ []), .mk (giveM_wf wf.settle (by simpa [PgM.settle] using wf.used)) hS rfl .nil, hs.less (by intro a; simp only [List.count_append, List.count_cons, List.count_nil, List.cons_append]; omega)⟩

end Go.Proofs.Ytlecgoebbjnnmaa
