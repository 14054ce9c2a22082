/- The keeper's functions: a commit. -/
import Derived.Test.YtlecgoebbjnnmaaKeeps4
import Derived.Test.YtlecgoebbjnnmaaKeeps2
set_option linter.unusedVariables false
set_option linter.unusedSimpArgs false
set_option linter.unusedSectionVars false
set_option linter.constructorNameAsVariable false
set_option maxRecDepth 100000
set_option maxHeartbeats 4000000
namespace Go.Proofs.Ytlecgoebbjnnmaa
open Go
variable [Ref]

theorem IntsIn.one' {H : List Atom} {l : List Int} {v : Value} (h : IntsIn H l v) : v.oneCell' = true := by obtain ⟨_, _, rfl⟩ := h.len; rfl
theorem StrsIn.one' {H : List Atom} {l : List (List UInt8)} {v : Value} (h : StrsIn H l v) : v.oneCell' = true := by obtain ⟨_, _, rfl⟩ := h.len; rfl

theorem kcommit_calls {w : World} {A Ad K X H : List Atom} {bk bp bd : Nat} {p : PgM} {D : DiskM} {k : KeepM} {a : ActM} {cs : List Value} (hgen : p.gen ≤ 100000) (hpb : D.pend.length ≤ 800000) (hfr : ∀ x ∈ p.fresh, 0 ≤ x ∧ x < p.pages) (hn : D.n = 15) (ha : ActCells H a cs) (hsm : a.small = true) (hk4 : a.kind = 4)
    (hP : PagerAt bp bd 15 p A) (hD : DiskAt bd D Ad) (hK : KeepAt bk bd bp X k K) (hs : Sat w (A ++ (Ad ++ (K ++ H)))) :
    Calls Try.prog 33 [ptr bk, .agg cs.toArray].toArray w (fun e w' => ∃ A' Ad' K' Y, e = .returned (.tuple #[]) ∧ PagerAt bp bd 15 (p.commit D a.n (epochM p.epoch a.m)).1 A' ∧ DiskAt bd (p.commit D a.n (epochM p.epoch a.m)).2.1 Ad' ∧
      KeepAt bk bd bp (Y ++ X) (k.commit p D a.n (epochM p.epoch a.m) (p.commit D a.n (epochM p.epoch a.m)).2.2) K' ∧ Sat w' (A' ++ (Ad' ++ (K' ++ (Y ++ H))))) := by
  have ha0 := ha
  have hwf := hP.wf
  have hK0 := hK
  cases hK with
  | @mk bu bdr bf vp1 vb1 vp2 vb2 lens g1 g2 g3 g4 =>
  obtain ⟨lu, ld, lf⟩ := lens
  have o1 := g1.one'
  have o2 := g2.one'
  have o3 := g3.one'
  have o4 := g4.one'
  cases ha with
  | @mk kind nn m b short l keep vb vl vk hb hl hk hi =>
  have hep := hwf.epoch
  have h3 := and3_le m
  have hpl : playM p D ⟨kind, nn, m, b, short, l, keep⟩ = ((p.commit D nn (epochM p.epoch m)).1, (p.commit D nn (epochM p.epoch m)).2.1, 0, (p.commit D nn (epochM p.epoch m)).2.2) := by
    have h4 : kind = 4 := hk4
    unfold playM; rw [if_neg (by simp only; omega), if_neg (by simp only; omega), if_neg (by simp only; omega), if_pos hk4]
  simp only [List.cons_append, List.nil_append] at hs
  dsimp only
  refine enter Try.func33 rfl Try.ntmps33 rfl hs ?_
  (repeat (first | refine S.seq ?_ | refine S.region ?_ | refine L.nil ?_ | refine L.p (by first | exact o_move rfl | exact o_fld rfl | exact o_load rfl rfl | exact o_load rfl (by assumption) | exact o_nil rfl | exact o_nilFn rfl | exact o_add rfl rfl (by unfold I64; omega) | exact o_sub rfl rfl (by unfold I64; omega) | exact o_ext rfl rfl | exact o_assign rfl | exact o_eq rfl rfl | exact o_ptrNil rfl rfl | exact o_nilNil rfl rfl | exact o_le rfl rfl | exact o_pickT rfl rfl | exact o_pickF rfl rfl) rfl ?_ | refine L.gYes rfl rfl rfl ?_ | refine L.gNo rfl rfl rfl rfl rfl ?_ | refine L.gUnd rfl rfl rfl rfl ?_ | refine L.store rfl rfl (blt_iff.1 rfl) rfl ?_ | refine S.block ?_ | refine S.pop ?_ | refine S.skip ?_ | refine S.exit rfl ?_ | refine S.condT rfl ?_ | refine S.condF rfl ?_))
  refine L.boxN rfl rfl (fun b3 => ?_)
  (repeat (first | refine S.seq ?_ | refine S.region ?_ | refine L.nil ?_ | refine L.p (by first | exact o_move rfl | exact o_fld rfl | exact o_load rfl rfl | exact o_load rfl (by assumption) | exact o_nil rfl | exact o_nilFn rfl | exact o_add rfl rfl (by unfold I64; omega) | exact o_sub rfl rfl (by unfold I64; omega) | exact o_ext rfl rfl | exact o_assign rfl | exact o_eq rfl rfl | exact o_ptrNil rfl rfl | exact o_nilNil rfl rfl | exact o_le rfl rfl | exact o_pickT rfl rfl | exact o_pickF rfl rfl) rfl ?_ | refine L.gYes rfl rfl rfl ?_ | refine L.gNo rfl rfl rfl rfl rfl ?_ | refine L.gUnd rfl rfl rfl rfl ?_ | refine L.store rfl rfl (blt_iff.1 rfl) rfl ?_ | refine S.block ?_ | refine S.pop ?_ | refine S.skip ?_ | refine S.exit rfl ?_ | refine S.condT rfl ?_ | refine S.condF rfl ?_))
  refine S.cut (G := Nat × Value × Value × List Atom) (fun g => IntsIn g.2.2.2 (pagesI (wantM k p D nn (epochM p.epoch m))) g.2.1 ∧ StrsIn g.2.2.2 (wantM k p D nn (epochM p.epoch m)).bytes g.2.2.1)
    (fun g => [(4, ptr g.1), (3, ptr b3), (0, ptr bk)])
    (fun g => .cells g.1 72 [.int .u64 ((p.gen + 1 : Nat) : Int), .int .i64 nn, .int .u64 (epochM p.epoch m : Nat), g.2.1, g.2.2.1] :: (g.2.2.2 ++ (A ++ (Ad ++ (.cells bk 76 [ptr bd, ptr bp, .int .u64 k.last.gen, .int .i64 k.last.root, .int .u64 k.last.epoch, vp1, vb1, .int .u64 k.next.gen, .int .i64 k.next.root, .int .u64 k.next.epoch, vp2, vb2, .slice (some ⟨bu, 0, none⟩) 12 12, .slice (some ⟨bdr, 0, none⟩) 12 12, .slice (some ⟨bf, 0, none⟩) 12 12] :: .cells bu 4 (bls k.used) :: .cells bdr 4 (bls k.dropped) :: .cells bf 4 (bls k.fresh) :: .cells b3 59 [.int .i64 kind, .int .i64 nn, .int .i64 m, vb, .bool short, vl, vk] :: H))))) ?_ ?_
  · skip
    refine S.anyH (id := 1) ([.cells b3 59 [.int .i64 kind, .int .i64 nn, .int .i64 m, vb, .bool short, vl, vk], .cells bk 76 [ptr bd, ptr bp, .int .u64 k.last.gen, .int .i64 k.last.root, .int .u64 k.last.epoch, vp1, vb1, .int .u64 k.next.gen, .int .i64 k.next.root, .int .u64 k.next.epoch, vp2, vb2, .slice (some ⟨bu, 0, none⟩) 12 12, .slice (some ⟨bdr, 0, none⟩) 12 12, .slice (some ⟨bf, 0, none⟩) 12 12]]) (by kernel_rfl) ?_
    refine BH.take 0 rfl (by kernel_rfl) (by decide +kernel) (by decide +kernel) rfl (o_move rfl) rfl (by intro a; simp only [List.count_append, List.count_cons, List.count_nil] <;> omega) ?_
    refine BH.take 1 rfl (by kernel_rfl) (by decide +kernel) (by decide +kernel) rfl (o_fld rfl) rfl (by intro a; simp only [List.count_append, List.count_cons, List.count_nil] <;> omega) ?_
    (first | refine BH.take 2 rfl (by kernel_rfl) (by decide +kernel) (by decide +kernel) rfl (o_load rfl rfl) rfl (by intro a; simp only [List.count_append, List.count_cons, List.count_nil] <;> omega) ?_ | refine BH.take 2 rfl (by kernel_rfl) (by decide +kernel) (by decide +kernel) rfl (o_load rfl (by assumption)) rfl (by intro a; simp only [List.count_append, List.count_cons, List.count_nil] <;> omega) ?_)
    refine BH.take 3 rfl (by kernel_rfl) (by decide +kernel) (by decide +kernel) rfl (o_move rfl) rfl (by intro a; simp only [List.count_append, List.count_cons, List.count_nil] <;> omega) ?_
    (first | refine BH.take 4 rfl (by kernel_rfl) (by decide +kernel) (by decide +kernel) rfl (o_nil rfl) rfl (by intro a; simp only [List.count_append, List.count_cons, List.count_nil] <;> omega) ?_ | refine BH.take 4 rfl (by kernel_rfl) (by decide +kernel) (by decide +kernel) rfl (o_nilFn rfl) rfl (by intro a; simp only [List.count_append, List.count_cons, List.count_nil] <;> omega) ?_)
    refine BH.take 5 rfl (by kernel_rfl) (by decide +kernel) (by decide +kernel) rfl (o_fld rfl) rfl (by intro a; simp only [List.count_append, List.count_cons, List.count_nil] <;> omega) ?_
    (first | refine BH.take 6 rfl (by kernel_rfl) (by decide +kernel) (by decide +kernel) rfl (o_load rfl rfl) rfl (by intro a; simp only [List.count_append, List.count_cons, List.count_nil] <;> omega) ?_ | refine BH.take 6 rfl (by kernel_rfl) (by decide +kernel) (by decide +kernel) rfl (o_load rfl (by assumption)) rfl (by intro a; simp only [List.count_append, List.count_cons, List.count_nil] <;> omega) ?_)
    refine BH.take 8 rfl (by kernel_rfl) (by decide +kernel) (by decide +kernel) rfl (o_fld rfl) rfl (by intro a; simp only [List.count_append, List.count_cons, List.count_nil] <;> omega) ?_
    (first | refine BH.take 9 rfl (by kernel_rfl) (by decide +kernel) (by decide +kernel) rfl (o_load rfl rfl) rfl (by intro a; simp only [List.count_append, List.count_cons, List.count_nil] <;> omega) ?_ | refine BH.take 9 rfl (by kernel_rfl) (by decide +kernel) (by decide +kernel) rfl (o_load rfl (by assumption)) rfl (by intro a; simp only [List.count_append, List.count_cons, List.count_nil] <;> omega) ?_)
    refine BH.take 10 rfl (by kernel_rfl) (by decide +kernel) (by decide +kernel) rfl (o_and3 rfl rfl) rfl (by intro a; simp only [List.count_append, List.count_cons, List.count_nil] <;> omega) ?_
    refine BH.take 11 rfl (by kernel_rfl) (by decide +kernel) (by decide +kernel) rfl (o_conv (kk := .u64) (k2 := .i64) (r := ((and3 m : Nat) : Int)) rfl (wrap64u (by omega))) rfl (by intro a; simp only [List.count_append, List.count_cons, List.count_nil] <;> omega) ?_
    refine BH.branch [7,15] (by kernel_rfl) (by simp) ?_
    refine BrH.cons rfl rfl ?_ ?_; rotate_left; refine BrH.cons rfl rfl ?_ BrH.nil; rotate_left
    · refine L.callR rfl (hc_func Try.func18 (by decide) rfl rfl) rfl (fun w hs => pepoch_calls (H := Ad ++ (.cells bk 76 [ptr bd, ptr bp, .int .u64 k.last.gen, .int .i64 k.last.root, .int .u64 k.last.epoch, vp1, vb1, .int .u64 k.next.gen, .int .i64 k.next.root, .int .u64 k.next.epoch, vp2, vb2, .slice (some ⟨bu, 0, none⟩) 12 12, .slice (some ⟨bdr, 0, none⟩) 12 12, .slice (some ⟨bf, 0, none⟩) 12 12] :: .cells bu 4 (bls k.used) :: .cells bdr 4 (bls k.dropped) :: .cells bf 4 (bls k.fresh) :: .cells b3 59 [.int .i64 kind, .int .i64 nn, .int .i64 m, vb, .bool short, vl, vk] :: H)) hP (hs.re (by intro a; simp only [List.count_append, List.count_cons, List.count_nil] <;> omega))) ?_
      rintro e w' ⟨rfl, hs'⟩
      refine ⟨_, _, rfl, (by assumption), ?_⟩
      refine L.nil ?_
      refine BH.go (by intro a; simp only [List.count_append, List.count_cons, List.count_nil] <;> omega) ?_
      refine BH.take 12 rfl (by kernel_rfl) (by decide +kernel) (by decide +kernel) rfl (o_addE (r := ((epA p.epoch m : Nat) : Int)) rfl rfl (ep_add p.epoch m)) rfl (by intro a; simp only [List.count_append, List.count_cons, List.count_nil] <;> omega) ?_
      refine BH.take 13 rfl (by kernel_rfl) (by decide +kernel) (by decide +kernel) rfl (o_subE (r := ((epochM p.epoch m : Nat) : Int)) rfl rfl (ep_sub p.epoch m)) rfl (by intro a; simp only [List.count_append, List.count_cons, List.count_nil] <;> omega) ?_
      refine BH.branch [14,15] (by kernel_rfl) (by simp) ?_
      refine BrH.cons rfl rfl ?_ ?_; rotate_left; refine BrH.cons rfl rfl ?_ BrH.nil; rotate_left
      · refine L.callR rfl (hc_func Try.func71 (by decide) rfl rfl) rfl (fun w hs => kwant_calls (root := nn) (epoch := epochM p.epoch m) (H := .cells b3 59 [.int .i64 kind, .int .i64 nn, .int .i64 m, vb, .bool short, vl, vk] :: H) (by omega) hn hP hD hK0 (hs.re (by intro a; simp only [List.count_append, List.count_cons, List.count_nil] <;> omega))) ?_
        rintro e w' ⟨vp, vbb, Y, rfl, hip, hib, hs'⟩
        refine ⟨_, _, rfl, (by assumption), ?_⟩
        simp only [List.cons_append, List.nil_append]
        refine L.nil ?_
        refine BH.go (by intro a; simp only [List.count_append, List.count_cons, List.count_nil] <;> omega) ?_
        refine BH.branch [15] (by kernel_rfl) (by simp) ?_
        refine BrH.cons rfl rfl ?_ BrH.nil
        refine L.alloc rfl (fun b4 => ?_)
        refine L.nil ?_
        refine BH.go (by intro a; simp only [List.count_append, List.count_cons, List.count_nil] <;> omega) ?_
        refine BH.branch [16] (by kernel_rfl) (by simp) ?_
        refine BrH.cons rfl rfl ?_ BrH.nil
        refine L.storeW (vs := [.int .u64 ((p.gen + 1 : Nat) : Int), .int .i64 nn, .int .u64 (epochM p.epoch m : Nat), vp, vbb]) rfl rfl (by rfl) (by rfl) (by simp only [List.forall_mem_cons]; exact ⟨rfl, rfl, rfl, hip.one', hib.one', fun _ h => by cases h⟩) ?_
        refine L.nil ?_
        refine BH.go (by intro a; simp only [List.count_append, List.count_cons, List.count_nil] <;> omega) ?_
        refine BH.done (by decide +kernel) ?_
        refine S.round (fun ac_ w hac_ hs => ⟨((b4, vp, vbb, Y)), ?_, hac_.weaken (look_sub (by repeat (first | exact trivial | refine ⟨rfl, ?_⟩))), (by (try dsimp only); exact hs.re (by intro a; simp only [List.count_append, List.count_cons, List.count_nil] <;> omega))⟩)
        exact ⟨hip, hib⟩
      · refine L.alloc rfl (fun b4 => ?_)
        refine L.nil ?_
        refine BH.go (by intro a; simp only [List.count_append, List.count_cons, List.count_nil] <;> omega) ?_
        refine BH.branch [14] (by kernel_rfl) (by simp) ?_
        refine BrH.cons rfl rfl ?_ BrH.nil
        refine L.callR rfl (hc_func Try.func71 (by decide) rfl rfl) rfl (fun w hs => kwant_calls (root := nn) (epoch := epochM p.epoch m) (H := .cells b4 72 [.int .u64 0, .int .i64 0, .int .u64 0, .slice none 0 0, .slice none 0 0] :: .cells b3 59 [.int .i64 kind, .int .i64 nn, .int .i64 m, vb, .bool short, vl, vk] :: H) (by omega) hn hP hD hK0 (hs.re (by intro a; simp only [List.count_append, List.count_cons, List.count_nil] <;> omega))) ?_
        rintro e w' ⟨vp, vbb, Y, rfl, hip, hib, hs'⟩
        refine ⟨_, _, rfl, (by assumption), ?_⟩
        simp only [List.cons_append, List.nil_append]
        refine L.nil ?_
        refine BH.go (by intro a; simp only [List.count_append, List.count_cons, List.count_nil] <;> omega) ?_
        refine BH.branch [16] (by kernel_rfl) (by simp) ?_
        refine BrH.cons rfl rfl ?_ BrH.nil
        refine L.storeW (vs := [.int .u64 ((p.gen + 1 : Nat) : Int), .int .i64 nn, .int .u64 (epochM p.epoch m : Nat), vp, vbb]) rfl rfl (by rfl) (by rfl) (by simp only [List.forall_mem_cons]; exact ⟨rfl, rfl, rfl, hip.one', hib.one', fun _ h => by cases h⟩) ?_
        refine L.nil ?_
        refine BH.go (by intro a; simp only [List.count_append, List.count_cons, List.count_nil] <;> omega) ?_
        refine BH.done (by decide +kernel) ?_
        refine S.round (fun ac_ w hac_ hs => ⟨((b4, vp, vbb, Y)), ?_, hac_.weaken (look_sub (by repeat (first | exact trivial | refine ⟨rfl, ?_⟩))), (by (try dsimp only); exact hs.re (by intro a; simp only [List.count_append, List.count_cons, List.count_nil] <;> omega))⟩)
        exact ⟨hip, hib⟩
    · refine L.alloc rfl (fun b4 => ?_)
      refine L.nil ?_
      refine BH.go (by intro a; simp only [List.count_append, List.count_cons, List.count_nil] <;> omega) ?_
      refine BH.branch [7] (by kernel_rfl) (by simp) ?_
      refine BrH.cons rfl rfl ?_ BrH.nil
      refine L.callR rfl (hc_func Try.func18 (by decide) rfl rfl) rfl (fun w hs => pepoch_calls (H := .cells b4 72 [.int .u64 0, .int .i64 0, .int .u64 0, .slice none 0 0, .slice none 0 0] :: (Ad ++ (.cells bk 76 [ptr bd, ptr bp, .int .u64 k.last.gen, .int .i64 k.last.root, .int .u64 k.last.epoch, vp1, vb1, .int .u64 k.next.gen, .int .i64 k.next.root, .int .u64 k.next.epoch, vp2, vb2, .slice (some ⟨bu, 0, none⟩) 12 12, .slice (some ⟨bdr, 0, none⟩) 12 12, .slice (some ⟨bf, 0, none⟩) 12 12] :: .cells bu 4 (bls k.used) :: .cells bdr 4 (bls k.dropped) :: .cells bf 4 (bls k.fresh) :: .cells b3 59 [.int .i64 kind, .int .i64 nn, .int .i64 m, vb, .bool short, vl, vk] :: H))) hP (hs.re (by intro a; simp only [List.count_append, List.count_cons, List.count_nil] <;> omega))) ?_
      rintro e w' ⟨rfl, hs'⟩
      refine ⟨_, _, rfl, (by assumption), ?_⟩
      refine L.nil ?_
      refine BH.go (by intro a; simp only [List.count_append, List.count_cons, List.count_nil] <;> omega) ?_
      refine BH.take 12 rfl (by kernel_rfl) (by decide +kernel) (by decide +kernel) rfl (o_addE (r := ((epA p.epoch m : Nat) : Int)) rfl rfl (ep_add p.epoch m)) rfl (by intro a; simp only [List.count_append, List.count_cons, List.count_nil] <;> omega) ?_
      refine BH.take 13 rfl (by kernel_rfl) (by decide +kernel) (by decide +kernel) rfl (o_subE (r := ((epochM p.epoch m : Nat) : Int)) rfl rfl (ep_sub p.epoch m)) rfl (by intro a; simp only [List.count_append, List.count_cons, List.count_nil] <;> omega) ?_
      refine BH.branch [14] (by kernel_rfl) (by simp) ?_
      refine BrH.cons rfl rfl ?_ BrH.nil
      refine L.callR rfl (hc_func Try.func71 (by decide) rfl rfl) rfl (fun w hs => kwant_calls (root := nn) (epoch := epochM p.epoch m) (H := .cells b4 72 [.int .u64 0, .int .i64 0, .int .u64 0, .slice none 0 0, .slice none 0 0] :: .cells b3 59 [.int .i64 kind, .int .i64 nn, .int .i64 m, vb, .bool short, vl, vk] :: H) (by omega) hn hP hD hK0 (hs.re (by intro a; simp only [List.count_append, List.count_cons, List.count_nil] <;> omega))) ?_
      rintro e w' ⟨vp, vbb, Y, rfl, hip, hib, hs'⟩
      refine ⟨_, _, rfl, (by assumption), ?_⟩
      simp only [List.cons_append, List.nil_append]
      refine L.nil ?_
      refine BH.go (by intro a; simp only [List.count_append, List.count_cons, List.count_nil] <;> omega) ?_
      refine BH.branch [16] (by kernel_rfl) (by simp) ?_
      refine BrH.cons rfl rfl ?_ BrH.nil
      refine L.storeW (vs := [.int .u64 ((p.gen + 1 : Nat) : Int), .int .i64 nn, .int .u64 (epochM p.epoch m : Nat), vp, vbb]) rfl rfl (by rfl) (by rfl) (by simp only [List.forall_mem_cons]; exact ⟨rfl, rfl, rfl, hip.one', hib.one', fun _ h => by cases h⟩) ?_
      refine L.nil ?_
      refine BH.go (by intro a; simp only [List.count_append, List.count_cons, List.count_nil] <;> omega) ?_
      refine BH.done (by decide +kernel) ?_
      refine S.round (fun ac_ w hac_ hs => ⟨((b4, vp, vbb, Y)), ?_, hac_.weaken (look_sub (by repeat (first | exact trivial | refine ⟨rfl, ?_⟩))), (by (try dsimp only); exact hs.re (by intro a; simp only [List.count_append, List.count_cons, List.count_nil] <;> omega))⟩)
      exact ⟨hip, hib⟩
  rintro ⟨b4, vp, vbb, Y⟩ ⟨hip, hib⟩
  simp only at hip hib
  dsimp only
  have op := hip.one'
  have ob := hib.one'
  generalize hW : wantM k p D nn (epochM p.epoch m) = W at *
  have hW1 : W.gen = p.gen + 1 ∧ W.root = nn ∧ W.epoch = epochM p.epoch m := by rw [← hW]; exact ⟨rfl, rfl, rfl⟩
  (repeat (first | refine S.seq ?_ | refine S.region ?_ | refine L.nil ?_ | refine L.p (by first | exact o_move rfl | exact o_fld rfl | exact o_load rfl rfl | exact o_load rfl (by assumption) | exact o_nil rfl | exact o_nilFn rfl | exact o_add rfl rfl (by unfold I64; omega) | exact o_sub rfl rfl (by unfold I64; omega) | exact o_ext rfl rfl | exact o_assign rfl | exact o_eq rfl rfl | exact o_ptrNil rfl rfl | exact o_nilNil rfl rfl | exact o_le rfl rfl | exact o_pickT rfl rfl | exact o_pickF rfl rfl) rfl ?_ | refine L.gYes rfl rfl rfl ?_ | refine L.gNo rfl rfl rfl rfl rfl ?_ | refine L.gUnd rfl rfl rfl rfl ?_ | refine L.store rfl rfl (blt_iff.1 rfl) rfl ?_ | refine S.block ?_ | refine S.pop ?_ | refine S.skip ?_ | refine S.exit rfl ?_ | refine S.condT rfl ?_ | refine S.condF rfl ?_))
  refine S.anyH (id := 2) ([.cells b3 59 [.int .i64 kind, .int .i64 nn, .int .i64 m, vb, .bool short, vl, vk], .cells bk 76 [ptr bd, ptr bp, .int .u64 k.last.gen, .int .i64 k.last.root, .int .u64 k.last.epoch, vp1, vb1, .int .u64 k.next.gen, .int .i64 k.next.root, .int .u64 k.next.epoch, vp2, vb2, .slice (some ⟨bu, 0, none⟩) 12 12, .slice (some ⟨bdr, 0, none⟩) 12 12, .slice (some ⟨bf, 0, none⟩) 12 12]]) (by kernel_rfl) ?_
  refine BH.take 0 rfl (by kernel_rfl) (by decide +kernel) (by decide +kernel) rfl (o_move rfl) rfl (by intro a; simp only [List.count_append, List.count_cons, List.count_nil] <;> omega) ?_
  (first | refine BH.take 1 rfl (by kernel_rfl) (by decide +kernel) (by decide +kernel) rfl (o_nil rfl) rfl (by intro a; simp only [List.count_append, List.count_cons, List.count_nil] <;> omega) ?_ | refine BH.take 1 rfl (by kernel_rfl) (by decide +kernel) (by decide +kernel) rfl (o_nilFn rfl) rfl (by intro a; simp only [List.count_append, List.count_cons, List.count_nil] <;> omega) ?_)
  refine BH.take 2 rfl (by kernel_rfl) (by decide +kernel) (by decide +kernel) rfl (o_fld rfl) rfl (by intro a; simp only [List.count_append, List.count_cons, List.count_nil] <;> omega) ?_
  (first | refine BH.take 3 rfl (by kernel_rfl) (by decide +kernel) (by decide +kernel) rfl (o_load rfl rfl) rfl (by intro a; simp only [List.count_append, List.count_cons, List.count_nil] <;> omega) ?_ | refine BH.take 3 rfl (by kernel_rfl) (by decide +kernel) (by decide +kernel) rfl (o_load rfl (by assumption)) rfl (by intro a; simp only [List.count_append, List.count_cons, List.count_nil] <;> omega) ?_)
  refine BH.take 4 rfl (by kernel_rfl) (by decide +kernel) (by decide +kernel) rfl (o_loadE (vs := [.int .i64 kind, .int .i64 nn, .int .i64 m, vb, .bool short, vl, vk]) rfl (Nat.le_refl 7) rfl) rfl (by intro a; simp only [List.count_append, List.count_cons, List.count_nil] <;> omega) ?_
  refine BH.branch [5] (by kernel_rfl) (by simp) ?_
  refine BrH.cons rfl rfl ?_ BrH.nil
  refine L.callR rfl (hc_func Try.func23 (by decide) rfl rfl) rfl (fun w hs => (by have h := play_calls (a := ⟨kind, nn, m, b, short, l, keep⟩) (H := .cells bk 76 [ptr bd, ptr bp, .int .u64 k.last.gen, .int .i64 k.last.root, .int .u64 k.last.epoch, vp1, vb1, .int .u64 k.next.gen, .int .i64 k.next.root, .int .u64 k.next.epoch, vp2, vb2, .slice (some ⟨bu, 0, none⟩) 12 12, .slice (some ⟨bdr, 0, none⟩) 12 12, .slice (some ⟨bf, 0, none⟩) 12 12] :: .cells bu 4 (bls k.used) :: .cells bdr 4 (bls k.dropped) :: .cells bf 4 (bls k.fresh) :: .cells b4 72 [.int .u64 ((p.gen + 1 : Nat) : Int), .int .i64 nn, .int .u64 (epochM p.epoch m : Nat), vp, vbb] :: (Y ++ (.cells b3 59 [.int .i64 kind, .int .i64 nn, .int .i64 m, vb, .bool short, vl, vk] :: H))) hpb hfr hn (ha0.mono (by intro x hx; simp [hx])) hsm hP hD (hs.re (by intro a; simp only [List.count_append, List.count_cons, List.count_nil] <;> omega)); rw [hpl] at h; exact h)) ?_
  rintro e w' ⟨A2, Ad2, rfl, hP2, hD2, hs'⟩
  refine ⟨_, _, rfl, (by assumption), ?_⟩
  refine L.nil ?_
  refine BH.go (by intro a; simp only [List.count_append, List.count_cons, List.count_nil] <;> omega) ?_
  refine BH.take 6 rfl (by kernel_rfl) (by decide +kernel) (by decide +kernel) rfl (o_move rfl) rfl (by intro a; simp only [List.count_append, List.count_cons, List.count_nil] <;> omega) ?_
  refine BH.take 7 rfl (by kernel_rfl) (by decide +kernel) (by decide +kernel) rfl (o_ext rfl rfl) rfl (by intro a; simp only [List.count_append, List.count_cons, List.count_nil] <;> omega) ?_
  refine BH.take 8 rfl (by kernel_rfl) (by decide +kernel) (by decide +kernel) rfl (o_ext rfl rfl) rfl (by intro a; simp only [List.count_append, List.count_cons, List.count_nil] <;> omega) ?_
  refine BH.take 9 rfl (by kernel_rfl) (by decide +kernel) (by decide +kernel) rfl (o_assign rfl) rfl (by intro a; simp only [List.count_append, List.count_cons, List.count_nil] <;> omega) ?_
  refine BH.take 10 rfl (by kernel_rfl) (by decide +kernel) (by decide +kernel) rfl (o_assign rfl) rfl (by intro a; simp only [List.count_append, List.count_cons, List.count_nil] <;> omega) ?_
  refine BH.done (by decide +kernel) ?_
  dsimp only at hP2 hD2 ⊢
  generalize hq : p.commit D nn (epochM p.epoch m) = q at *
  obtain ⟨p2, D2, e0⟩ := q
  dsimp only at hP2 hD2 ⊢
  (repeat (first | refine S.seq ?_ | refine S.region ?_ | refine L.nil ?_ | refine L.p (by first | exact o_move rfl | exact o_fld rfl | exact o_load rfl rfl | exact o_load rfl (by assumption) | exact o_nil rfl | exact o_nilFn rfl | exact o_add rfl rfl (by unfold I64; omega) | exact o_sub rfl rfl (by unfold I64; omega) | exact o_ext rfl rfl | exact o_assign rfl | exact o_eq rfl rfl | exact o_ptrNil rfl rfl | exact o_nilNil rfl rfl | exact o_le rfl rfl | exact o_pickT rfl rfl | exact o_pickF rfl rfl) rfl ?_ | refine L.gYes rfl rfl rfl ?_ | refine L.gNo rfl rfl rfl rfl rfl ?_ | refine L.gUnd rfl rfl rfl rfl ?_ | refine L.store rfl rfl (blt_iff.1 rfl) rfl ?_ | refine S.block ?_ | refine S.pop ?_ | refine S.skip ?_ | refine S.exit rfl ?_ | refine S.condT rfl ?_ | refine S.condF rfl ?_))
  refine S.condD rfl (fun z => ?_) (fun z => ?_)
  · have hkm : KeepM.commit k p D nn (epochM p.epoch m) e0 = ({ k with last := W, next := W } : KeepM).settle k.dropped := by
      unfold KeepM.commit; rw [if_pos z, hW]
    rw [hkm]
    (repeat (first | refine L.p (o_loadE (vs := [.int .u64 ((p.gen + 1 : Nat) : Int), .int .i64 nn, .int .u64 (epochM p.epoch m : Nat), vp, vbb]) rfl (Nat.le_refl 5) rfl) rfl ?_ | refine S.seq ?_ | refine S.region ?_ | refine L.nil ?_ | refine L.p (by first | exact o_move rfl | exact o_fld rfl | exact o_load rfl rfl | exact o_load rfl (by assumption) | exact o_nil rfl | exact o_nilFn rfl | exact o_add rfl rfl (by unfold I64; omega) | exact o_sub rfl rfl (by unfold I64; omega) | exact o_ext rfl rfl | exact o_assign rfl | exact o_eq rfl rfl | exact o_ptrNil rfl rfl | exact o_nilNil rfl rfl | exact o_le rfl rfl | exact o_pickT rfl rfl | exact o_pickF rfl rfl) rfl ?_ | refine L.gYes rfl rfl rfl ?_ | refine L.gNo rfl rfl rfl rfl rfl ?_ | refine L.gUnd rfl rfl rfl rfl ?_ | refine L.store rfl rfl (blt_iff.1 rfl) rfl ?_ | refine S.block ?_ | refine S.pop ?_ | refine S.skip ?_ | refine S.exit rfl ?_ | refine S.condT rfl ?_ | refine S.condF rfl ?_))
    refine L.storeE (cs' := [ptr bd, ptr bp, .int .u64 ((p.gen + 1 : Nat) : Int), .int .i64 nn, .int .u64 (epochM p.epoch m : Nat), vp, vbb, .int .u64 k.next.gen, .int .i64 k.next.root, .int .u64 k.next.epoch, vp2, vb2, .slice (some ⟨bu, 0, none⟩) 12 12, .slice (some ⟨bdr, 0, none⟩) 12 12, .slice (some ⟨bf, 0, none⟩) 12 12]) (vs := [.int .u64 ((p.gen + 1 : Nat) : Int), .int .i64 nn, .int .u64 (epochM p.epoch m : Nat), vp, vbb]) rfl rfl (by rfl) (by simp) (by simp only [List.forall_mem_cons]; exact ⟨rfl, rfl, rfl, op, ob, fun _ h => by cases h⟩) rfl ?_
    (repeat (first | refine L.p (o_loadE (vs := [.int .u64 ((p.gen + 1 : Nat) : Int), .int .i64 nn, .int .u64 (epochM p.epoch m : Nat), vp, vbb]) rfl (Nat.le_refl 5) rfl) rfl ?_ | refine S.seq ?_ | refine S.region ?_ | refine L.nil ?_ | refine L.p (by first | exact o_move rfl | exact o_fld rfl | exact o_load rfl rfl | exact o_load rfl (by assumption) | exact o_nil rfl | exact o_nilFn rfl | exact o_add rfl rfl (by unfold I64; omega) | exact o_sub rfl rfl (by unfold I64; omega) | exact o_ext rfl rfl | exact o_assign rfl | exact o_eq rfl rfl | exact o_ptrNil rfl rfl | exact o_nilNil rfl rfl | exact o_le rfl rfl | exact o_pickT rfl rfl | exact o_pickF rfl rfl) rfl ?_ | refine L.gYes rfl rfl rfl ?_ | refine L.gNo rfl rfl rfl rfl rfl ?_ | refine L.gUnd rfl rfl rfl rfl ?_ | refine L.store rfl rfl (blt_iff.1 rfl) rfl ?_ | refine S.block ?_ | refine S.pop ?_ | refine S.skip ?_ | refine S.exit rfl ?_ | refine S.condT rfl ?_ | refine S.condF rfl ?_))
    refine L.storeE (cs' := [ptr bd, ptr bp, .int .u64 ((p.gen + 1 : Nat) : Int), .int .i64 nn, .int .u64 (epochM p.epoch m : Nat), vp, vbb, .int .u64 ((p.gen + 1 : Nat) : Int), .int .i64 nn, .int .u64 (epochM p.epoch m : Nat), vp, vbb, .slice (some ⟨bu, 0, none⟩) 12 12, .slice (some ⟨bdr, 0, none⟩) 12 12, .slice (some ⟨bf, 0, none⟩) 12 12]) (vs := [.int .u64 ((p.gen + 1 : Nat) : Int), .int .i64 nn, .int .u64 (epochM p.epoch m : Nat), vp, vbb]) rfl rfl (by rfl) (by simp) (by simp only [List.forall_mem_cons]; exact ⟨rfl, rfl, rfl, op, ob, fun _ h => by cases h⟩) rfl ?_
    (repeat (first | refine S.seq ?_ | refine S.region ?_ | refine L.nil ?_ | refine L.p (by first | exact o_move rfl | exact o_fld rfl | exact o_load rfl rfl | exact o_load rfl (by assumption) | exact o_nil rfl | exact o_nilFn rfl | exact o_add rfl rfl (by unfold I64; omega) | exact o_sub rfl rfl (by unfold I64; omega) | exact o_ext rfl rfl | exact o_assign rfl | exact o_eq rfl rfl | exact o_ptrNil rfl rfl | exact o_nilNil rfl rfl | exact o_le rfl rfl | exact o_pickT rfl rfl | exact o_pickF rfl rfl) rfl ?_ | refine L.gYes rfl rfl rfl ?_ | refine L.gNo rfl rfl rfl rfl rfl ?_ | refine L.gUnd rfl rfl rfl rfl ?_ | refine L.store rfl rfl (blt_iff.1 rfl) rfl ?_ | refine S.block ?_ | refine S.pop ?_ | refine S.skip ?_ | refine S.exit rfl ?_ | refine S.condT rfl ?_ | refine S.condF rfl ?_))
    refine L.callR rfl (hc_func Try.func72 (by decide) rfl rfl) rfl (fun w hs => ksettle_calls (u := k.used) (g := k.dropped) (H := .cells bdr 4 (bls k.dropped) :: .cells bf 4 (bls k.fresh) :: .cells b4 72 [.int .u64 ((p.gen + 1 : Nat) : Int), .int .i64 nn, .int .u64 (epochM p.epoch m : Nat), vp, vbb] :: (Y ++ (.cells b3 59 [.int .i64 kind, .int .i64 nn, .int .i64 m, vb, .bool short, vl, vk] :: (A2 ++ (Ad2 ++ H))))) lu (BoolsIn.mk (b := bdr) (o := 0) (cs := bls k.dropped) ld (by decide) (CellsAt.head (T := 4) (by simp)) (by simp [ld]) (by rw [List.drop_zero]; exact List.take_of_length_le (by simp [ld]))) (by omega) (hs.re (H' := .cells bk 76 [ptr bd, ptr bp, .int .u64 ((p.gen + 1 : Nat) : Int), .int .i64 nn, .int .u64 (epochM p.epoch m : Nat), vp, vbb, .int .u64 ((p.gen + 1 : Nat) : Int), .int .i64 nn, .int .u64 (epochM p.epoch m : Nat), vp, vbb, .slice (some ⟨bu, 0, none⟩) 12 12, .slice (some ⟨bdr, 0, none⟩) 12 12, .slice (some ⟨bf, 0, none⟩) 12 12] :: .cells bu 4 (bls k.used) :: (.cells bdr 4 (bls k.dropped) :: .cells bf 4 (bls k.fresh) :: .cells b4 72 [.int .u64 ((p.gen + 1 : Nat) : Int), .int .i64 nn, .int .u64 (epochM p.epoch m : Nat), vp, vbb] :: (Y ++ (.cells b3 59 [.int .i64 kind, .int .i64 nn, .int .i64 m, vb, .bool short, vl, vk] :: (A2 ++ (Ad2 ++ H)))))) (by intro a; simp only [List.count_append, List.count_cons, List.count_nil] <;> omega))) ?_
    rintro e w' ⟨n1, n2, rfl, hs'⟩
    refine ⟨_, _, rfl, (by assumption), ?_⟩
    have hne : ¬ e0 = 9 := by omega
    (repeat (first | refine S.seq ?_ | refine S.region ?_ | refine L.nil ?_ | refine L.p (by first | exact o_move rfl | exact o_fld rfl | exact o_load rfl rfl | exact o_load rfl (by assumption) | exact o_nil rfl | exact o_nilFn rfl | exact o_add rfl rfl (by unfold I64; omega) | exact o_sub rfl rfl (by unfold I64; omega) | exact o_ext rfl rfl | exact o_assign rfl | exact o_eq rfl rfl | exact o_ptrNil rfl rfl | exact o_nilNil rfl rfl | exact o_le rfl rfl | exact o_pickT rfl rfl | exact o_pickF rfl rfl) rfl ?_ | refine L.gYes rfl rfl rfl ?_ | refine L.gNo rfl rfl rfl rfl rfl ?_ | refine L.gUnd rfl rfl rfl rfl ?_ | refine L.store rfl rfl (blt_iff.1 rfl) rfl ?_ | refine S.block ?_ | refine S.pop ?_ | refine S.skip ?_ | refine S.exit rfl ?_ | refine S.condT rfl ?_ | refine S.condF rfl ?_))
    refine S.anyH (id := 7) ([.cells bk 76 [ptr bd, ptr bp, .int .u64 ((p.gen + 1 : Nat) : Int), .int .i64 nn, .int .u64 (epochM p.epoch m : Nat), vp, vbb, .int .u64 ((p.gen + 1 : Nat) : Int), .int .i64 nn, .int .u64 (epochM p.epoch m : Nat), vp, vbb, .slice (some ⟨bu, 0, none⟩) 12 12, .slice (some ⟨n1, 0, none⟩) 12 12, .slice (some ⟨n2, 0, none⟩) 12 12]]) (by kernel_rfl) ?_
    refine BH.take 0 rfl (by kernel_rfl) (by decide +kernel) (by decide +kernel) rfl (o_move rfl) rfl (by intro a; simp only [List.count_append, List.count_cons, List.count_nil] <;> omega) ?_
    (first | refine BH.take 1 rfl (by kernel_rfl) (by decide +kernel) (by decide +kernel) rfl (o_eq rfl rfl) rfl (by intro a; simp only [List.count_append, List.count_cons, List.count_nil] <;> omega) ?_ | refine BH.take 1 rfl (by kernel_rfl) (by decide +kernel) (by decide +kernel) rfl (o_ptrNil rfl rfl) rfl (by intro a; simp only [List.count_append, List.count_cons, List.count_nil] <;> omega) ?_ | refine BH.take 1 rfl (by kernel_rfl) (by decide +kernel) (by decide +kernel) rfl (o_nilNil rfl rfl) rfl (by intro a; simp only [List.count_append, List.count_cons, List.count_nil] <;> omega) ?_)
    refine BH.take 2 rfl (by kernel_rfl) (by decide +kernel) (by decide +kernel) rfl (o_move rfl) rfl (by intro a; simp only [List.count_append, List.count_cons, List.count_nil] <;> omega) ?_
    refine BH.split 49 rfl (fun e9 => ?_) (fun e9 => ?_)
    · refine BH.takeYes 3 rfl (by kernel_rfl) (by decide +kernel) (by decide +kernel) rfl rfl rfl rfl (o_move rfl) rfl (by intro a; simp only [List.count_append, List.count_cons, List.count_nil] <;> omega) ?_
      (first | refine BH.takeYes 4 rfl (by kernel_rfl) (by decide +kernel) (by decide +kernel) rfl rfl rfl rfl (o_nil rfl) rfl (by intro a; simp only [List.count_append, List.count_cons, List.count_nil] <;> omega) ?_ | refine BH.takeYes 4 rfl (by kernel_rfl) (by decide +kernel) (by decide +kernel) rfl rfl rfl rfl (o_nilFn rfl) rfl (by intro a; simp only [List.count_append, List.count_cons, List.count_nil] <;> omega) ?_)
      refine BH.takeYes 5 rfl (by kernel_rfl) (by decide +kernel) (by decide +kernel) rfl rfl rfl rfl (o_fld rfl) rfl (by intro a; simp only [List.count_append, List.count_cons, List.count_nil] <;> omega) ?_
      refine BH.takeYes 6 rfl (by kernel_rfl) (by decide +kernel) (by decide +kernel) rfl rfl rfl rfl (o_fld rfl) rfl (by intro a; simp only [List.count_append, List.count_cons, List.count_nil] <;> omega) ?_
      (first | refine BH.takeYes 7 rfl (by kernel_rfl) (by decide +kernel) (by decide +kernel) rfl rfl rfl rfl (o_load rfl rfl) rfl (by intro a; simp only [List.count_append, List.count_cons, List.count_nil] <;> omega) ?_ | refine BH.takeYes 7 rfl (by kernel_rfl) (by decide +kernel) (by decide +kernel) rfl rfl rfl rfl (o_load rfl (by assumption)) rfl (by intro a; simp only [List.count_append, List.count_cons, List.count_nil] <;> omega) ?_)
      refine BH.takeYes 8 rfl (by kernel_rfl) (by decide +kernel) (by decide +kernel) rfl rfl rfl rfl (o_move rfl) rfl (by intro a; simp only [List.count_append, List.count_cons, List.count_nil] <;> omega) ?_
      (first | refine BH.takeYes 9 rfl (by kernel_rfl) (by decide +kernel) (by decide +kernel) rfl rfl rfl rfl (o_nil rfl) rfl (by intro a; simp only [List.count_append, List.count_cons, List.count_nil] <;> omega) ?_ | refine BH.takeYes 9 rfl (by kernel_rfl) (by decide +kernel) (by decide +kernel) rfl rfl rfl rfl (o_nilFn rfl) rfl (by intro a; simp only [List.count_append, List.count_cons, List.count_nil] <;> omega) ?_)
      refine BH.takeYes 10 rfl (by kernel_rfl) (by decide +kernel) (by decide +kernel) rfl rfl rfl rfl (o_fld rfl) rfl (by intro a; simp only [List.count_append, List.count_cons, List.count_nil] <;> omega) ?_
      refine BH.takeYes 11 rfl (by kernel_rfl) (by decide +kernel) (by decide +kernel) rfl rfl rfl rfl (o_fld rfl) rfl (by intro a; simp only [List.count_append, List.count_cons, List.count_nil] <;> omega) ?_
      (first | refine BH.takeYes 12 rfl (by kernel_rfl) (by decide +kernel) (by decide +kernel) rfl rfl rfl rfl (o_load rfl rfl) rfl (by intro a; simp only [List.count_append, List.count_cons, List.count_nil] <;> omega) ?_ | refine BH.takeYes 12 rfl (by kernel_rfl) (by decide +kernel) (by decide +kernel) rfl rfl rfl rfl (o_load rfl (by assumption)) rfl (by intro a; simp only [List.count_append, List.count_cons, List.count_nil] <;> omega) ?_)
      refine BH.takeYes 13 rfl (by kernel_rfl) (by decide +kernel) (by decide +kernel) rfl rfl rfl rfl (o_le rfl rfl) rfl (by intro a; simp only [List.count_append, List.count_cons, List.count_nil] <;> omega) ?_
      (first | refine BH.take 14 rfl (by kernel_rfl) (by decide +kernel) (by decide +kernel) rfl (o_pickT rfl rfl) rfl (by intro a; simp only [List.count_append, List.count_cons, List.count_nil] <;> omega) ?_ | refine BH.take 14 rfl (by kernel_rfl) (by decide +kernel) (by decide +kernel) rfl (o_pickF rfl rfl) rfl (by intro a; simp only [List.count_append, List.count_cons, List.count_nil] <;> omega) ?_)
      refine BH.done (by decide +kernel) ?_
      exact absurd e9 hne
    · refine BH.takeNo 3 rfl (by kernel_rfl) (by decide +kernel) (by decide +kernel) rfl rfl rfl rfl rfl rfl (by intro a; simp only [List.count_append, List.count_cons, List.count_nil] <;> omega) ?_
      refine BH.takeNo 4 rfl (by kernel_rfl) (by decide +kernel) (by decide +kernel) rfl rfl rfl rfl rfl rfl (by intro a; simp only [List.count_append, List.count_cons, List.count_nil] <;> omega) ?_
      refine BH.takeNo 5 rfl (by kernel_rfl) (by decide +kernel) (by decide +kernel) rfl rfl rfl rfl rfl rfl (by intro a; simp only [List.count_append, List.count_cons, List.count_nil] <;> omega) ?_
      refine BH.takeNo 6 rfl (by kernel_rfl) (by decide +kernel) (by decide +kernel) rfl rfl rfl rfl rfl rfl (by intro a; simp only [List.count_append, List.count_cons, List.count_nil] <;> omega) ?_
      refine BH.takeNo 7 rfl (by kernel_rfl) (by decide +kernel) (by decide +kernel) rfl rfl rfl rfl rfl rfl (by intro a; simp only [List.count_append, List.count_cons, List.count_nil] <;> omega) ?_
      refine BH.takeNo 8 rfl (by kernel_rfl) (by decide +kernel) (by decide +kernel) rfl rfl rfl rfl rfl rfl (by intro a; simp only [List.count_append, List.count_cons, List.count_nil] <;> omega) ?_
      refine BH.takeNo 9 rfl (by kernel_rfl) (by decide +kernel) (by decide +kernel) rfl rfl rfl rfl rfl rfl (by intro a; simp only [List.count_append, List.count_cons, List.count_nil] <;> omega) ?_
      refine BH.takeNo 10 rfl (by kernel_rfl) (by decide +kernel) (by decide +kernel) rfl rfl rfl rfl rfl rfl (by intro a; simp only [List.count_append, List.count_cons, List.count_nil] <;> omega) ?_
      refine BH.takeNo 11 rfl (by kernel_rfl) (by decide +kernel) (by decide +kernel) rfl rfl rfl rfl rfl rfl (by intro a; simp only [List.count_append, List.count_cons, List.count_nil] <;> omega) ?_
      refine BH.takeNo 12 rfl (by kernel_rfl) (by decide +kernel) (by decide +kernel) rfl rfl rfl rfl rfl rfl (by intro a; simp only [List.count_append, List.count_cons, List.count_nil] <;> omega) ?_
      refine BH.takeNo 13 rfl (by kernel_rfl) (by decide +kernel) (by decide +kernel) rfl rfl rfl rfl rfl rfl (by intro a; simp only [List.count_append, List.count_cons, List.count_nil] <;> omega) ?_
      (first | refine BH.take 14 rfl (by kernel_rfl) (by decide +kernel) (by decide +kernel) rfl (o_pickT rfl rfl) rfl (by intro a; simp only [List.count_append, List.count_cons, List.count_nil] <;> omega) ?_ | refine BH.take 14 rfl (by kernel_rfl) (by decide +kernel) (by decide +kernel) rfl (o_pickF rfl rfl) rfl (by intro a; simp only [List.count_append, List.count_cons, List.count_nil] <;> omega) ?_)
      refine BH.done (by decide +kernel) ?_
      (repeat (first | refine S.seq ?_ | refine S.region ?_ | refine L.nil ?_ | refine L.p (by first | exact o_move rfl | exact o_fld rfl | exact o_load rfl rfl | exact o_load rfl (by assumption) | exact o_nil rfl | exact o_nilFn rfl | exact o_add rfl rfl (by unfold I64; omega) | exact o_sub rfl rfl (by unfold I64; omega) | exact o_ext rfl rfl | exact o_assign rfl | exact o_eq rfl rfl | exact o_ptrNil rfl rfl | exact o_nilNil rfl rfl | exact o_le rfl rfl | exact o_pickT rfl rfl | exact o_pickF rfl rfl) rfl ?_ | refine L.gYes rfl rfl rfl ?_ | refine L.gNo rfl rfl rfl rfl rfl ?_ | refine L.gUnd rfl rfl rfl rfl ?_ | refine L.store rfl rfl (blt_iff.1 rfl) rfl ?_ | refine S.block ?_ | refine S.pop ?_ | refine S.skip ?_ | refine S.exit rfl ?_ | refine S.condT rfl ?_ | refine S.condF rfl ?_))
      refine S.end (Fin.zero rfl) (fun w hs => ?_)
      have hKK : KeepAt bk bd bp (Y ++ X) (({ k with last := W, next := W } : KeepM).settle k.dropped) (.cells bk 76 [ptr bd, ptr bp, .int .u64 W.gen, .int .i64 W.root, .int .u64 W.epoch, vp, vbb, .int .u64 W.gen, .int .i64 W.root, .int .u64 W.epoch, vp, vbb, .slice (some ⟨bu, 0, none⟩) 12 12, .slice (some ⟨n1, 0, none⟩) 12 12, .slice (some ⟨n2, 0, none⟩) 12 12] :: .cells bu 4 (bls (settleL k.used k.dropped)) :: .cells n1 4 (bls (List.replicate 12 false)) :: [.cells n2 4 (bls (List.replicate 12 false))]) :=
        .mk (k := ({ k with last := W, next := W } : KeepM).settle k.dropped) (lens_settle _ _) (hip.mono (by intro x hx; simp [hx])) (hib.mono (by intro x hx; simp [hx])) (hip.mono (by intro x hx; simp [hx])) (hib.mono (by intro x hx; simp [hx]))
      rw [hW1.1, hW1.2.1, hW1.2.2] at hKK
      exact ⟨A2, Ad2, _, Y, rfl, hP2, hD2, hKK, hs.less (by intro a; simp only [List.count_append, List.count_cons, List.count_nil] <;> omega)⟩
  · (repeat (first | refine S.seq ?_ | refine S.region ?_ | refine L.nil ?_ | refine L.p (by first | exact o_move rfl | exact o_fld rfl | exact o_load rfl rfl | exact o_load rfl (by assumption) | exact o_nil rfl | exact o_nilFn rfl | exact o_add rfl rfl (by unfold I64; omega) | exact o_sub rfl rfl (by unfold I64; omega) | exact o_ext rfl rfl | exact o_assign rfl | exact o_eq rfl rfl | exact o_ptrNil rfl rfl | exact o_nilNil rfl rfl | exact o_le rfl rfl | exact o_pickT rfl rfl | exact o_pickF rfl rfl) rfl ?_ | refine L.gYes rfl rfl rfl ?_ | refine L.gNo rfl rfl rfl rfl rfl ?_ | refine L.gUnd rfl rfl rfl rfl ?_ | refine L.store rfl rfl (blt_iff.1 rfl) rfl ?_ | refine S.block ?_ | refine S.pop ?_ | refine S.skip ?_ | refine S.exit rfl ?_ | refine S.condT rfl ?_ | refine S.condF rfl ?_))
    refine S.anyH (id := 7) ([.cells bk 76 [ptr bd, ptr bp, .int .u64 k.last.gen, .int .i64 k.last.root, .int .u64 k.last.epoch, vp1, vb1, .int .u64 k.next.gen, .int .i64 k.next.root, .int .u64 k.next.epoch, vp2, vb2, .slice (some ⟨bu, 0, none⟩) 12 12, .slice (some ⟨bdr, 0, none⟩) 12 12, .slice (some ⟨bf, 0, none⟩) 12 12]]) (by kernel_rfl) ?_
    refine BH.take 0 rfl (by kernel_rfl) (by decide +kernel) (by decide +kernel) rfl (o_move rfl) rfl (by intro a; simp only [List.count_append, List.count_cons, List.count_nil] <;> omega) ?_
    (first | refine BH.take 1 rfl (by kernel_rfl) (by decide +kernel) (by decide +kernel) rfl (o_eq rfl rfl) rfl (by intro a; simp only [List.count_append, List.count_cons, List.count_nil] <;> omega) ?_ | refine BH.take 1 rfl (by kernel_rfl) (by decide +kernel) (by decide +kernel) rfl (o_ptrNil rfl rfl) rfl (by intro a; simp only [List.count_append, List.count_cons, List.count_nil] <;> omega) ?_ | refine BH.take 1 rfl (by kernel_rfl) (by decide +kernel) (by decide +kernel) rfl (o_nilNil rfl rfl) rfl (by intro a; simp only [List.count_append, List.count_cons, List.count_nil] <;> omega) ?_)
    refine BH.take 2 rfl (by kernel_rfl) (by decide +kernel) (by decide +kernel) rfl (o_move rfl) rfl (by intro a; simp only [List.count_append, List.count_cons, List.count_nil] <;> omega) ?_
    refine BH.split 49 rfl (fun e9 => ?_) (fun e9 => ?_)
    · refine BH.takeYes 3 rfl (by kernel_rfl) (by decide +kernel) (by decide +kernel) rfl rfl rfl rfl (o_move rfl) rfl (by intro a; simp only [List.count_append, List.count_cons, List.count_nil] <;> omega) ?_
      (first | refine BH.takeYes 4 rfl (by kernel_rfl) (by decide +kernel) (by decide +kernel) rfl rfl rfl rfl (o_nil rfl) rfl (by intro a; simp only [List.count_append, List.count_cons, List.count_nil] <;> omega) ?_ | refine BH.takeYes 4 rfl (by kernel_rfl) (by decide +kernel) (by decide +kernel) rfl rfl rfl rfl (o_nilFn rfl) rfl (by intro a; simp only [List.count_append, List.count_cons, List.count_nil] <;> omega) ?_)
      refine BH.takeYes 5 rfl (by kernel_rfl) (by decide +kernel) (by decide +kernel) rfl rfl rfl rfl (o_fld rfl) rfl (by intro a; simp only [List.count_append, List.count_cons, List.count_nil] <;> omega) ?_
      refine BH.takeYes 6 rfl (by kernel_rfl) (by decide +kernel) (by decide +kernel) rfl rfl rfl rfl (o_fld rfl) rfl (by intro a; simp only [List.count_append, List.count_cons, List.count_nil] <;> omega) ?_
      (first | refine BH.takeYes 7 rfl (by kernel_rfl) (by decide +kernel) (by decide +kernel) rfl rfl rfl rfl (o_load rfl rfl) rfl (by intro a; simp only [List.count_append, List.count_cons, List.count_nil] <;> omega) ?_ | refine BH.takeYes 7 rfl (by kernel_rfl) (by decide +kernel) (by decide +kernel) rfl rfl rfl rfl (o_load rfl (by assumption)) rfl (by intro a; simp only [List.count_append, List.count_cons, List.count_nil] <;> omega) ?_)
      refine BH.takeYes 8 rfl (by kernel_rfl) (by decide +kernel) (by decide +kernel) rfl rfl rfl rfl (o_move rfl) rfl (by intro a; simp only [List.count_append, List.count_cons, List.count_nil] <;> omega) ?_
      (first | refine BH.takeYes 9 rfl (by kernel_rfl) (by decide +kernel) (by decide +kernel) rfl rfl rfl rfl (o_nil rfl) rfl (by intro a; simp only [List.count_append, List.count_cons, List.count_nil] <;> omega) ?_ | refine BH.takeYes 9 rfl (by kernel_rfl) (by decide +kernel) (by decide +kernel) rfl rfl rfl rfl (o_nilFn rfl) rfl (by intro a; simp only [List.count_append, List.count_cons, List.count_nil] <;> omega) ?_)
      refine BH.takeYes 10 rfl (by kernel_rfl) (by decide +kernel) (by decide +kernel) rfl rfl rfl rfl (o_fld rfl) rfl (by intro a; simp only [List.count_append, List.count_cons, List.count_nil] <;> omega) ?_
      refine BH.takeYes 11 rfl (by kernel_rfl) (by decide +kernel) (by decide +kernel) rfl rfl rfl rfl (o_fld rfl) rfl (by intro a; simp only [List.count_append, List.count_cons, List.count_nil] <;> omega) ?_
      (first | refine BH.takeYes 12 rfl (by kernel_rfl) (by decide +kernel) (by decide +kernel) rfl rfl rfl rfl (o_load rfl rfl) rfl (by intro a; simp only [List.count_append, List.count_cons, List.count_nil] <;> omega) ?_ | refine BH.takeYes 12 rfl (by kernel_rfl) (by decide +kernel) (by decide +kernel) rfl rfl rfl rfl (o_load rfl (by assumption)) rfl (by intro a; simp only [List.count_append, List.count_cons, List.count_nil] <;> omega) ?_)
      refine BH.takeYes 13 rfl (by kernel_rfl) (by decide +kernel) (by decide +kernel) rfl rfl rfl rfl (o_le rfl rfl) rfl (by intro a; simp only [List.count_append, List.count_cons, List.count_nil] <;> omega) ?_
      (first | refine BH.take 14 rfl (by kernel_rfl) (by decide +kernel) (by decide +kernel) rfl (o_pickT rfl rfl) rfl (by intro a; simp only [List.count_append, List.count_cons, List.count_nil] <;> omega) ?_ | refine BH.take 14 rfl (by kernel_rfl) (by decide +kernel) (by decide +kernel) rfl (o_pickF rfl rfl) rfl (by intro a; simp only [List.count_append, List.count_cons, List.count_nil] <;> omega) ?_)
      refine BH.done (by decide +kernel) ?_
      (repeat (first | refine S.seq ?_ | refine S.region ?_ | refine L.nil ?_ | refine L.p (by first | exact o_move rfl | exact o_fld rfl | exact o_load rfl rfl | exact o_load rfl (by assumption) | exact o_nil rfl | exact o_nilFn rfl | exact o_add rfl rfl (by unfold I64; omega) | exact o_sub rfl rfl (by unfold I64; omega) | exact o_ext rfl rfl | exact o_assign rfl | exact o_eq rfl rfl | exact o_ptrNil rfl rfl | exact o_nilNil rfl rfl | exact o_le rfl rfl | exact o_pickT rfl rfl | exact o_pickF rfl rfl) rfl ?_ | refine L.gYes rfl rfl rfl ?_ | refine L.gNo rfl rfl rfl rfl rfl ?_ | refine L.gUnd rfl rfl rfl rfl ?_ | refine L.store rfl rfl (blt_iff.1 rfl) rfl ?_ | refine S.block ?_ | refine S.pop ?_ | refine S.skip ?_ | refine S.exit rfl ?_ | refine S.condT rfl ?_ | refine S.condF rfl ?_))
      refine S.condD rfl (fun le => ?_) (fun le => ?_)
      · have hkm : KeepM.commit k p D nn (epochM p.epoch m) e0 = { k with next := W } := by
          unfold KeepM.commit; rw [if_neg z, if_pos ⟨e9, by omega⟩, hW]
        rw [hkm]
        (repeat (first | refine L.p (o_loadE (vs := [.int .u64 ((p.gen + 1 : Nat) : Int), .int .i64 nn, .int .u64 (epochM p.epoch m : Nat), vp, vbb]) rfl (Nat.le_refl 5) rfl) rfl ?_ | refine S.seq ?_ | refine S.region ?_ | refine L.nil ?_ | refine L.p (by first | exact o_move rfl | exact o_fld rfl | exact o_load rfl rfl | exact o_load rfl (by assumption) | exact o_nil rfl | exact o_nilFn rfl | exact o_add rfl rfl (by unfold I64; omega) | exact o_sub rfl rfl (by unfold I64; omega) | exact o_ext rfl rfl | exact o_assign rfl | exact o_eq rfl rfl | exact o_ptrNil rfl rfl | exact o_nilNil rfl rfl | exact o_le rfl rfl | exact o_pickT rfl rfl | exact o_pickF rfl rfl) rfl ?_ | refine L.gYes rfl rfl rfl ?_ | refine L.gNo rfl rfl rfl rfl rfl ?_ | refine L.gUnd rfl rfl rfl rfl ?_ | refine L.store rfl rfl (blt_iff.1 rfl) rfl ?_ | refine S.block ?_ | refine S.pop ?_ | refine S.skip ?_ | refine S.exit rfl ?_ | refine S.condT rfl ?_ | refine S.condF rfl ?_))
        refine L.storeE (cs' := [ptr bd, ptr bp, .int .u64 k.last.gen, .int .i64 k.last.root, .int .u64 k.last.epoch, vp1, vb1, .int .u64 ((p.gen + 1 : Nat) : Int), .int .i64 nn, .int .u64 (epochM p.epoch m : Nat), vp, vbb, .slice (some ⟨bu, 0, none⟩) 12 12, .slice (some ⟨bdr, 0, none⟩) 12 12, .slice (some ⟨bf, 0, none⟩) 12 12]) (vs := [.int .u64 ((p.gen + 1 : Nat) : Int), .int .i64 nn, .int .u64 (epochM p.epoch m : Nat), vp, vbb]) rfl rfl (by rfl) (by simp) (by simp only [List.forall_mem_cons]; exact ⟨rfl, rfl, rfl, op, ob, fun _ h => by cases h⟩) rfl ?_
        (repeat (first | refine S.seq ?_ | refine S.region ?_ | refine L.nil ?_ | refine L.p (by first | exact o_move rfl | exact o_fld rfl | exact o_load rfl rfl | exact o_load rfl (by assumption) | exact o_nil rfl | exact o_nilFn rfl | exact o_add rfl rfl (by unfold I64; omega) | exact o_sub rfl rfl (by unfold I64; omega) | exact o_ext rfl rfl | exact o_assign rfl | exact o_eq rfl rfl | exact o_ptrNil rfl rfl | exact o_nilNil rfl rfl | exact o_le rfl rfl | exact o_pickT rfl rfl | exact o_pickF rfl rfl) rfl ?_ | refine L.gYes rfl rfl rfl ?_ | refine L.gNo rfl rfl rfl rfl rfl ?_ | refine L.gUnd rfl rfl rfl rfl ?_ | refine L.store rfl rfl (blt_iff.1 rfl) rfl ?_ | refine S.block ?_ | refine S.pop ?_ | refine S.skip ?_ | refine S.exit rfl ?_ | refine S.condT rfl ?_ | refine S.condF rfl ?_))
        refine S.end (Fin.zero rfl) (fun w hs => ?_)
        have hKK : KeepAt bk bd bp (Y ++ X) ({ k with next := W } : KeepM) (.cells bk 76 [ptr bd, ptr bp, .int .u64 k.last.gen, .int .i64 k.last.root, .int .u64 k.last.epoch, vp1, vb1, .int .u64 W.gen, .int .i64 W.root, .int .u64 W.epoch, vp, vbb, .slice (some ⟨bu, 0, none⟩) 12 12, .slice (some ⟨bdr, 0, none⟩) 12 12, .slice (some ⟨bf, 0, none⟩) 12 12] :: .cells bu 4 (bls k.used) :: .cells bdr 4 (bls k.dropped) :: [.cells bf 4 (bls k.fresh)]) :=
          .mk (k := ({ k with next := W } : KeepM)) ⟨lu, ld, lf⟩ (g1.mono (by intro x hx; simp [hx])) (g2.mono (by intro x hx; simp [hx])) (hip.mono (by intro x hx; simp [hx])) (hib.mono (by intro x hx; simp [hx]))
        rw [hW1.1, hW1.2.1, hW1.2.2] at hKK
        exact ⟨A2, Ad2, _, Y, rfl, hP2, hD2, hKK, hs.less (by intro a; simp only [List.count_append, List.count_cons, List.count_nil] <;> omega)⟩
      · have hkm : KeepM.commit k p D nn (epochM p.epoch m) e0 = k := by
          unfold KeepM.commit; rw [if_neg z, if_neg (fun hh => le (by omega))]
        rw [hkm]
        (repeat (first | refine S.seq ?_ | refine S.region ?_ | refine L.nil ?_ | refine L.p (by first | exact o_move rfl | exact o_fld rfl | exact o_load rfl rfl | exact o_load rfl (by assumption) | exact o_nil rfl | exact o_nilFn rfl | exact o_add rfl rfl (by unfold I64; omega) | exact o_sub rfl rfl (by unfold I64; omega) | exact o_ext rfl rfl | exact o_assign rfl | exact o_eq rfl rfl | exact o_ptrNil rfl rfl | exact o_nilNil rfl rfl | exact o_le rfl rfl | exact o_pickT rfl rfl | exact o_pickF rfl rfl) rfl ?_ | refine L.gYes rfl rfl rfl ?_ | refine L.gNo rfl rfl rfl rfl rfl ?_ | refine L.gUnd rfl rfl rfl rfl ?_ | refine L.store rfl rfl (blt_iff.1 rfl) rfl ?_ | refine S.block ?_ | refine S.pop ?_ | refine S.skip ?_ | refine S.exit rfl ?_ | refine S.condT rfl ?_ | refine S.condF rfl ?_))
        refine S.end (Fin.zero rfl) (fun w hs => ?_)
        exact ⟨A2, Ad2, _, Y, rfl, hP2, hD2, hK0.mono (by intro x hx; simp [hx]), hs.less (by intro a; simp only [List.count_append, List.count_cons, List.count_nil, List.cons_append, List.nil_append] <;> omega)⟩
    · refine BH.takeNo 3 rfl (by kernel_rfl) (by decide +kernel) (by decide +kernel) rfl rfl rfl rfl rfl rfl (by intro a; simp only [List.count_append, List.count_cons, List.count_nil] <;> omega) ?_
      refine BH.takeNo 4 rfl (by kernel_rfl) (by decide +kernel) (by decide +kernel) rfl rfl rfl rfl rfl rfl (by intro a; simp only [List.count_append, List.count_cons, List.count_nil] <;> omega) ?_
      refine BH.takeNo 5 rfl (by kernel_rfl) (by decide +kernel) (by decide +kernel) rfl rfl rfl rfl rfl rfl (by intro a; simp only [List.count_append, List.count_cons, List.count_nil] <;> omega) ?_
      refine BH.takeNo 6 rfl (by kernel_rfl) (by decide +kernel) (by decide +kernel) rfl rfl rfl rfl rfl rfl (by intro a; simp only [List.count_append, List.count_cons, List.count_nil] <;> omega) ?_
      refine BH.takeNo 7 rfl (by kernel_rfl) (by decide +kernel) (by decide +kernel) rfl rfl rfl rfl rfl rfl (by intro a; simp only [List.count_append, List.count_cons, List.count_nil] <;> omega) ?_
      refine BH.takeNo 8 rfl (by kernel_rfl) (by decide +kernel) (by decide +kernel) rfl rfl rfl rfl rfl rfl (by intro a; simp only [List.count_append, List.count_cons, List.count_nil] <;> omega) ?_
      refine BH.takeNo 9 rfl (by kernel_rfl) (by decide +kernel) (by decide +kernel) rfl rfl rfl rfl rfl rfl (by intro a; simp only [List.count_append, List.count_cons, List.count_nil] <;> omega) ?_
      refine BH.takeNo 10 rfl (by kernel_rfl) (by decide +kernel) (by decide +kernel) rfl rfl rfl rfl rfl rfl (by intro a; simp only [List.count_append, List.count_cons, List.count_nil] <;> omega) ?_
      refine BH.takeNo 11 rfl (by kernel_rfl) (by decide +kernel) (by decide +kernel) rfl rfl rfl rfl rfl rfl (by intro a; simp only [List.count_append, List.count_cons, List.count_nil] <;> omega) ?_
      refine BH.takeNo 12 rfl (by kernel_rfl) (by decide +kernel) (by decide +kernel) rfl rfl rfl rfl rfl rfl (by intro a; simp only [List.count_append, List.count_cons, List.count_nil] <;> omega) ?_
      refine BH.takeNo 13 rfl (by kernel_rfl) (by decide +kernel) (by decide +kernel) rfl rfl rfl rfl rfl rfl (by intro a; simp only [List.count_append, List.count_cons, List.count_nil] <;> omega) ?_
      (first | refine BH.take 14 rfl (by kernel_rfl) (by decide +kernel) (by decide +kernel) rfl (o_pickT rfl rfl) rfl (by intro a; simp only [List.count_append, List.count_cons, List.count_nil] <;> omega) ?_ | refine BH.take 14 rfl (by kernel_rfl) (by decide +kernel) (by decide +kernel) rfl (o_pickF rfl rfl) rfl (by intro a; simp only [List.count_append, List.count_cons, List.count_nil] <;> omega) ?_)
      refine BH.done (by decide +kernel) ?_
      have hkm : KeepM.commit k p D nn (epochM p.epoch m) e0 = k := by
        unfold KeepM.commit; rw [if_neg z, if_neg (fun hh => e9 hh.1)]
      rw [hkm]
      (repeat (first | refine S.seq ?_ | refine S.region ?_ | refine L.nil ?_ | refine L.p (by first | exact o_move rfl | exact o_fld rfl | exact o_load rfl rfl | exact o_load rfl (by assumption) | exact o_nil rfl | exact o_nilFn rfl | exact o_add rfl rfl (by unfold I64; omega) | exact o_sub rfl rfl (by unfold I64; omega) | exact o_ext rfl rfl | exact o_assign rfl | exact o_eq rfl rfl | exact o_ptrNil rfl rfl | exact o_nilNil rfl rfl | exact o_le rfl rfl | exact o_pickT rfl rfl | exact o_pickF rfl rfl) rfl ?_ | refine L.gYes rfl rfl rfl ?_ | refine L.gNo rfl rfl rfl rfl rfl ?_ | refine L.gUnd rfl rfl rfl rfl ?_ | refine L.store rfl rfl (blt_iff.1 rfl) rfl ?_ | refine S.block ?_ | refine S.pop ?_ | refine S.skip ?_ | refine S.exit rfl ?_ | refine S.condT rfl ?_ | refine S.condF rfl ?_))
      refine S.end (Fin.zero rfl) (fun w hs => ?_)
      exact ⟨A2, Ad2, _, Y, rfl, hP2, hD2, hK0.mono (by intro x hx; simp [hx]), hs.less (by intro a; simp only [List.count_append, List.count_cons, List.count_nil, List.cons_append, List.nil_append] <;> omega)⟩
end Go.Proofs.Ytlecgoebbjnnmaa

