/- The keeper's functions. -/
import Derived.Test.YtlecgoebbjnnmaaKeepsK
import Derived.Test.YtlecgoebbjnnmaaStart2
import Derived.Test.YtlecgoebbjnnmaaOps10
set_option linter.unusedVariables false
set_option linter.unusedSimpArgs false
set_option linter.unusedSectionVars false
set_option linter.constructorNameAsVariable false
set_option maxRecDepth 100000
set_option maxHeartbeats 4000000
namespace Go.Proofs.Ytlecgoebbjnnmaa
open Go
variable [Ref]

def strs (l : List (List UInt8)) : List Value := l.map strV
@[simp] theorem strs_length (l : List (List UInt8)) : (strs l).length = l.length := by simp [strs]
theorem strs_get (l : List (List UInt8)) (k : Nat) (h : k < l.length) : (strs l)[k]? = some (strV l[k]) := by simp [strs, h]
inductive StrsIn (H : List Atom) (l : List (List UInt8)) : Value → Prop
  | none {a : Option Addr} {cap : Nat} (h : l = []) : StrsIn H l (.slice a l.length cap)
  | mk {b o cap : Nat} {cs : List Value} (hc : l.length ≤ cap) (hh : CellsAt H b cs) (ho : o + l.length ≤ cs.length) (he : (cs.drop o).take l.length = strs l) : StrsIn H l (.slice (some ⟨b, o, Option.none⟩) l.length cap)
theorem StrsIn.mono {H H' : List Atom} {v : Value} {l : List (List UInt8)} (h : StrsIn H l v) (hs : ∀ x ∈ H, x ∈ H') : StrsIn H' l v := by
  cases h with
  | none h => exact .none h
  | mk hc hh ho he => exact .mk hc (hh.mono hs) ho he
theorem StrsIn.len {H : List Atom} {v : Value} {l : List (List UInt8)} (h : StrsIn H l v) : ∃ a cap, v = .slice a l.length cap := by cases h <;> exact ⟨_, _, rfl⟩
theorem Own.strs {v : Value} {l : List (List UInt8)} {A H : List Atom} (h : Own 9 1 v (strs l) A) (hs : ∀ x ∈ A, x ∈ H) : StrsIn H l v := by
  generalize hq : Go.Proofs.Ytlecgoebbjnnmaa.strs l = q at h
  cases h with
  | nil =>
    have : l = [] := by simpa [Go.Proofs.Ytlecgoebbjnnmaa.strs] using hq
    subst this; exact .none rfl
  | @mk b len cap _ extra hx hc h1 =>
    subst hq
    simp only [strs_length, Nat.mul_one] at hx
    subst hx
    exact .mk (o := 0) (cs := Go.Proofs.Ytlecgoebbjnnmaa.strs l ++ extra) h1 (.inl ⟨9, hs _ (by simp)⟩) (by simp) (by rw [List.drop_zero]; exact List.take_left' (by simp))

def pagesI (s : SnapM) : List Int := s.pages.map fun x : Nat => (x : Int)
inductive KeepAt (bk bd bp : Nat) (X : List Atom) (k : KeepM) : List Atom → Prop
  | mk {bu bdr bf : Nat} {vp1 vb1 vp2 vb2 : Value} (l : Lens k) (h1 : IntsIn X (pagesI k.last) vp1) (h2 : StrsIn X k.last.bytes vb1) (h3 : IntsIn X (pagesI k.next) vp2) (h4 : StrsIn X k.next.bytes vb2) :
    KeepAt bk bd bp X k (.cells bk 76 [ptr bd, ptr bp, .int .u64 k.last.gen, .int .i64 k.last.root, .int .u64 k.last.epoch, vp1, vb1, .int .u64 k.next.gen, .int .i64 k.next.root, .int .u64 k.next.epoch, vp2, vb2, .slice (some ⟨bu, 0, none⟩) 12 12, .slice (some ⟨bdr, 0, none⟩) 12 12, .slice (some ⟨bf, 0, none⟩) 12 12] :: .cells bu 4 (bls k.used) :: .cells bdr 4 (bls k.dropped) :: [.cells bf 4 (bls k.fresh)])
theorem KeepAt.mono {bk bd bp : Nat} {X X' : List Atom} {k : KeepM} {K : List Atom} (h : KeepAt bk bd bp X k K) (hs : ∀ x ∈ X, x ∈ X') : KeepAt bk bd bp X' k K := by
  cases h with
  | mk l h1 h2 h3 h4 => exact .mk l (h1.mono hs) (h2.mono hs) (h3.mono hs) (h4.mono hs)

theorem knone_calls {w : World} {H : List Atom} (hs : Sat w H) :
    Calls Try.prog 32 ([] : List Value).toArray w (fun e w' => ∃ b, e = .returned (.slice (some ⟨b, 0, none⟩) 12 12) ∧ Sat w' (.cells b 4 (bls (List.replicate 12 false)) :: H)) := by
  refine enter Try.func32 rfl Try.ntmps32 rfl hs ?_
  (repeat (first | refine S.seq ?_ | refine S.region ?_ | refine L.nil ?_ | refine L.p (by first | exact o_assign rfl) rfl ?_ | refine S.block ?_ | refine S.pop ?_ | refine S.skip ?_ | refine S.exit rfl ?_ | refine S.condT rfl ?_ | refine S.condF rfl ?_))
  refine L.make1 rfl rfl (by omega) rfl (fun b => ?_)
  rw [show List.replicate 12 (Value.bool false) = bls (List.replicate 12 false) from (bls_replicate _).symm]
  (repeat (first | refine S.seq ?_ | refine S.region ?_ | refine L.nil ?_ | refine L.p (by first | exact o_assign rfl) rfl ?_ | refine S.block ?_ | refine S.pop ?_ | refine S.skip ?_ | refine S.exit rfl ?_ | refine S.condT rfl ?_ | refine S.condF rfl ?_))
  refine S.fin (Fin.one rfl (RV.tmp rfl)) (fun w hs => ?_)
  exact ⟨b, rfl, hs⟩

def settleL (u g : List Bool) : List Bool := (List.range 12).map fun i => u.getD i false && !g.getD i false
theorem ksettle_calls {w : World} {H : List Atom} {bk bu : Nat} {v c0 c1 c2 c3 c4 c5 c6 c7 c8 c9 c10 c11 c13 c14 : Value} {u g : List Bool} (hu : u.length = 12) (hg : BoolsIn H v g) (hgl : g.length ≤ 12)
    (hs : Sat w (.cells bk 76 [c0, c1, c2, c3, c4, c5, c6, c7, c8, c9, c10, c11, .slice (some ⟨bu, 0, none⟩) 12 12, c13, c14] :: .cells bu 4 (bls u) :: H)) :
    Calls Try.prog 72 [ptr bk, v].toArray w (fun e w' => ∃ b1 b2, e = .returned (.tuple #[]) ∧ Sat w' (.cells bk 76 [c0, c1, c2, c3, c4, c5, c6, c7, c8, c9, c10, c11, .slice (some ⟨bu, 0, none⟩) 12 12, .slice (some ⟨b1, 0, none⟩) 12 12, .slice (some ⟨b2, 0, none⟩) 12 12] ::
      .cells bu 4 (bls (settleL u g)) :: .cells b1 4 (bls (List.replicate 12 false)) :: .cells b2 4 (bls (List.replicate 12 false)) :: H)) := by
  obtain ⟨ag, cg, rfl⟩ := hg.len
  refine enter Try.func72 rfl Try.ntmps72 rfl hs ?_
  (repeat (first | refine S.seq ?_ | refine S.region ?_ | refine L.nil ?_ | refine L.p (by first | exact o_assign rfl | exact o_move rfl | exact o_lenS rfl | exact o_lenStr rfl | exact o_lt rfl rfl | exact o_nil rfl | exact o_nilFn rfl | exact o_fld rfl | exact o_load rfl rfl | exact o_load rfl (by assumption) | exact o_idx rfl rfl (by omega) | exact o_idxA rfl rfl (by omega) | exact o_notT rfl | exact o_notF rfl | exact o_notD rfl | exact o_notB rfl | exact o_pickT rfl rfl | exact o_pickF rfl rfl | exact o_add rfl rfl (by unfold I64; omega)) rfl ?_ | refine L.gYes rfl rfl rfl ?_ | refine L.gNo rfl rfl rfl rfl rfl ?_ | refine L.gUnd rfl rfl rfl rfl ?_ | refine L.store rfl rfl (blt_iff.1 rfl) rfl ?_ | refine S.block ?_ | refine S.pop ?_ | refine S.skip ?_ | refine S.exit rfl ?_ | refine S.condT rfl ?_ | refine S.condF rfl ?_))
  refine S.loop (G := Nat) (fun i => i ≤ g.length)
    (fun i => [(4, .int .i64 i), (0, ptr bk), (1, .slice ag g.length cg)])
    (fun i => .cells bk 76 [c0, c1, c2, c3, c4, c5, c6, c7, c8, c9, c10, c11, .slice (some ⟨bu, 0, none⟩) 12 12, c13, c14] :: .cells bu 4 (bls ((settleL u g).take i ++ u.drop i)) :: H) (fun i => g.length - i) 0 (by simp) (by repeat (first | exact trivial | refine ⟨rfl, ?_⟩)) (fun w hs => by simpa using hs) ?_
  rintro i m h1 hm
  have hsl : (settleL u g).length = 12 := by simp [settleL]
  have hcl : ((settleL u g).take i ++ u.drop i).length = 12 := by simp [hsl, hu]; omega
  (repeat (first | refine S.seq ?_ | refine S.region ?_ | refine L.nil ?_ | refine L.p (by first | exact o_assign rfl | exact o_move rfl | exact o_lenS rfl | exact o_lenStr rfl | exact o_lt rfl rfl | exact o_nil rfl | exact o_nilFn rfl | exact o_fld rfl | exact o_load rfl rfl | exact o_load rfl (by assumption) | exact o_idx rfl rfl (by omega) | exact o_idxA rfl rfl (by omega) | exact o_notT rfl | exact o_notF rfl | exact o_notD rfl | exact o_notB rfl | exact o_pickT rfl rfl | exact o_pickF rfl rfl | exact o_add rfl rfl (by unfold I64; omega)) rfl ?_ | refine L.gYes rfl rfl rfl ?_ | refine L.gNo rfl rfl rfl rfl rfl ?_ | refine L.gUnd rfl rfl rfl rfl ?_ | refine L.store rfl rfl (blt_iff.1 rfl) rfl ?_ | refine S.block ?_ | refine S.pop ?_ | refine S.skip ?_ | refine S.exit rfl ?_ | refine S.condT rfl ?_ | refine S.condF rfl ?_))
  refine S.condD rfl (fun hi => ?_) (fun hi => ?_)
  · have hi' : i < g.length := by omega
    have hcur : ((settleL u g).take i ++ u.drop i).getD i false = u.getD i false := by
      rw [List.getD_eq_getElem?_getD, List.getElem?_append_right (by simp; omega), List.getElem?_drop, List.getD_eq_getElem?_getD]
      congr 2
      simp [hsl]; omega
    have hset : ∀ b : Bool, b = (u.getD i false && !g.getD i false) → (bls ((settleL u g).take i ++ u.drop i)).set i (.bool b) = bls ((settleL u g).take (i + 1) ++ u.drop (i + 1)) := by
      intro b hb
      have hsi : i < (settleL u g).length := by omega
      have hl1 : ((settleL u g).take i).length = i := by simp; omega
      rw [bls_set, List.set_append_right _ _ (by omega), hl1, Nat.sub_self, List.drop_eq_getElem_cons (by omega : i < u.length), List.set_cons_zero, List.take_succ_eq_append_getElem hsi, List.append_assoc, List.cons_append, List.nil_append]
      congr 3
      rw [hb]
      simp [settleL]
    have gb := bls_get (l := (settleL u g).take i ++ u.drop i) (k := i) (by omega)
    rw [hcur] at gb
    have hg0 := hg
    generalize hqv : Value.slice ag g.length cg = qv at hg0
    cases hg0 with
    | none => cases hqv; simp at hi'
    | @mk b9 o9 _ _ cs9 _ hgl9 hgc9 hh9 ho9 he9 =>
    cases hqv
    have g9 := get_of_part he9 hi'
    rw [bls_get hi'] at g9
    (repeat (first | refine S.seq ?_ | refine S.region ?_ | refine L.nil ?_ | refine L.p (by first | exact o_assign rfl | exact o_move rfl | exact o_lenS rfl | exact o_lenStr rfl | exact o_lt rfl rfl | exact o_nil rfl | exact o_nilFn rfl | exact o_fld rfl | exact o_load rfl rfl | exact o_load rfl (by assumption) | exact o_idx rfl rfl (by omega) | exact o_idxA rfl rfl (by omega) | exact o_notT rfl | exact o_notF rfl | exact o_notD rfl | exact o_notB rfl | exact o_pickT rfl rfl | exact o_pickF rfl rfl | exact o_add rfl rfl (by unfold I64; omega)) rfl ?_ | refine L.gYes rfl rfl rfl ?_ | refine L.gNo rfl rfl rfl rfl rfl ?_ | refine L.gUnd rfl rfl rfl rfl ?_ | refine L.store rfl rfl (blt_iff.1 rfl) rfl ?_ | refine S.block ?_ | refine S.pop ?_ | refine S.skip ?_ | refine S.exit rfl ?_ | refine S.condT rfl ?_ | refine S.condF rfl ?_))
    refine S.anyH (id := 3) (.cells bk 76 [c0, c1, c2, c3, c4, c5, c6, c7, c8, c9, c10, c11, .slice (some ⟨bu, 0, none⟩) 12 12, c13, c14] :: H) (by kernel_rfl) ?_
    refine BH.take 0 rfl (by kernel_rfl) (by decide +kernel) (by decide +kernel) rfl (o_move rfl) rfl (by intro a; simp only [List.count_append, List.count_cons, List.count_nil] <;> omega) ?_
    (first | refine BH.take 1 rfl (by kernel_rfl) (by decide +kernel) (by decide +kernel) rfl (o_nil rfl) rfl (by intro a; simp only [List.count_append, List.count_cons, List.count_nil] <;> omega) ?_ | refine BH.take 1 rfl (by kernel_rfl) (by decide +kernel) (by decide +kernel) rfl (o_nilFn rfl) rfl (by intro a; simp only [List.count_append, List.count_cons, List.count_nil] <;> omega) ?_)
    refine BH.take 2 rfl (by kernel_rfl) (by decide +kernel) (by decide +kernel) rfl (o_fld rfl) rfl (by intro a; simp only [List.count_append, List.count_cons, List.count_nil] <;> omega) ?_
    (first | refine BH.take 3 rfl (by kernel_rfl) (by decide +kernel) (by decide +kernel) rfl (o_load rfl rfl) rfl (by intro a; simp only [List.count_append, List.count_cons, List.count_nil] <;> omega) ?_ | refine BH.take 3 rfl (by kernel_rfl) (by decide +kernel) (by decide +kernel) rfl (o_load rfl (by assumption)) rfl (by intro a; simp only [List.count_append, List.count_cons, List.count_nil] <;> omega) ?_)
    refine BH.take 4 rfl (by kernel_rfl) (by decide +kernel) (by decide +kernel) rfl (o_move rfl) rfl (by intro a; simp only [List.count_append, List.count_cons, List.count_nil] <;> omega) ?_
    refine BH.take 5 rfl (by kernel_rfl) (by decide +kernel) (by decide +kernel) rfl (o_move rfl) rfl (by intro a; simp only [List.count_append, List.count_cons, List.count_nil] <;> omega) ?_
    (first | refine BH.take 6 rfl (by kernel_rfl) (by decide +kernel) (by decide +kernel) rfl (o_nil rfl) rfl (by intro a; simp only [List.count_append, List.count_cons, List.count_nil] <;> omega) ?_ | refine BH.take 6 rfl (by kernel_rfl) (by decide +kernel) (by decide +kernel) rfl (o_nilFn rfl) rfl (by intro a; simp only [List.count_append, List.count_cons, List.count_nil] <;> omega) ?_)
    refine BH.take 7 rfl (by kernel_rfl) (by decide +kernel) (by decide +kernel) rfl (o_fld rfl) rfl (by intro a; simp only [List.count_append, List.count_cons, List.count_nil] <;> omega) ?_
    (first | refine BH.take 8 rfl (by kernel_rfl) (by decide +kernel) (by decide +kernel) rfl (o_load rfl rfl) rfl (by intro a; simp only [List.count_append, List.count_cons, List.count_nil] <;> omega) ?_ | refine BH.take 8 rfl (by kernel_rfl) (by decide +kernel) (by decide +kernel) rfl (o_load rfl (by assumption)) rfl (by intro a; simp only [List.count_append, List.count_cons, List.count_nil] <;> omega) ?_)
    refine BH.take 9 rfl (by kernel_rfl) (by decide +kernel) (by decide +kernel) rfl (o_move rfl) rfl (by intro a; simp only [List.count_append, List.count_cons, List.count_nil] <;> omega) ?_
    (first | refine BH.take 10 rfl (by kernel_rfl) (by decide +kernel) (by decide +kernel) rfl (o_idx rfl rfl (by omega)) rfl (by intro a; simp only [List.count_append, List.count_cons, List.count_nil] <;> omega) ?_ | refine BH.take 10 rfl (by kernel_rfl) (by decide +kernel) (by decide +kernel) rfl (o_idxA rfl rfl (by omega)) rfl (by intro a; simp only [List.count_append, List.count_cons, List.count_nil] <;> omega) ?_)
    refine BH.branch [11] (by kernel_rfl) (by simp) ?_
    refine BrH.cons rfl rfl ?_ BrH.nil
    refine L.p (o_loadM (b := bu) (T := 4) (cs := bls ((settleL u g).take i ++ u.drop i)) rfl (by simp) gb) rfl ?_
    refine L.nil ?_
    refine BH.go (by intro a; simp only [List.count_append, List.count_cons, List.count_nil] <;> omega) ?_
    refine BH.take 12 rfl (by kernel_rfl) (by decide +kernel) (by decide +kernel) rfl (o_move rfl) rfl (by intro a; simp only [List.count_append, List.count_cons, List.count_nil] <;> omega) ?_
    refine BH.splitB 23 rfl (fun hub => ?_) (fun hub => ?_)
    · refine BH.takeYes 13 rfl (by kernel_rfl) (by decide +kernel) (by decide +kernel) rfl rfl rfl rfl (o_move rfl) rfl (by intro a; simp only [List.count_append, List.count_cons, List.count_nil] <;> omega) ?_
      refine BH.takeYes 14 rfl (by kernel_rfl) (by decide +kernel) (by decide +kernel) rfl rfl rfl rfl (o_move rfl) rfl (by intro a; simp only [List.count_append, List.count_cons, List.count_nil] <;> omega) ?_
      (first | refine BH.takeYes 15 rfl (by kernel_rfl) (by decide +kernel) (by decide +kernel) rfl rfl rfl rfl (o_idx rfl rfl (by omega)) rfl (by intro a; simp only [List.count_append, List.count_cons, List.count_nil] <;> omega) ?_ | refine BH.takeYes 15 rfl (by kernel_rfl) (by decide +kernel) (by decide +kernel) rfl rfl rfl rfl (o_idxA rfl rfl (by omega)) rfl (by intro a; simp only [List.count_append, List.count_cons, List.count_nil] <;> omega) ?_)
      refine BH.takeYes 16 rfl (by kernel_rfl) (by decide +kernel) (by decide +kernel) rfl rfl rfl rfl (o_loadA (b := b9) (cs := cs9) rfl (hh9.mono (by intro x hx; simp [hx])) g9) rfl (by intro a; simp only [List.count_append, List.count_cons, List.count_nil] <;> omega) ?_
      (first | refine BH.takeYes 17 rfl (by kernel_rfl) (by decide +kernel) (by decide +kernel) rfl rfl rfl rfl (o_notT rfl) rfl (by intro a; simp only [List.count_append, List.count_cons, List.count_nil] <;> omega) ?_ | refine BH.takeYes 17 rfl (by kernel_rfl) (by decide +kernel) (by decide +kernel) rfl rfl rfl rfl (o_notF rfl) rfl (by intro a; simp only [List.count_append, List.count_cons, List.count_nil] <;> omega) ?_ | refine BH.takeYes 17 rfl (by kernel_rfl) (by decide +kernel) (by decide +kernel) rfl rfl rfl rfl (o_notD rfl) rfl (by intro a; simp only [List.count_append, List.count_cons, List.count_nil] <;> omega) ?_ | refine BH.takeYes 17 rfl (by kernel_rfl) (by decide +kernel) (by decide +kernel) rfl rfl rfl rfl (o_notB rfl) rfl (by intro a; simp only [List.count_append, List.count_cons, List.count_nil] <;> omega) ?_)
      (first | refine BH.take 18 rfl (by kernel_rfl) (by decide +kernel) (by decide +kernel) rfl (o_pickT rfl rfl) rfl (by intro a; simp only [List.count_append, List.count_cons, List.count_nil] <;> omega) ?_ | refine BH.take 18 rfl (by kernel_rfl) (by decide +kernel) (by decide +kernel) rfl (o_pickF rfl rfl) rfl (by intro a; simp only [List.count_append, List.count_cons, List.count_nil] <;> omega) ?_)
      (first | refine BH.take 19 rfl (by kernel_rfl) (by decide +kernel) (by decide +kernel) rfl (o_idx rfl rfl (by omega)) rfl (by intro a; simp only [List.count_append, List.count_cons, List.count_nil] <;> omega) ?_ | refine BH.take 19 rfl (by kernel_rfl) (by decide +kernel) (by decide +kernel) rfl (o_idxA rfl rfl (by omega)) rfl (by intro a; simp only [List.count_append, List.count_cons, List.count_nil] <;> omega) ?_)
      refine BH.branch [20] (by kernel_rfl) (by simp) ?_
      refine BrH.cons rfl rfl ?_ BrH.nil
      refine L.store rfl rfl (by simp; omega) rfl ?_
      refine L.nil ?_
      refine BH.go (by intro a; simp only [List.count_append, List.count_cons, List.count_nil] <;> omega) ?_
      refine BH.done (by decide +kernel) ?_
      rw [hset _ (by rw [hub]; rfl)]
      (repeat (first | refine S.seq ?_ | refine S.region ?_ | refine L.nil ?_ | refine L.p (by first | exact o_assign rfl | exact o_move rfl | exact o_lenS rfl | exact o_lenStr rfl | exact o_lt rfl rfl | exact o_nil rfl | exact o_nilFn rfl | exact o_fld rfl | exact o_load rfl rfl | exact o_load rfl (by assumption) | exact o_idx rfl rfl (by omega) | exact o_idxA rfl rfl (by omega) | exact o_notT rfl | exact o_notF rfl | exact o_notD rfl | exact o_notB rfl | exact o_pickT rfl rfl | exact o_pickF rfl rfl | exact o_add rfl rfl (by unfold I64; omega)) rfl ?_ | refine L.gYes rfl rfl rfl ?_ | refine L.gNo rfl rfl rfl rfl rfl ?_ | refine L.gUnd rfl rfl rfl rfl ?_ | refine L.store rfl rfl (blt_iff.1 rfl) rfl ?_ | refine S.block ?_ | refine S.pop ?_ | refine S.skip ?_ | refine S.exit rfl ?_ | refine S.condT rfl ?_ | refine S.condF rfl ?_))
      refine S.round (fun ac_ w hac_ hs => ⟨((i + 1)), ⟨?_, (by (try dsimp only); omega)⟩, hac_.weaken (look_sub (by repeat (first | exact trivial | refine ⟨rfl, ?_⟩))), (by (try dsimp only); exact hs)⟩)
      omega
    · refine BH.takeNo 13 rfl (by kernel_rfl) (by decide +kernel) (by decide +kernel) rfl rfl rfl rfl rfl rfl (by intro a; simp only [List.count_append, List.count_cons, List.count_nil] <;> omega) ?_
      refine BH.takeNo 14 rfl (by kernel_rfl) (by decide +kernel) (by decide +kernel) rfl rfl rfl rfl rfl rfl (by intro a; simp only [List.count_append, List.count_cons, List.count_nil] <;> omega) ?_
      refine BH.takeNo 15 rfl (by kernel_rfl) (by decide +kernel) (by decide +kernel) rfl rfl rfl rfl rfl rfl (by intro a; simp only [List.count_append, List.count_cons, List.count_nil] <;> omega) ?_
      refine BH.takeNo 16 rfl (by kernel_rfl) (by decide +kernel) (by decide +kernel) rfl rfl rfl rfl rfl rfl (by intro a; simp only [List.count_append, List.count_cons, List.count_nil] <;> omega) ?_
      refine BH.takeNo 17 rfl (by kernel_rfl) (by decide +kernel) (by decide +kernel) rfl rfl rfl rfl rfl rfl (by intro a; simp only [List.count_append, List.count_cons, List.count_nil] <;> omega) ?_
      (first | refine BH.take 18 rfl (by kernel_rfl) (by decide +kernel) (by decide +kernel) rfl (o_pickT rfl rfl) rfl (by intro a; simp only [List.count_append, List.count_cons, List.count_nil] <;> omega) ?_ | refine BH.take 18 rfl (by kernel_rfl) (by decide +kernel) (by decide +kernel) rfl (o_pickF rfl rfl) rfl (by intro a; simp only [List.count_append, List.count_cons, List.count_nil] <;> omega) ?_)
      (first | refine BH.take 19 rfl (by kernel_rfl) (by decide +kernel) (by decide +kernel) rfl (o_idx rfl rfl (by omega)) rfl (by intro a; simp only [List.count_append, List.count_cons, List.count_nil] <;> omega) ?_ | refine BH.take 19 rfl (by kernel_rfl) (by decide +kernel) (by decide +kernel) rfl (o_idxA rfl rfl (by omega)) rfl (by intro a; simp only [List.count_append, List.count_cons, List.count_nil] <;> omega) ?_)
      refine BH.branch [20] (by kernel_rfl) (by simp) ?_
      refine BrH.cons rfl rfl ?_ BrH.nil
      refine L.store rfl rfl (by simp; omega) rfl ?_
      refine L.nil ?_
      refine BH.go (by intro a; simp only [List.count_append, List.count_cons, List.count_nil] <;> omega) ?_
      refine BH.done (by decide +kernel) ?_
      rw [hset _ (by rw [hub]; rfl)]
      (repeat (first | refine S.seq ?_ | refine S.region ?_ | refine L.nil ?_ | refine L.p (by first | exact o_assign rfl | exact o_move rfl | exact o_lenS rfl | exact o_lenStr rfl | exact o_lt rfl rfl | exact o_nil rfl | exact o_nilFn rfl | exact o_fld rfl | exact o_load rfl rfl | exact o_load rfl (by assumption) | exact o_idx rfl rfl (by omega) | exact o_idxA rfl rfl (by omega) | exact o_notT rfl | exact o_notF rfl | exact o_notD rfl | exact o_notB rfl | exact o_pickT rfl rfl | exact o_pickF rfl rfl | exact o_add rfl rfl (by unfold I64; omega)) rfl ?_ | refine L.gYes rfl rfl rfl ?_ | refine L.gNo rfl rfl rfl rfl rfl ?_ | refine L.gUnd rfl rfl rfl rfl ?_ | refine L.store rfl rfl (blt_iff.1 rfl) rfl ?_ | refine S.block ?_ | refine S.pop ?_ | refine S.skip ?_ | refine S.exit rfl ?_ | refine S.condT rfl ?_ | refine S.condF rfl ?_))
      refine S.round (fun ac_ w hac_ hs => ⟨((i + 1)), ⟨?_, (by (try dsimp only); omega)⟩, hac_.weaken (look_sub (by repeat (first | exact trivial | refine ⟨rfl, ?_⟩))), (by (try dsimp only); exact hs)⟩)
      omega
  · (repeat (first | refine S.seq ?_ | refine S.region ?_ | refine L.nil ?_ | refine L.p (by first | exact o_assign rfl | exact o_move rfl | exact o_lenS rfl | exact o_lenStr rfl | exact o_lt rfl rfl | exact o_nil rfl | exact o_nilFn rfl | exact o_fld rfl | exact o_load rfl rfl | exact o_load rfl (by assumption) | exact o_idx rfl rfl (by omega) | exact o_idxA rfl rfl (by omega) | exact o_notT rfl | exact o_notF rfl | exact o_notD rfl | exact o_notB rfl | exact o_pickT rfl rfl | exact o_pickF rfl rfl | exact o_add rfl rfl (by unfold I64; omega)) rfl ?_ | refine L.gYes rfl rfl rfl ?_ | refine L.gNo rfl rfl rfl rfl rfl ?_ | refine L.gUnd rfl rfl rfl rfl ?_ | refine L.store rfl rfl (blt_iff.1 rfl) rfl ?_ | refine S.block ?_ | refine S.pop ?_ | refine S.skip ?_ | refine S.exit rfl ?_ | refine S.condT rfl ?_ | refine S.condF rfl ?_))
    have hi' : i = g.length := by omega
    subst hi'
    have hend : (settleL u g).take g.length ++ u.drop g.length = settleL u g := by
      apply List.ext_getElem?
      intro j
      by_cases hj : j < g.length
      · rw [List.getElem?_append_left (by simp; omega), List.getElem?_take, if_pos hj]
      · rw [List.getElem?_append_right (by simp; omega), List.getElem?_drop]
        have e : g.length + (j - ((settleL u g).take g.length).length) = j := by simp [hsl]; omega
        rw [e]
        by_cases hj2 : j < 12
        · have hg0 : g.getD j false = false := by rw [List.getD_eq_getElem?_getD, List.getElem?_eq_none (by omega)]; rfl
          have h1 : (settleL u g)[j]? = some (u.getD j false && !g.getD j false) := by simp [settleL, hj2]
          rw [h1, hg0, List.getElem?_eq_getElem (by omega : j < u.length)]
          simp [hu, hj2]
        · rw [List.getElem?_eq_none (by omega), List.getElem?_eq_none (by omega)]
    rw [hend]
    refine L.callR rfl (hc_func Try.func32 (by decide) rfl rfl) rfl (fun w hs => knone_calls hs) ?_
    rintro e w' ⟨b1, rfl, hs'⟩
    refine ⟨_, _, rfl, (by assumption), ?_⟩
    (repeat (first | refine S.seq ?_ | refine S.region ?_ | refine L.nil ?_ | refine L.p (by first | exact o_assign rfl | exact o_move rfl | exact o_lenS rfl | exact o_lenStr rfl | exact o_lt rfl rfl | exact o_nil rfl | exact o_nilFn rfl | exact o_fld rfl | exact o_load rfl rfl | exact o_load rfl (by assumption) | exact o_idx rfl rfl (by omega) | exact o_idxA rfl rfl (by omega) | exact o_notT rfl | exact o_notF rfl | exact o_notD rfl | exact o_notB rfl | exact o_pickT rfl rfl | exact o_pickF rfl rfl | exact o_add rfl rfl (by unfold I64; omega)) rfl ?_ | refine L.gYes rfl rfl rfl ?_ | refine L.gNo rfl rfl rfl rfl rfl ?_ | refine L.gUnd rfl rfl rfl rfl ?_ | refine L.store rfl rfl (blt_iff.1 rfl) rfl ?_ | refine S.block ?_ | refine S.pop ?_ | refine S.skip ?_ | refine S.exit rfl ?_ | refine S.condT rfl ?_ | refine S.condF rfl ?_))
    refine L.callR rfl (hc_func Try.func32 (by decide) rfl rfl) rfl (fun w hs => knone_calls hs) ?_
    rintro e w' ⟨b2, rfl, hs'⟩
    refine ⟨_, _, rfl, (by assumption), ?_⟩
    (repeat (first | refine S.seq ?_ | refine S.region ?_ | refine L.nil ?_ | refine L.p (by first | exact o_assign rfl | exact o_move rfl | exact o_lenS rfl | exact o_lenStr rfl | exact o_lt rfl rfl | exact o_nil rfl | exact o_nilFn rfl | exact o_fld rfl | exact o_load rfl rfl | exact o_load rfl (by assumption) | exact o_idx rfl rfl (by omega) | exact o_idxA rfl rfl (by omega) | exact o_notT rfl | exact o_notF rfl | exact o_notD rfl | exact o_notB rfl | exact o_pickT rfl rfl | exact o_pickF rfl rfl | exact o_add rfl rfl (by unfold I64; omega)) rfl ?_ | refine L.gYes rfl rfl rfl ?_ | refine L.gNo rfl rfl rfl rfl rfl ?_ | refine L.gUnd rfl rfl rfl rfl ?_ | refine L.store rfl rfl (blt_iff.1 rfl) rfl ?_ | refine S.block ?_ | refine S.pop ?_ | refine S.skip ?_ | refine S.exit rfl ?_ | refine S.condT rfl ?_ | refine S.condF rfl ?_))
    refine S.end (Fin.zero rfl) (fun w hs => ?_)
    exact ⟨b1, b2, rfl, hs.re (by intro a; simp only [List.count_append, List.count_cons, List.count_nil] <;> omega)⟩
end Go.Proofs.Ytlecgoebbjnnmaa

