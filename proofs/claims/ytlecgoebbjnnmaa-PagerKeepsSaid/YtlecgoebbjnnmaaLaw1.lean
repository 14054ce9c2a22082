/- The statements' own small functions. -/
import Derived.Test.YtlecgoebbjnnmaaPager4
import Derived.Test.YtlecgoebbjnnmaaDisk4
set_option linter.unusedVariables false
set_option linter.unusedSimpArgs false
set_option linter.unusedSectionVars false
set_option linter.constructorNameAsVariable false
set_option maxRecDepth 100000
set_option maxHeartbeats 4000000
namespace Go.Proofs.Ytlecgoebbjnnmaa
open Go
variable [Ref]

/-- bytes as a block: again and again, cut off -/
def blockM (b : List UInt8) : List UInt8 := (List.range 256).map fun i => if b.length = 0 then 0 else b.getD (i % b.length) 0
@[simp] theorem blockM_length (b : List UInt8) : (blockM b).length = 256 := by simp [blockM]

theorem block_calls {w : World} {H : List Atom} {v : Value} {l : List UInt8} (hb : BytesIn H v l) (hl : l.length ≤ 1000000) (hs : Sat w H) :
    Calls Try.prog 27 [v].toArray w (fun e w' => ∃ x, e = .returned (.slice (some ⟨x, 0, none⟩) 256 256) ∧ Sat w' (.cells x 5 (vbs (blockM l)) :: H)) := by
  obtain ⟨a, cap, rfl⟩ := hb.len
  refine enter Try.func27 rfl Try.ntmps27 rfl hs ?_
  (repeat (first | refine S.seq ?_ | refine S.region ?_ | refine L.nil ?_ | refine L.p (by first | exact o_assign rfl | exact o_move rfl | exact o_lenS rfl | exact o_lenStr rfl | exact o_lt rfl rfl | exact o_gt rfl rfl | exact o_pickT rfl rfl | exact o_pickF rfl rfl | exact o_idx rfl rfl (by omega) | exact o_idxA rfl rfl (by omega) | exact o_load rfl rfl | exact o_load rfl (by assumption) | exact o_add rfl rfl (by unfold I64; omega)) rfl ?_ | refine L.gYes rfl rfl rfl ?_ | refine L.gNo rfl rfl rfl rfl rfl ?_ | refine L.gUnd rfl rfl rfl rfl ?_ | refine L.store rfl rfl (blt_iff.1 rfl) rfl ?_ | refine S.block ?_ | refine S.pop ?_ | refine S.skip ?_ | refine S.exit rfl ?_ | refine S.condT rfl ?_ | refine S.condF rfl ?_))
  refine L.make1 rfl rfl (by omega) rfl (fun x => ?_)
  rw [show List.replicate 256 (Value.int .u8 0) = vbs (List.replicate 256 0) from rfl]
  (repeat (first | refine S.seq ?_ | refine S.region ?_ | refine L.nil ?_ | refine L.p (by first | exact o_assign rfl | exact o_move rfl | exact o_lenS rfl | exact o_lenStr rfl | exact o_lt rfl rfl | exact o_gt rfl rfl | exact o_pickT rfl rfl | exact o_pickF rfl rfl | exact o_idx rfl rfl (by omega) | exact o_idxA rfl rfl (by omega) | exact o_load rfl rfl | exact o_load rfl (by assumption) | exact o_add rfl rfl (by unfold I64; omega)) rfl ?_ | refine L.gYes rfl rfl rfl ?_ | refine L.gNo rfl rfl rfl rfl rfl ?_ | refine L.gUnd rfl rfl rfl rfl ?_ | refine L.store rfl rfl (blt_iff.1 rfl) rfl ?_ | refine S.block ?_ | refine S.pop ?_ | refine S.skip ?_ | refine S.exit rfl ?_ | refine S.condT rfl ?_ | refine S.condF rfl ?_))
  refine S.loop (G := Nat) (fun i => i ≤ 256)
    (fun i => [(4, .int .i64 i), (3, .slice (some ⟨x, 0, none⟩) 256 256), (0, .slice a l.length cap)])
    (fun i => .cells x 5 (vbs ((blockM l).take i ++ List.replicate (256 - i) 0)) :: H) (fun i => 256 - i) 0 (by omega) (by repeat (first | exact trivial | refine ⟨rfl, ?_⟩)) (fun w hs => hs) ?_
  rintro i m h1 hm
  (repeat (first | refine S.seq ?_ | refine S.region ?_ | refine L.nil ?_ | refine L.p (by first | exact o_assign rfl | exact o_move rfl | exact o_lenS rfl | exact o_lenStr rfl | exact o_lt rfl rfl | exact o_gt rfl rfl | exact o_pickT rfl rfl | exact o_pickF rfl rfl | exact o_idx rfl rfl (by omega) | exact o_idxA rfl rfl (by omega) | exact o_load rfl rfl | exact o_load rfl (by assumption) | exact o_add rfl rfl (by unfold I64; omega)) rfl ?_ | refine L.gYes rfl rfl rfl ?_ | refine L.gNo rfl rfl rfl rfl rfl ?_ | refine L.gUnd rfl rfl rfl rfl ?_ | refine L.store rfl rfl (blt_iff.1 rfl) rfl ?_ | refine S.block ?_ | refine S.pop ?_ | refine S.skip ?_ | refine S.exit rfl ?_ | refine S.condT rfl ?_ | refine S.condF rfl ?_))
  refine L.split 10 rfl (fun hi => ?_) (fun hi => ?_)
  · have hi' : i < 256 := by omega
    (repeat (first | refine S.seq ?_ | refine S.region ?_ | refine L.nil ?_ | refine L.p (by first | exact o_assign rfl | exact o_move rfl | exact o_lenS rfl | exact o_lenStr rfl | exact o_lt rfl rfl | exact o_gt rfl rfl | exact o_pickT rfl rfl | exact o_pickF rfl rfl | exact o_idx rfl rfl (by omega) | exact o_idxA rfl rfl (by omega) | exact o_load rfl rfl | exact o_load rfl (by assumption) | exact o_add rfl rfl (by unfold I64; omega)) rfl ?_ | refine L.gYes rfl rfl rfl ?_ | refine L.gNo rfl rfl rfl rfl rfl ?_ | refine L.gUnd rfl rfl rfl rfl ?_ | refine L.store rfl rfl (blt_iff.1 rfl) rfl ?_ | refine S.block ?_ | refine S.pop ?_ | refine S.skip ?_ | refine S.exit rfl ?_ | refine S.condT rfl ?_ | refine S.condF rfl ?_))
    refine S.condD rfl (fun hl0 => ?_) (fun hl0 => ?_)
    · have hl0' : 0 < l.length := by omega
      have hb0 := hb
      generalize hq : Value.slice a l.length cap = q at hb0
      cases hb0 with
      | none => cases hq; simp at hl0'
      | @mk b o len cap' cs bs hl2 hc hh ho he =>
      cases hq
      have hmod : i % l.length < l.length := Nat.mod_lt _ hl0'
      have g1 := get_of_part he hmod
      rw [vbs_get l _ hmod] at g1
      (repeat (first | refine L.p (o_remN (a := i) (c := l.length) rfl rfl hl0') rfl ?_ | refine L.p (o_loadA (b := b) (cs := cs) rfl (hh.mono (by intro x hx; simp [hx])) g1) rfl ?_ | refine S.seq ?_ | refine S.region ?_ | refine L.nil ?_ | refine L.p (by first | exact o_assign rfl | exact o_move rfl | exact o_lenS rfl | exact o_lenStr rfl | exact o_lt rfl rfl | exact o_gt rfl rfl | exact o_pickT rfl rfl | exact o_pickF rfl rfl | exact o_idx rfl rfl (by omega) | exact o_idxA rfl rfl (by omega) | exact o_load rfl rfl | exact o_load rfl (by assumption) | exact o_add rfl rfl (by unfold I64; omega)) rfl ?_ | refine L.gYes rfl rfl rfl ?_ | refine L.gNo rfl rfl rfl rfl rfl ?_ | refine L.gUnd rfl rfl rfl rfl ?_ | refine L.store rfl rfl (blt_iff.1 rfl) rfl ?_ | refine S.block ?_ | refine S.pop ?_ | refine S.skip ?_ | refine S.exit rfl ?_ | refine S.condT rfl ?_ | refine S.condF rfl ?_))
      refine L.store rfl rfl (by simp; omega) rfl ?_
      (repeat (first | refine S.seq ?_ | refine S.region ?_ | refine L.nil ?_ | refine L.p (by first | exact o_assign rfl | exact o_move rfl | exact o_lenS rfl | exact o_lenStr rfl | exact o_lt rfl rfl | exact o_gt rfl rfl | exact o_pickT rfl rfl | exact o_pickF rfl rfl | exact o_idx rfl rfl (by omega) | exact o_idxA rfl rfl (by omega) | exact o_load rfl rfl | exact o_load rfl (by assumption) | exact o_add rfl rfl (by unfold I64; omega)) rfl ?_ | refine L.gYes rfl rfl rfl ?_ | refine L.gNo rfl rfl rfl rfl rfl ?_ | refine L.gUnd rfl rfl rfl rfl ?_ | refine L.store rfl rfl (blt_iff.1 rfl) rfl ?_ | refine S.block ?_ | refine S.pop ?_ | refine S.skip ?_ | refine S.exit rfl ?_ | refine S.condT rfl ?_ | refine S.condF rfl ?_))
      have hset : (vbs ((blockM l).take i ++ List.replicate (256 - i) 0)).set i (vb l[i % l.length]) = vbs ((blockM l).take (i + 1) ++ List.replicate (256 - (i + 1)) 0) := by
        have h2 : (blockM l)[i]? = some l[i % l.length] := by
          have hne : ¬ l = [] := fun e => by rw [e] at hl0'; simp at hl0'
          simp [blockM, hi', hmod, hne]
        have hlt : i < (blockM l).length := by simp; omega
        have h3 : (blockM l)[i] = l[i % l.length] := by
          rw [List.getElem?_eq_getElem hlt] at h2; exact Option.some.inj h2
        rw [List.take_succ_eq_append_getElem hlt, h3, show 256 - i = 256 - (i + 1) + 1 by omega, List.replicate_succ]
        simp only [vbs, List.map_append, List.map_cons, List.map_nil]
        rw [List.set_append_right _ _ (by simp; omega)]
        simp [Nat.min_eq_left (by omega : i ≤ 256)]
      rw [hset]
      refine S.round (fun ac_ w hac_ hs => ⟨((i + 1)), ⟨?_, (by (try dsimp only); omega)⟩, hac_.weaken (look_sub (by repeat (first | exact trivial | refine ⟨rfl, ?_⟩))), (by (try dsimp only); exact hs)⟩)
      omega
    · (repeat (first | refine S.seq ?_ | refine S.region ?_ | refine L.nil ?_ | refine L.p (by first | exact o_assign rfl | exact o_move rfl | exact o_lenS rfl | exact o_lenStr rfl | exact o_lt rfl rfl | exact o_gt rfl rfl | exact o_pickT rfl rfl | exact o_pickF rfl rfl | exact o_idx rfl rfl (by omega) | exact o_idxA rfl rfl (by omega) | exact o_load rfl rfl | exact o_load rfl (by assumption) | exact o_add rfl rfl (by unfold I64; omega)) rfl ?_ | refine L.gYes rfl rfl rfl ?_ | refine L.gNo rfl rfl rfl rfl rfl ?_ | refine L.gUnd rfl rfl rfl rfl ?_ | refine L.store rfl rfl (blt_iff.1 rfl) rfl ?_ | refine S.block ?_ | refine S.pop ?_ | refine S.skip ?_ | refine S.exit rfl ?_ | refine S.condT rfl ?_ | refine S.condF rfl ?_))
      refine S.fin (Fin.one rfl (RV.tmp rfl)) (fun w hs => ?_)
      have hll : l = [] := List.eq_nil_of_length_eq_zero (by omega)
      subst hll
      refine ⟨x, rfl, ?_⟩
      have hz : (blockM []).take i ++ List.replicate (256 - i) 0 = blockM [] := by
        have : blockM [] = List.replicate 256 0 := by decide
        rw [this, List.take_replicate, List.replicate_append_replicate]
        congr 1; omega
      rw [hz] at hs
      exact hs
  · (repeat (first | refine S.seq ?_ | refine S.region ?_ | refine L.nil ?_ | refine L.p (by first | exact o_assign rfl | exact o_move rfl | exact o_lenS rfl | exact o_lenStr rfl | exact o_lt rfl rfl | exact o_gt rfl rfl | exact o_pickT rfl rfl | exact o_pickF rfl rfl | exact o_idx rfl rfl (by omega) | exact o_idxA rfl rfl (by omega) | exact o_load rfl rfl | exact o_load rfl (by assumption) | exact o_add rfl rfl (by unfold I64; omega)) rfl ?_ | refine L.gYes rfl rfl rfl ?_ | refine L.gNo rfl rfl rfl rfl rfl ?_ | refine L.gUnd rfl rfl rfl rfl ?_ | refine L.store rfl rfl (blt_iff.1 rfl) rfl ?_ | refine S.block ?_ | refine S.pop ?_ | refine S.skip ?_ | refine S.exit rfl ?_ | refine S.condT rfl ?_ | refine S.condF rfl ?_))
    refine S.fin (Fin.one rfl (RV.tmp rfl)) (fun w hs => ?_)
    have hi' : i = 256 := by omega
    subst hi'
    refine ⟨x, rfl, ?_⟩
    have hz : (blockM l).take 256 ++ List.replicate (256 - 256) 0 = blockM l := by
      rw [List.take_of_length_le (by simp)]; simp
    rw [hz] at hs
    exact hs

/-! ## made, alive -/
abbrev D0 : DiskM := DiskM.new 15
def P0 : PgM := { gen := 0, root := -1, epoch := 1, first := 1, pages := 12, used := List.replicate 12 false, fresh := [], dropped := [], broken := false }
theorem tG_zero : ∀ k, k < 2 → tG (blockOf D0.now (1 + k)) = 0 := by decide +kernel
theorem open_made : openM D0 1 14 = P0 := by
  have h : ∀ (s : Nat × Int × Nat) k, k < 2 → headOf D0 1 12 s k = s := by
    intro s k hk
    unfold headOf
    dsimp only
    rw [if_neg (fun h => by rw [tG_zero k hk] at h; exact absurd h.2 (by omega))]
  unfold openM
  simp only [show 14 - 2 = 12 from rfl]
  rw [h _ 0 (by omega), h _ 1 (by omega)]
  rfl
theorem made_calls {w : World} {H : List Atom} (hs : Sat w H) :
    Calls Try.prog 21 ([] : List Value).toArray w (fun e w' => ∃ bd bp A Ad, e = .returned (.tuple #[ptr bd, ptr bp, .bool true]) ∧ PagerAt bp bd 15 P0 A ∧ DiskAt bd D0 Ad ∧ Sat w' (A ++ (Ad ++ H))) := by
  refine enter Try.func21 rfl Try.ntmps21 rfl hs ?_
  (repeat (first | refine S.seq ?_ | refine S.region ?_ | refine L.nil ?_ | refine L.p (by first | exact o_assign rfl | exact o_move rfl | exact o_ext rfl rfl | exact o_eq rfl rfl | exact o_ptrNil rfl rfl | exact o_nilNil rfl rfl | exact o_pickT rfl rfl | exact o_pickF rfl rfl | exact o_ne rfl rfl | exact o_ptrNilN rfl rfl | exact o_nilNilN rfl rfl) rfl ?_ | refine L.gYes rfl rfl rfl ?_ | refine L.gNo rfl rfl rfl rfl rfl ?_ | refine L.gUnd rfl rfl rfl rfl ?_ | refine S.block ?_ | refine S.pop ?_ | refine S.skip ?_ | refine S.exit rfl ?_ | refine S.condT rfl ?_ | refine S.condF rfl ?_))
  refine L.callR rfl (hc_func Try.func8 (by decide) rfl rfl) rfl (fun w hs => new_calls (n := 15) (by omega) (by omega) hs) ?_
  rintro e w' ⟨bd, Ad, rfl, hD, hs'⟩
  refine ⟨_, _, rfl, (by assumption), ?_⟩
  (repeat (first | refine S.seq ?_ | refine S.region ?_ | refine L.nil ?_ | refine L.p (by first | exact o_assign rfl | exact o_move rfl | exact o_ext rfl rfl | exact o_eq rfl rfl | exact o_ptrNil rfl rfl | exact o_nilNil rfl rfl | exact o_pickT rfl rfl | exact o_pickF rfl rfl | exact o_ne rfl rfl | exact o_ptrNilN rfl rfl | exact o_nilNilN rfl rfl) rfl ?_ | refine L.gYes rfl rfl rfl ?_ | refine L.gNo rfl rfl rfl rfl rfl ?_ | refine L.gUnd rfl rfl rfl rfl ?_ | refine S.block ?_ | refine S.pop ?_ | refine S.skip ?_ | refine S.exit rfl ?_ | refine S.condT rfl ?_ | refine S.condF rfl ?_))
  refine L.callR rfl (hc_func Try.func13 (by decide) rfl rfl) rfl (fun w hs => popen_good (first := 1) (size := 14) (by decide) hD hs) ?_
  rintro e w' (⟨ho, _⟩ | ⟨ho, bp, A, rfl, hP, hs'⟩)
  · cases ho
  refine ⟨_, _, rfl, (by assumption), ?_⟩
  rw [open_made] at hP
  (repeat (first | refine S.seq ?_ | refine S.region ?_ | refine L.nil ?_ | refine L.p (by first | exact o_assign rfl | exact o_move rfl | exact o_ext rfl rfl | exact o_eq rfl rfl | exact o_ptrNil rfl rfl | exact o_nilNil rfl rfl | exact o_pickT rfl rfl | exact o_pickF rfl rfl | exact o_ne rfl rfl | exact o_ptrNilN rfl rfl | exact o_nilNilN rfl rfl) rfl ?_ | refine L.gYes rfl rfl rfl ?_ | refine L.gNo rfl rfl rfl rfl rfl ?_ | refine L.gUnd rfl rfl rfl rfl ?_ | refine S.block ?_ | refine S.pop ?_ | refine S.skip ?_ | refine S.exit rfl ?_ | refine S.condT rfl ?_ | refine S.condF rfl ?_))
  refine S.fin (Fin.three rfl (RV.tmp rfl) (RV.tmp rfl) (RV.tmp rfl)) (fun w hs => ?_)
  exact ⟨bd, bp, A, Ad, rfl, hP, hD, hs⟩

def P1 : PgM := { P0 with used := P0.used.set 0 true, fresh := [0] }
theorem take0 : P0.take = (P1, 0, 0) := by
  have : leastFree P0.used = some 0 := by decide +kernel
  unfold PgM.take
  rw [this]; rfl
abbrev D1 : DiskM := (P1.write D0 0 (blockM [5])).2.1
abbrev D2 : DiskM := (P1.commit D1 0 2).2.1
theorem write0 : (P1.write D0 0 (blockM [5])).1 = P1 ∧ (P1.write D0 0 (blockM [5])).2.2 = 0 := by
  have h1 : (P1.write D0 0 (blockM [5])) = P1.put D0 (2 + 0) (blockM [5]) := by
    unfold PgM.write
    rw [if_neg (by decide), if_neg (by decide)]
  have h2 : (D0.write (P1.first + (2 + 0)) (blockM [5])).2 = 0 := by decide +kernel
  rw [h1]
  refine ⟨?_, h2⟩
  unfold PgM.put
  rw [h2]; rfl
theorem commit0 : (P1.commit D1 0 2).2.2 = 0 := by decide +kernel
theorem d2ok : D2.n = 15 ∧ D2.off = false := by decide +kernel
theorem open2 : (openM D2 1 14).root = 0 ∧ (openM D2 1 14).epoch = 2 ∧ (openM D2 1 14).gen = 1 ∧ (openM D2 1 14).pages = 12 ∧ (openM D2 1 14).used = List.replicate 12 false := by decide +kernel
theorem used2 : onlyM [0] (List.replicate 12 false) = some (true :: List.replicate 11 false) := by decide +kernel
end Go.Proofs.Ytlecgoebbjnnmaa

