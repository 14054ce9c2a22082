/- The library's heap: up, down, push, pop. -/
import Derived.Test.YtlecgoebbjnnmaaHeap
set_option linter.unusedVariables false
set_option linter.unusedSimpArgs false
set_option linter.unusedSectionVars false
set_option linter.constructorNameAsVariable false
set_option maxRecDepth 100000
set_option maxHeartbeats 4000000
namespace Go.Proofs.Ytlecgoebbjnnmaa
open Go
variable [Ref]

theorem half_eq {j : Nat} (hj : j < 4611686018427387904) : IntKind.i64.wrap (((j : Int) - 1).tdiv 2) = (((j - 1) / 2 : Nat) : Int) := by
  rw [tdiv2 (by omega)]
  have : ((j : Int) - 1).toNat = j - 1 := by omega
  rw [this]

theorem up_calls {w : World} {H : List Atom} {b bl n cap j : Nat} {tk : Value} {l : List Nat} {ex : List Value} (hn : l.length = n) (hj : j < n) (hb : n < 1000000) (hp0 : HeapUp l n j)
    (hs : Sat w (.cells b 143 [tk, .slice (some ⟨bl, 0, none⟩) n cap] :: .cells bl 3 (ints l ++ ex) :: H)) :
    Calls Try.prog 102 [hh b, .int .i64 j].toArray w (fun e w' => ∃ l', e = .returned (.tuple #[]) ∧ l'.Perm l ∧ Heap l' n ∧ Sat w' (.cells b 143 [tk, .slice (some ⟨bl, 0, none⟩) n cap] :: .cells bl 3 (ints l' ++ ex) :: H)) := by
  refine enter Try.func102 rfl Try.ntmps102 rfl hs ?_
  (repeat (first | refine S.seq ?_ | refine S.region ?_ | refine L.nil ?_ | refine L.p (by first | exact o_move rfl | exact o_sub rfl rfl (by unfold I64; omega) | exact o_assign rfl | exact o_eq rfl rfl | exact o_ptrNil rfl rfl | exact o_nilNil rfl rfl | exact o_notT rfl | exact o_notF rfl | exact o_notD rfl | exact o_notB rfl | exact o_pickT rfl rfl | exact o_pickF rfl rfl) rfl ?_ | refine L.gYes rfl rfl rfl ?_ | refine L.gNo rfl rfl rfl rfl rfl ?_ | refine L.gUnd rfl rfl rfl rfl ?_ | refine S.block ?_ | refine S.pop ?_ | refine S.skip ?_ | refine S.exit rfl ?_ | refine S.condT rfl ?_ | refine S.condF rfl ?_))
  refine S.loop (G := List Nat × Nat) (fun s => s.1.Perm l ∧ s.2 < n ∧ HeapUp s.1 n s.2) (fun s => [(0, hh b), (1, .int .i64 s.2)])
    (fun s => .cells b 143 [tk, .slice (some ⟨bl, 0, none⟩) n cap] :: .cells bl 3 (ints s.1 ++ ex) :: H) (fun s => s.2) (l, j) ⟨List.Perm.refl _, hj, hp0⟩ (by repeat (first | exact trivial | refine ⟨rfl, ?_⟩)) (fun w hs => hs) ?_
  rintro ⟨l1, k⟩ m ⟨h1, h2, h3⟩ hm
  simp only at h1 h2 h3 hm
  dsimp only
  have hlen : l1.length = n := by rw [h1.length_eq, hn]
  (repeat (first | refine S.seq ?_ | refine S.region ?_ | refine L.nil ?_ | refine L.p (by first | exact o_move rfl | exact o_sub rfl rfl (by unfold I64; omega) | exact o_assign rfl | exact o_eq rfl rfl | exact o_ptrNil rfl rfl | exact o_nilNil rfl rfl | exact o_notT rfl | exact o_notF rfl | exact o_notD rfl | exact o_notB rfl | exact o_pickT rfl rfl | exact o_pickF rfl rfl) rfl ?_ | refine L.gYes rfl rfl rfl ?_ | refine L.gNo rfl rfl rfl rfl rfl ?_ | refine L.gUnd rfl rfl rfl rfl ?_ | refine S.block ?_ | refine S.pop ?_ | refine S.skip ?_ | refine S.exit rfl ?_ | refine S.condT rfl ?_ | refine S.condF rfl ?_))
  refine L.p (o_quoE rfl rfl (by decide) (half_eq (by omega))) rfl ?_
  (repeat (first | refine S.seq ?_ | refine S.region ?_ | refine L.nil ?_ | refine L.p (by first | exact o_move rfl | exact o_sub rfl rfl (by unfold I64; omega) | exact o_assign rfl | exact o_eq rfl rfl | exact o_ptrNil rfl rfl | exact o_nilNil rfl rfl | exact o_notT rfl | exact o_notF rfl | exact o_notD rfl | exact o_notB rfl | exact o_pickT rfl rfl | exact o_pickF rfl rfl) rfl ?_ | refine L.gYes rfl rfl rfl ?_ | refine L.gNo rfl rfl rfl rfl rfl ?_ | refine L.gUnd rfl rfl rfl rfl ?_ | refine S.block ?_ | refine S.pop ?_ | refine S.skip ?_ | refine S.exit rfl ?_ | refine S.condT rfl ?_ | refine S.condF rfl ?_))
  refine L.split 11 rfl (fun he => ?_) (fun he => ?_)
  · (repeat (first | refine S.seq ?_ | refine S.region ?_ | refine L.nil ?_ | refine L.p (by first | exact o_move rfl | exact o_sub rfl rfl (by unfold I64; omega) | exact o_assign rfl | exact o_eq rfl rfl | exact o_ptrNil rfl rfl | exact o_nilNil rfl rfl | exact o_notT rfl | exact o_notF rfl | exact o_notD rfl | exact o_notB rfl | exact o_pickT rfl rfl | exact o_pickF rfl rfl) rfl ?_ | refine L.gYes rfl rfl rfl ?_ | refine L.gNo rfl rfl rfl rfl rfl ?_ | refine L.gUnd rfl rfl rfl rfl ?_ | refine S.block ?_ | refine S.pop ?_ | refine S.skip ?_ | refine S.exit rfl ?_ | refine S.condT rfl ?_ | refine S.condF rfl ?_))
    refine S.end (Fin.zero rfl) (fun w hs => ?_)
    exact ⟨l1, rfl, h1, up_stop h3 (by omega), hs⟩
  · (repeat (first | refine S.seq ?_ | refine S.region ?_ | refine L.nil ?_ | refine L.p (by first | exact o_move rfl | exact o_sub rfl rfl (by unfold I64; omega) | exact o_assign rfl | exact o_eq rfl rfl | exact o_ptrNil rfl rfl | exact o_nilNil rfl rfl | exact o_notT rfl | exact o_notF rfl | exact o_notD rfl | exact o_notB rfl | exact o_pickT rfl rfl | exact o_pickF rfl rfl) rfl ?_ | refine L.gYes rfl rfl rfl ?_ | refine L.gNo rfl rfl rfl rfl rfl ?_ | refine L.gUnd rfl rfl rfl rfl ?_ | refine S.block ?_ | refine S.pop ?_ | refine S.skip ?_ | refine S.exit rfl ?_ | refine S.condT rfl ?_ | refine S.condF rfl ?_))
    refine L.callS rfl (hcs_val Try.func122 (by decide) rfl rfl rfl rfl) rfl (fun w hs => less_calls (b := bl) (l := l1) (i := k) (j := (k - 1) / 2) (T := 3) (ex := ex) (by omega) (by omega) hlen hs (by simp)) ?_
    rintro e w' ⟨rfl, hs'⟩
    refine ⟨_, _, rfl, (by assumption), ?_⟩
    (repeat (first | refine S.seq ?_ | refine S.region ?_ | refine L.nil ?_ | refine L.p (by first | exact o_move rfl | exact o_sub rfl rfl (by unfold I64; omega) | exact o_assign rfl | exact o_eq rfl rfl | exact o_ptrNil rfl rfl | exact o_nilNil rfl rfl | exact o_notT rfl | exact o_notF rfl | exact o_notD rfl | exact o_notB rfl | exact o_pickT rfl rfl | exact o_pickF rfl rfl) rfl ?_ | refine L.gYes rfl rfl rfl ?_ | refine L.gNo rfl rfl rfl rfl rfl ?_ | refine L.gUnd rfl rfl rfl rfl ?_ | refine S.block ?_ | refine S.pop ?_ | refine S.skip ?_ | refine S.exit rfl ?_ | refine S.condT rfl ?_ | refine S.condF rfl ?_))
    refine S.condD rfl (fun hc => ?_) (fun hc => ?_)
    · (repeat (first | refine S.seq ?_ | refine S.region ?_ | refine L.nil ?_ | refine L.p (by first | exact o_move rfl | exact o_sub rfl rfl (by unfold I64; omega) | exact o_assign rfl | exact o_eq rfl rfl | exact o_ptrNil rfl rfl | exact o_nilNil rfl rfl | exact o_notT rfl | exact o_notF rfl | exact o_notD rfl | exact o_notB rfl | exact o_pickT rfl rfl | exact o_pickF rfl rfl) rfl ?_ | refine L.gYes rfl rfl rfl ?_ | refine L.gNo rfl rfl rfl rfl rfl ?_ | refine L.gUnd rfl rfl rfl rfl ?_ | refine S.block ?_ | refine S.pop ?_ | refine S.skip ?_ | refine S.exit rfl ?_ | refine S.condT rfl ?_ | refine S.condF rfl ?_))
      refine S.end (Fin.zero rfl) (fun w hs => ?_)
      exact ⟨l1, rfl, h1, up_stop h3 (by omega), hs⟩
    · have hc' : l1.getD k 0 < l1.getD ((k - 1) / 2) 0 := by simpa using hc
      (repeat (first | refine S.seq ?_ | refine S.region ?_ | refine L.nil ?_ | refine L.p (by first | exact o_move rfl | exact o_sub rfl rfl (by unfold I64; omega) | exact o_assign rfl | exact o_eq rfl rfl | exact o_ptrNil rfl rfl | exact o_nilNil rfl rfl | exact o_notT rfl | exact o_notF rfl | exact o_notD rfl | exact o_notB rfl | exact o_pickT rfl rfl | exact o_pickF rfl rfl) rfl ?_ | refine L.gYes rfl rfl rfl ?_ | refine L.gNo rfl rfl rfl rfl rfl ?_ | refine L.gUnd rfl rfl rfl rfl ?_ | refine S.block ?_ | refine S.pop ?_ | refine S.skip ?_ | refine S.exit rfl ?_ | refine S.condT rfl ?_ | refine S.condF rfl ?_))
      refine L.callS rfl (hcs_val Try.func123 (by decide) rfl rfl rfl rfl) rfl (fun w hs => swap_calls (H := .cells b 143 [tk, .slice (some ⟨bl, 0, none⟩) n cap] :: H) (l := l1) (i := (k - 1) / 2) (j := k) (T := 3) (ex := ex) (by omega) (by omega) hlen (hs.re (by intro a; simp only [List.count_append, List.count_cons, List.count_nil] <;> omega))) ?_
      rintro e w' ⟨rfl, hs'⟩
      refine ⟨_, _, rfl, hs'.re (H' := .cells b 143 [tk, .slice (some ⟨bl, 0, none⟩) n cap] :: .cells bl 3 (ints (swapL l1 ((k - 1) / 2) k) ++ ex) :: H) (by intro a; simp only [List.count_append, List.count_cons, List.count_nil] <;> omega), ?_⟩
      (repeat (first | refine S.seq ?_ | refine S.region ?_ | refine L.nil ?_ | refine L.p (by first | exact o_move rfl | exact o_sub rfl rfl (by unfold I64; omega) | exact o_assign rfl | exact o_eq rfl rfl | exact o_ptrNil rfl rfl | exact o_nilNil rfl rfl | exact o_notT rfl | exact o_notF rfl | exact o_notD rfl | exact o_notB rfl | exact o_pickT rfl rfl | exact o_pickF rfl rfl) rfl ?_ | refine L.gYes rfl rfl rfl ?_ | refine L.gNo rfl rfl rfl rfl rfl ?_ | refine L.gUnd rfl rfl rfl rfl ?_ | refine S.block ?_ | refine S.pop ?_ | refine S.skip ?_ | refine S.exit rfl ?_ | refine S.condT rfl ?_ | refine S.condF rfl ?_))
      refine S.round (fun ac_ w hac_ hs => ⟨(swapL l1 ((k - 1) / 2) k, (k - 1) / 2), ⟨?_, (by (try dsimp only); omega)⟩, hac_.weaken (look_sub (by repeat (first | exact trivial | refine ⟨rfl, ?_⟩))), (by (try dsimp only); exact hs)⟩)
      exact ⟨(swapL_perm (by omega) (by omega)).trans h1, by omega, up_go hlen.symm h3 (by omega) h2 hc'⟩

theorem down_calls {w : World} {H : List Atom} {b bl n N cap : Nat} {tk : Value} {l : List Nat} {ex : List Value} (hn : l.length = N) (hnN : n ≤ N) (hb : N < 1000000) (hp0 : HeapDown l n 0)
    (hs : Sat w (.cells b 143 [tk, .slice (some ⟨bl, 0, none⟩) N cap] :: .cells bl 3 (ints l ++ ex) :: H)) :
    Calls Try.prog 103 [hh b, .int .i64 0, .int .i64 n].toArray w (fun e w' => ∃ l' v, e = .returned v ∧ l'.Perm l ∧ Heap l' n ∧ (∀ k, n ≤ k → l'.getD k 0 = l.getD k 0) ∧ Sat w' (.cells b 143 [tk, .slice (some ⟨bl, 0, none⟩) N cap] :: .cells bl 3 (ints l' ++ ex) :: H)) := by
  refine enter Try.func103 rfl Try.ntmps103 rfl hs ?_
  (repeat (first | refine S.seq ?_ | refine S.region ?_ | refine L.nil ?_ | refine L.p (by first | exact o_assign rfl | exact o_move rfl | exact o_mul rfl rfl (by unfold I64; omega) | exact o_add rfl rfl (by unfold I64; omega) | exact o_ge rfl rfl | exact o_lt rfl rfl | exact o_pickT rfl rfl | exact o_pickF rfl rfl | exact o_notT rfl | exact o_notF rfl | exact o_notD rfl | exact o_notB rfl | exact o_gt rfl rfl) rfl ?_ | refine L.gYes rfl rfl rfl ?_ | refine L.gNo rfl rfl rfl rfl rfl ?_ | refine L.gUnd rfl rfl rfl rfl ?_ | refine S.block ?_ | refine S.pop ?_ | refine S.skip ?_ | refine S.exit rfl ?_ | refine S.condT rfl ?_ | refine S.condF rfl ?_))
  refine S.loop (G := List Nat × Nat) (fun s => s.1.Perm l ∧ s.2 ≤ n ∧ HeapDown s.1 n s.2 ∧ (∀ k, n ≤ k → s.1.getD k 0 = l.getD k 0)) (fun s => [(0, hh b), (1, .int .i64 0), (2, .int .i64 n), (7, .int .i64 s.2)])
    (fun s => .cells b 143 [tk, .slice (some ⟨bl, 0, none⟩) N cap] :: .cells bl 3 (ints s.1 ++ ex) :: H) (fun s => n - s.2) (l, 0) ⟨List.Perm.refl _, Nat.zero_le _, hp0, fun _ _ => rfl⟩ (by repeat (first | exact trivial | refine ⟨rfl, ?_⟩)) (fun w hs => hs) ?_
  rintro ⟨l1, i⟩ m ⟨h1, h2, h3, h4⟩ hm
  simp only at h1 h2 h3 h4 hm
  dsimp only
  have hlen : l1.length = N := by rw [h1.length_eq, hn]
  (repeat (first | refine S.seq ?_ | refine S.region ?_ | refine L.nil ?_ | refine L.p (by first | exact o_assign rfl | exact o_move rfl | exact o_mul rfl rfl (by unfold I64; omega) | exact o_add rfl rfl (by unfold I64; omega) | exact o_ge rfl rfl | exact o_lt rfl rfl | exact o_pickT rfl rfl | exact o_pickF rfl rfl | exact o_notT rfl | exact o_notF rfl | exact o_notD rfl | exact o_notB rfl | exact o_gt rfl rfl) rfl ?_ | refine L.gYes rfl rfl rfl ?_ | refine L.gNo rfl rfl rfl rfl rfl ?_ | refine L.gUnd rfl rfl rfl rfl ?_ | refine S.block ?_ | refine S.pop ?_ | refine S.skip ?_ | refine S.exit rfl ?_ | refine S.condT rfl ?_ | refine S.condF rfl ?_))
  refine L.split 18 rfl (fun hge => ?_) (fun hge => ?_)
  · (repeat (first | refine S.seq ?_ | refine S.region ?_ | refine L.nil ?_ | refine L.p (by first | exact o_assign rfl | exact o_move rfl | exact o_mul rfl rfl (by unfold I64; omega) | exact o_add rfl rfl (by unfold I64; omega) | exact o_ge rfl rfl | exact o_lt rfl rfl | exact o_pickT rfl rfl | exact o_pickF rfl rfl | exact o_notT rfl | exact o_notF rfl | exact o_notD rfl | exact o_notB rfl | exact o_gt rfl rfl) rfl ?_ | refine L.gYes rfl rfl rfl ?_ | refine L.gNo rfl rfl rfl rfl rfl ?_ | refine L.gUnd rfl rfl rfl rfl ?_ | refine S.block ?_ | refine S.pop ?_ | refine S.skip ?_ | refine S.exit rfl ?_ | refine S.condT rfl ?_ | refine S.condF rfl ?_))
    refine S.fin (Fin.one rfl (RV.tmp rfl)) (fun w hs => ?_)
    exact ⟨l1, _, rfl, h1, down_stop h3 (by omega), h4, hs⟩
  · (repeat (first | refine S.seq ?_ | refine S.region ?_ | refine L.nil ?_ | refine L.p (by first | exact o_assign rfl | exact o_move rfl | exact o_mul rfl rfl (by unfold I64; omega) | exact o_add rfl rfl (by unfold I64; omega) | exact o_ge rfl rfl | exact o_lt rfl rfl | exact o_pickT rfl rfl | exact o_pickF rfl rfl | exact o_notT rfl | exact o_notF rfl | exact o_notD rfl | exact o_notB rfl | exact o_gt rfl rfl) rfl ?_ | refine L.gYes rfl rfl rfl ?_ | refine L.gNo rfl rfl rfl rfl rfl ?_ | refine L.gUnd rfl rfl rfl rfl ?_ | refine S.block ?_ | refine S.pop ?_ | refine S.skip ?_ | refine S.exit rfl ?_ | refine S.condT rfl ?_ | refine S.condF rfl ?_))
    refine L.split 28 rfl (fun hj2 => ?_) (fun hj2 => ?_)
    · (repeat (first | refine S.seq ?_ | refine S.region ?_ | refine L.nil ?_ | refine L.p (by first | exact o_assign rfl | exact o_move rfl | exact o_mul rfl rfl (by unfold I64; omega) | exact o_add rfl rfl (by unfold I64; omega) | exact o_ge rfl rfl | exact o_lt rfl rfl | exact o_pickT rfl rfl | exact o_pickF rfl rfl | exact o_notT rfl | exact o_notF rfl | exact o_notD rfl | exact o_notB rfl | exact o_gt rfl rfl) rfl ?_ | refine L.gYes rfl rfl rfl ?_ | refine L.gNo rfl rfl rfl rfl rfl ?_ | refine L.gUnd rfl rfl rfl rfl ?_ | refine S.block ?_ | refine S.pop ?_ | refine S.skip ?_ | refine S.exit rfl ?_ | refine S.condT rfl ?_ | refine S.condF rfl ?_))
      refine L.callS rfl (hcs_val Try.func122 (by decide) rfl rfl rfl rfl) rfl (fun w hs => less_calls (b := bl) (l := l1) (i := 2 * i + 1 + 1) (j := 2 * i + 1) (T := 3) (ex := ex) (by omega) (by omega) hlen hs (by simp)) ?_
      rintro e w' ⟨rfl, hs'⟩
      refine ⟨_, _, rfl, (by assumption), ?_⟩
      (repeat (first | refine S.seq ?_ | refine S.region ?_ | refine L.nil ?_ | refine L.p (by first | exact o_assign rfl | exact o_move rfl | exact o_mul rfl rfl (by unfold I64; omega) | exact o_add rfl rfl (by unfold I64; omega) | exact o_ge rfl rfl | exact o_lt rfl rfl | exact o_pickT rfl rfl | exact o_pickF rfl rfl | exact o_notT rfl | exact o_notF rfl | exact o_notD rfl | exact o_notB rfl | exact o_gt rfl rfl) rfl ?_ | refine L.gYes rfl rfl rfl ?_ | refine L.gNo rfl rfl rfl rfl rfl ?_ | refine L.gUnd rfl rfl rfl rfl ?_ | refine S.block ?_ | refine S.pop ?_ | refine S.skip ?_ | refine S.exit rfl ?_ | refine S.condT rfl ?_ | refine S.condF rfl ?_))
      refine S.condD rfl (fun hle => ?_) (fun hle => ?_)
      · have hmin : ∀ c, 0 < c → c < n → (c - 1) / 2 = i → l1.getD (2 * i + 1 + 1) 0 ≤ l1.getD c 0 := by
          intro c h0 hn hc
          have : c = 2 * i + 1 ∨ c = 2 * i + 1 + 1 := by omega
          rcases this with rfl | rfl
          · omega
          · exact Nat.le_refl _
        (repeat (first | refine S.seq ?_ | refine S.region ?_ | refine L.nil ?_ | refine L.p (by first | exact o_assign rfl | exact o_move rfl | exact o_mul rfl rfl (by unfold I64; omega) | exact o_add rfl rfl (by unfold I64; omega) | exact o_ge rfl rfl | exact o_lt rfl rfl | exact o_pickT rfl rfl | exact o_pickF rfl rfl | exact o_notT rfl | exact o_notF rfl | exact o_notD rfl | exact o_notB rfl | exact o_gt rfl rfl) rfl ?_ | refine L.gYes rfl rfl rfl ?_ | refine L.gNo rfl rfl rfl rfl rfl ?_ | refine L.gUnd rfl rfl rfl rfl ?_ | refine S.block ?_ | refine S.pop ?_ | refine S.skip ?_ | refine S.exit rfl ?_ | refine S.condT rfl ?_ | refine S.condF rfl ?_))
        refine L.callS rfl (hcs_val Try.func122 (by decide) rfl rfl rfl rfl) rfl (fun w hs => less_calls (b := bl) (l := l1) (i := 2 * i + 1 + 1) (j := i) (T := 3) (ex := ex) (by omega) (by omega) hlen hs (by simp)) ?_
        rintro e w' ⟨rfl, hs'⟩
        refine ⟨_, _, rfl, (by assumption), ?_⟩
        (repeat (first | refine S.seq ?_ | refine S.region ?_ | refine L.nil ?_ | refine L.p (by first | exact o_assign rfl | exact o_move rfl | exact o_mul rfl rfl (by unfold I64; omega) | exact o_add rfl rfl (by unfold I64; omega) | exact o_ge rfl rfl | exact o_lt rfl rfl | exact o_pickT rfl rfl | exact o_pickF rfl rfl | exact o_notT rfl | exact o_notF rfl | exact o_notD rfl | exact o_notB rfl | exact o_gt rfl rfl) rfl ?_ | refine L.gYes rfl rfl rfl ?_ | refine L.gNo rfl rfl rfl rfl rfl ?_ | refine L.gUnd rfl rfl rfl rfl ?_ | refine S.block ?_ | refine S.pop ?_ | refine S.skip ?_ | refine S.exit rfl ?_ | refine S.condT rfl ?_ | refine S.condF rfl ?_))
        refine S.condD rfl (fun hc => ?_) (fun hc => ?_)
        · (repeat (first | refine S.seq ?_ | refine S.region ?_ | refine L.nil ?_ | refine L.p (by first | exact o_assign rfl | exact o_move rfl | exact o_mul rfl rfl (by unfold I64; omega) | exact o_add rfl rfl (by unfold I64; omega) | exact o_ge rfl rfl | exact o_lt rfl rfl | exact o_pickT rfl rfl | exact o_pickF rfl rfl | exact o_notT rfl | exact o_notF rfl | exact o_notD rfl | exact o_notB rfl | exact o_gt rfl rfl) rfl ?_ | refine L.gYes rfl rfl rfl ?_ | refine L.gNo rfl rfl rfl rfl rfl ?_ | refine L.gUnd rfl rfl rfl rfl ?_ | refine S.block ?_ | refine S.pop ?_ | refine S.skip ?_ | refine S.exit rfl ?_ | refine S.condT rfl ?_ | refine S.condF rfl ?_))
          refine S.fin (Fin.one rfl (RV.tmp rfl)) (fun w hs => ?_)
          exact ⟨l1, _, rfl, h1, down_stop h3 (fun c hc0 hcn hci => by have := hmin c hc0 hcn hci; omega), h4, hs⟩
        · have hc' : l1.getD (2 * i + 1 + 1) 0 < l1.getD i 0 := by simpa using hc
          (repeat (first | refine S.seq ?_ | refine S.region ?_ | refine L.nil ?_ | refine L.p (by first | exact o_assign rfl | exact o_move rfl | exact o_mul rfl rfl (by unfold I64; omega) | exact o_add rfl rfl (by unfold I64; omega) | exact o_ge rfl rfl | exact o_lt rfl rfl | exact o_pickT rfl rfl | exact o_pickF rfl rfl | exact o_notT rfl | exact o_notF rfl | exact o_notD rfl | exact o_notB rfl | exact o_gt rfl rfl) rfl ?_ | refine L.gYes rfl rfl rfl ?_ | refine L.gNo rfl rfl rfl rfl rfl ?_ | refine L.gUnd rfl rfl rfl rfl ?_ | refine S.block ?_ | refine S.pop ?_ | refine S.skip ?_ | refine S.exit rfl ?_ | refine S.condT rfl ?_ | refine S.condF rfl ?_))
          refine L.callS rfl (hcs_val Try.func123 (by decide) rfl rfl rfl rfl) rfl (fun w hs => swap_calls (H := .cells b 143 [tk, .slice (some ⟨bl, 0, none⟩) N cap] :: H) (l := l1) (i := i) (j := 2 * i + 1 + 1) (T := 3) (ex := ex) (by omega) (by omega) hlen (hs.re (by intro a; simp only [List.count_append, List.count_cons, List.count_nil] <;> omega))) ?_
          rintro e w' ⟨rfl, hs'⟩
          refine ⟨_, _, rfl, hs'.re (H' := .cells b 143 [tk, .slice (some ⟨bl, 0, none⟩) N cap] :: .cells bl 3 (ints (swapL l1 i (2 * i + 1 + 1)) ++ ex) :: H) (by intro a; simp only [List.count_append, List.count_cons, List.count_nil] <;> omega), ?_⟩
          (repeat (first | refine S.seq ?_ | refine S.region ?_ | refine L.nil ?_ | refine L.p (by first | exact o_assign rfl | exact o_move rfl | exact o_mul rfl rfl (by unfold I64; omega) | exact o_add rfl rfl (by unfold I64; omega) | exact o_ge rfl rfl | exact o_lt rfl rfl | exact o_pickT rfl rfl | exact o_pickF rfl rfl | exact o_notT rfl | exact o_notF rfl | exact o_notD rfl | exact o_notB rfl | exact o_gt rfl rfl) rfl ?_ | refine L.gYes rfl rfl rfl ?_ | refine L.gNo rfl rfl rfl rfl rfl ?_ | refine L.gUnd rfl rfl rfl rfl ?_ | refine S.block ?_ | refine S.pop ?_ | refine S.skip ?_ | refine S.exit rfl ?_ | refine S.condT rfl ?_ | refine S.condF rfl ?_))
          refine S.round (fun ac_ w hac_ hs => ⟨(swapL l1 i (2 * i + 1 + 1), 2 * i + 1 + 1), ⟨?_, (by (try dsimp only); omega)⟩, hac_.weaken (look_sub (by repeat (first | exact trivial | refine ⟨rfl, ?_⟩))), (by (try dsimp only); exact hs)⟩)
          exact ⟨(swapL_perm (by omega) (by omega)).trans h1, by omega, down_go (by omega) h3 (by omega) (by omega) (by omega) hmin hc', fun q hq => by rw [swapL_get (by omega) (by omega), if_neg (by omega), if_neg (by omega)]; exact h4 q hq⟩
      · have hmin : ∀ c, 0 < c → c < n → (c - 1) / 2 = i → l1.getD (2 * i + 1) 0 ≤ l1.getD c 0 := by
          intro c h0 hn hc
          have : c = 2 * i + 1 ∨ c = 2 * i + 1 + 1 := by omega
          rcases this with rfl | rfl
          · exact Nat.le_refl _
          · omega
        (repeat (first | refine S.seq ?_ | refine S.region ?_ | refine L.nil ?_ | refine L.p (by first | exact o_assign rfl | exact o_move rfl | exact o_mul rfl rfl (by unfold I64; omega) | exact o_add rfl rfl (by unfold I64; omega) | exact o_ge rfl rfl | exact o_lt rfl rfl | exact o_pickT rfl rfl | exact o_pickF rfl rfl | exact o_notT rfl | exact o_notF rfl | exact o_notD rfl | exact o_notB rfl | exact o_gt rfl rfl) rfl ?_ | refine L.gYes rfl rfl rfl ?_ | refine L.gNo rfl rfl rfl rfl rfl ?_ | refine L.gUnd rfl rfl rfl rfl ?_ | refine S.block ?_ | refine S.pop ?_ | refine S.skip ?_ | refine S.exit rfl ?_ | refine S.condT rfl ?_ | refine S.condF rfl ?_))
        refine L.callS rfl (hcs_val Try.func122 (by decide) rfl rfl rfl rfl) rfl (fun w hs => less_calls (b := bl) (l := l1) (i := 2 * i + 1) (j := i) (T := 3) (ex := ex) (by omega) (by omega) hlen hs (by simp)) ?_
        rintro e w' ⟨rfl, hs'⟩
        refine ⟨_, _, rfl, (by assumption), ?_⟩
        (repeat (first | refine S.seq ?_ | refine S.region ?_ | refine L.nil ?_ | refine L.p (by first | exact o_assign rfl | exact o_move rfl | exact o_mul rfl rfl (by unfold I64; omega) | exact o_add rfl rfl (by unfold I64; omega) | exact o_ge rfl rfl | exact o_lt rfl rfl | exact o_pickT rfl rfl | exact o_pickF rfl rfl | exact o_notT rfl | exact o_notF rfl | exact o_notD rfl | exact o_notB rfl | exact o_gt rfl rfl) rfl ?_ | refine L.gYes rfl rfl rfl ?_ | refine L.gNo rfl rfl rfl rfl rfl ?_ | refine L.gUnd rfl rfl rfl rfl ?_ | refine S.block ?_ | refine S.pop ?_ | refine S.skip ?_ | refine S.exit rfl ?_ | refine S.condT rfl ?_ | refine S.condF rfl ?_))
        refine S.condD rfl (fun hc => ?_) (fun hc => ?_)
        · (repeat (first | refine S.seq ?_ | refine S.region ?_ | refine L.nil ?_ | refine L.p (by first | exact o_assign rfl | exact o_move rfl | exact o_mul rfl rfl (by unfold I64; omega) | exact o_add rfl rfl (by unfold I64; omega) | exact o_ge rfl rfl | exact o_lt rfl rfl | exact o_pickT rfl rfl | exact o_pickF rfl rfl | exact o_notT rfl | exact o_notF rfl | exact o_notD rfl | exact o_notB rfl | exact o_gt rfl rfl) rfl ?_ | refine L.gYes rfl rfl rfl ?_ | refine L.gNo rfl rfl rfl rfl rfl ?_ | refine L.gUnd rfl rfl rfl rfl ?_ | refine S.block ?_ | refine S.pop ?_ | refine S.skip ?_ | refine S.exit rfl ?_ | refine S.condT rfl ?_ | refine S.condF rfl ?_))
          refine S.fin (Fin.one rfl (RV.tmp rfl)) (fun w hs => ?_)
          exact ⟨l1, _, rfl, h1, down_stop h3 (fun c hc0 hcn hci => by have := hmin c hc0 hcn hci; omega), h4, hs⟩
        · have hc' : l1.getD (2 * i + 1) 0 < l1.getD i 0 := by simpa using hc
          (repeat (first | refine S.seq ?_ | refine S.region ?_ | refine L.nil ?_ | refine L.p (by first | exact o_assign rfl | exact o_move rfl | exact o_mul rfl rfl (by unfold I64; omega) | exact o_add rfl rfl (by unfold I64; omega) | exact o_ge rfl rfl | exact o_lt rfl rfl | exact o_pickT rfl rfl | exact o_pickF rfl rfl | exact o_notT rfl | exact o_notF rfl | exact o_notD rfl | exact o_notB rfl | exact o_gt rfl rfl) rfl ?_ | refine L.gYes rfl rfl rfl ?_ | refine L.gNo rfl rfl rfl rfl rfl ?_ | refine L.gUnd rfl rfl rfl rfl ?_ | refine S.block ?_ | refine S.pop ?_ | refine S.skip ?_ | refine S.exit rfl ?_ | refine S.condT rfl ?_ | refine S.condF rfl ?_))
          refine L.callS rfl (hcs_val Try.func123 (by decide) rfl rfl rfl rfl) rfl (fun w hs => swap_calls (H := .cells b 143 [tk, .slice (some ⟨bl, 0, none⟩) N cap] :: H) (l := l1) (i := i) (j := 2 * i + 1) (T := 3) (ex := ex) (by omega) (by omega) hlen (hs.re (by intro a; simp only [List.count_append, List.count_cons, List.count_nil] <;> omega))) ?_
          rintro e w' ⟨rfl, hs'⟩
          refine ⟨_, _, rfl, hs'.re (H' := .cells b 143 [tk, .slice (some ⟨bl, 0, none⟩) N cap] :: .cells bl 3 (ints (swapL l1 i (2 * i + 1)) ++ ex) :: H) (by intro a; simp only [List.count_append, List.count_cons, List.count_nil] <;> omega), ?_⟩
          (repeat (first | refine S.seq ?_ | refine S.region ?_ | refine L.nil ?_ | refine L.p (by first | exact o_assign rfl | exact o_move rfl | exact o_mul rfl rfl (by unfold I64; omega) | exact o_add rfl rfl (by unfold I64; omega) | exact o_ge rfl rfl | exact o_lt rfl rfl | exact o_pickT rfl rfl | exact o_pickF rfl rfl | exact o_notT rfl | exact o_notF rfl | exact o_notD rfl | exact o_notB rfl | exact o_gt rfl rfl) rfl ?_ | refine L.gYes rfl rfl rfl ?_ | refine L.gNo rfl rfl rfl rfl rfl ?_ | refine L.gUnd rfl rfl rfl rfl ?_ | refine S.block ?_ | refine S.pop ?_ | refine S.skip ?_ | refine S.exit rfl ?_ | refine S.condT rfl ?_ | refine S.condF rfl ?_))
          refine S.round (fun ac_ w hac_ hs => ⟨(swapL l1 i (2 * i + 1), 2 * i + 1), ⟨?_, (by (try dsimp only); omega)⟩, hac_.weaken (look_sub (by repeat (first | exact trivial | refine ⟨rfl, ?_⟩))), (by (try dsimp only); exact hs)⟩)
          exact ⟨(swapL_perm (by omega) (by omega)).trans h1, by omega, down_go (by omega) h3 (by omega) (by omega) (by omega) hmin hc', fun q hq => by rw [swapL_get (by omega) (by omega), if_neg (by omega), if_neg (by omega)]; exact h4 q hq⟩
    · have hmin : ∀ c, 0 < c → c < n → (c - 1) / 2 = i → l1.getD (2 * i + 1) 0 ≤ l1.getD c 0 := by
        intro c h0 hn hc
        have : c = 2 * i + 1 ∨ c = 2 * i + 1 + 1 := by omega
        rcases this with rfl | rfl
        · exact Nat.le_refl _
        · omega
      (repeat (first | refine S.seq ?_ | refine S.region ?_ | refine L.nil ?_ | refine L.p (by first | exact o_assign rfl | exact o_move rfl | exact o_mul rfl rfl (by unfold I64; omega) | exact o_add rfl rfl (by unfold I64; omega) | exact o_ge rfl rfl | exact o_lt rfl rfl | exact o_pickT rfl rfl | exact o_pickF rfl rfl | exact o_notT rfl | exact o_notF rfl | exact o_notD rfl | exact o_notB rfl | exact o_gt rfl rfl) rfl ?_ | refine L.gYes rfl rfl rfl ?_ | refine L.gNo rfl rfl rfl rfl rfl ?_ | refine L.gUnd rfl rfl rfl rfl ?_ | refine S.block ?_ | refine S.pop ?_ | refine S.skip ?_ | refine S.exit rfl ?_ | refine S.condT rfl ?_ | refine S.condF rfl ?_))
      refine L.callS rfl (hcs_val Try.func122 (by decide) rfl rfl rfl rfl) rfl (fun w hs => less_calls (b := bl) (l := l1) (i := 2 * i + 1) (j := i) (T := 3) (ex := ex) (by omega) (by omega) hlen hs (by simp)) ?_
      rintro e w' ⟨rfl, hs'⟩
      refine ⟨_, _, rfl, (by assumption), ?_⟩
      (repeat (first | refine S.seq ?_ | refine S.region ?_ | refine L.nil ?_ | refine L.p (by first | exact o_assign rfl | exact o_move rfl | exact o_mul rfl rfl (by unfold I64; omega) | exact o_add rfl rfl (by unfold I64; omega) | exact o_ge rfl rfl | exact o_lt rfl rfl | exact o_pickT rfl rfl | exact o_pickF rfl rfl | exact o_notT rfl | exact o_notF rfl | exact o_notD rfl | exact o_notB rfl | exact o_gt rfl rfl) rfl ?_ | refine L.gYes rfl rfl rfl ?_ | refine L.gNo rfl rfl rfl rfl rfl ?_ | refine L.gUnd rfl rfl rfl rfl ?_ | refine S.block ?_ | refine S.pop ?_ | refine S.skip ?_ | refine S.exit rfl ?_ | refine S.condT rfl ?_ | refine S.condF rfl ?_))
      refine S.condD rfl (fun hc => ?_) (fun hc => ?_)
      · (repeat (first | refine S.seq ?_ | refine S.region ?_ | refine L.nil ?_ | refine L.p (by first | exact o_assign rfl | exact o_move rfl | exact o_mul rfl rfl (by unfold I64; omega) | exact o_add rfl rfl (by unfold I64; omega) | exact o_ge rfl rfl | exact o_lt rfl rfl | exact o_pickT rfl rfl | exact o_pickF rfl rfl | exact o_notT rfl | exact o_notF rfl | exact o_notD rfl | exact o_notB rfl | exact o_gt rfl rfl) rfl ?_ | refine L.gYes rfl rfl rfl ?_ | refine L.gNo rfl rfl rfl rfl rfl ?_ | refine L.gUnd rfl rfl rfl rfl ?_ | refine S.block ?_ | refine S.pop ?_ | refine S.skip ?_ | refine S.exit rfl ?_ | refine S.condT rfl ?_ | refine S.condF rfl ?_))
        refine S.fin (Fin.one rfl (RV.tmp rfl)) (fun w hs => ?_)
        exact ⟨l1, _, rfl, h1, down_stop h3 (fun c hc0 hcn hci => by have := hmin c hc0 hcn hci; omega), h4, hs⟩
      · have hc' : l1.getD (2 * i + 1) 0 < l1.getD i 0 := by simpa using hc
        (repeat (first | refine S.seq ?_ | refine S.region ?_ | refine L.nil ?_ | refine L.p (by first | exact o_assign rfl | exact o_move rfl | exact o_mul rfl rfl (by unfold I64; omega) | exact o_add rfl rfl (by unfold I64; omega) | exact o_ge rfl rfl | exact o_lt rfl rfl | exact o_pickT rfl rfl | exact o_pickF rfl rfl | exact o_notT rfl | exact o_notF rfl | exact o_notD rfl | exact o_notB rfl | exact o_gt rfl rfl) rfl ?_ | refine L.gYes rfl rfl rfl ?_ | refine L.gNo rfl rfl rfl rfl rfl ?_ | refine L.gUnd rfl rfl rfl rfl ?_ | refine S.block ?_ | refine S.pop ?_ | refine S.skip ?_ | refine S.exit rfl ?_ | refine S.condT rfl ?_ | refine S.condF rfl ?_))
        refine L.callS rfl (hcs_val Try.func123 (by decide) rfl rfl rfl rfl) rfl (fun w hs => swap_calls (H := .cells b 143 [tk, .slice (some ⟨bl, 0, none⟩) N cap] :: H) (l := l1) (i := i) (j := 2 * i + 1) (T := 3) (ex := ex) (by omega) (by omega) hlen (hs.re (by intro a; simp only [List.count_append, List.count_cons, List.count_nil] <;> omega))) ?_
        rintro e w' ⟨rfl, hs'⟩
        refine ⟨_, _, rfl, hs'.re (H' := .cells b 143 [tk, .slice (some ⟨bl, 0, none⟩) N cap] :: .cells bl 3 (ints (swapL l1 i (2 * i + 1)) ++ ex) :: H) (by intro a; simp only [List.count_append, List.count_cons, List.count_nil] <;> omega), ?_⟩
        (repeat (first | refine S.seq ?_ | refine S.region ?_ | refine L.nil ?_ | refine L.p (by first | exact o_assign rfl | exact o_move rfl | exact o_mul rfl rfl (by unfold I64; omega) | exact o_add rfl rfl (by unfold I64; omega) | exact o_ge rfl rfl | exact o_lt rfl rfl | exact o_pickT rfl rfl | exact o_pickF rfl rfl | exact o_notT rfl | exact o_notF rfl | exact o_notD rfl | exact o_notB rfl | exact o_gt rfl rfl) rfl ?_ | refine L.gYes rfl rfl rfl ?_ | refine L.gNo rfl rfl rfl rfl rfl ?_ | refine L.gUnd rfl rfl rfl rfl ?_ | refine S.block ?_ | refine S.pop ?_ | refine S.skip ?_ | refine S.exit rfl ?_ | refine S.condT rfl ?_ | refine S.condF rfl ?_))
        refine S.round (fun ac_ w hac_ hs => ⟨(swapL l1 i (2 * i + 1), 2 * i + 1), ⟨?_, (by (try dsimp only); omega)⟩, hac_.weaken (look_sub (by repeat (first | exact trivial | refine ⟨rfl, ?_⟩))), (by (try dsimp only); exact hs)⟩)
        exact ⟨(swapL_perm (by omega) (by omega)).trans h1, by omega, down_go (by omega) h3 (by omega) (by omega) (by omega) hmin hc', fun q hq => by rw [swapL_get (by omega) (by omega), if_neg (by omega), if_neg (by omega)]; exact h4 q hq⟩

/-- the list's own memory, its last one given up -/
theorem Own.pop {e : Nat} {xs : List Value} {x : Value} {a : Option Addr} {len cap : Nat} {A : List Atom} (h : Own e 1 (.slice a (len + 1) cap) (xs ++ [x]) A) (hl : xs.length = len) : Own e 1 (.slice a len cap) xs A := by
  obtain ⟨b, extra, rfl, rfl, h1, h2⟩ := h.some' rfl (by omega)
  have : xs ++ [x] ++ extra = xs ++ (x :: extra) := by simp
  rw [this]
  exact .mk (by omega) (by simp at h1 ⊢; omega) (by omega)

theorem lpop_calls {w : World} {H : List Atom} {b bl n cap x : Nat} {tk : Value} {l : List Nat} {ex : List Value} (hl : l.length = n + 1) (hx : l.getD n 0 = x)
    (hcap : n + 1 ≤ cap) (hb : n < 1000000) (hs : Sat w (.cells b 143 [tk, .slice (some ⟨bl, 0, none⟩) (n + 1) cap] :: .cells bl 3 (ints l ++ ex) :: H)) :
    Calls Try.prog 124 [.pointer (some ⟨b, 1, none⟩)].toArray w (fun e w' => e = .returned (.iface 3 (.int .i64 x)) ∧ Sat w' (.cells b 143 [tk, .slice (some ⟨bl, 0, none⟩) n cap] :: .cells bl 3 (ints l ++ ex) :: H)) := by
  have g := ints_get' (l := l) (k := n) (ex := ex) (by omega)
  rw [hx] at g
  refine enter Try.func124 rfl Try.ntmps124 rfl hs ?_
  (repeat (first | refine L.p (o_subE rfl rfl (r := (n : Int)) (by rw [wrap_i64 (by unfold I64; omega)]; omega)) rfl ?_ | refine S.seq ?_ | refine S.region ?_ | refine L.nil ?_ | refine L.p (by first | exact o_assign rfl | exact o_move rfl | exact o_nil rfl | exact o_nilFn rfl | exact o_load rfl rfl | exact o_load rfl (by assumption) | exact o_lenS rfl | exact o_lenStr rfl | exact o_sub rfl rfl (by unfold I64; omega) | exact o_idx rfl rfl (by omega) | exact o_idxA rfl rfl (by omega) | exact o_slAll rfl | exact o_arAll rfl | exact o_slHi rfl rfl (by omega) | exact o_slLo rfl rfl (by omega) | exact o_slBoth rfl rfl rfl (by omega) | exact o_arLo rfl rfl (by omega) | exact o_ifaceP rfl | exact o_ifaceI rfl) rfl ?_ | refine L.store rfl rfl (blt_iff.1 rfl) rfl ?_ | refine S.block ?_ | refine S.pop ?_ | refine S.skip ?_ | refine S.exit rfl ?_ | refine S.condT rfl ?_ | refine S.condF rfl ?_))
  refine S.fin (Fin.one rfl (RV.tmp rfl)) (fun w hs => ?_)
  exact ⟨rfl, hs⟩

theorem perm_split {l : List Nat} {n : Nat} (h : l.length = n + 1) : l = l.take n ++ [l.getD n 0] := by
  have h1 : l.take (n + 1) = l := List.take_of_length_le (by omega)
  rw [List.take_succ_eq_append_getElem (by omega)] at h1
  rw [show l.getD n 0 = l[n] by simp [h]]
  exact h1.symm
theorem heap_take {l : List Nat} {n : Nat} (h : Heap l n) (hn : n ≤ l.length) : Heap (l.take n) n := by
  intro k h0 hk
  have := h k h0 hk
  simp only [List.getD_eq_getElem?_getD, List.getElem?_take] at this ⊢
  rw [if_pos (by omega), if_pos hk]
  exact this

theorem pop_calls {w : World} {A H : List Atom} {b : Nat} {tk : Value} {l : List Nat} (hl0 : 0 < l.length) (hb : l.length < 1000000) (hh0 : Heap l l.length) (hL : LeastAt b tk l A) (hs : Sat w (A ++ H)) :
    Calls Try.prog 93 [hh b].toArray w (fun e w' => ∃ x l' A', e = .returned (.iface 3 (.int .i64 (x : Nat))) ∧ (x :: l').Perm l ∧ (∀ y ∈ l, x ≤ y) ∧ Heap l' l'.length ∧ LeastAt b tk l' A' ∧ Sat w' (A' ++ H)) := by
  cases hL with
  | @mk a cap Ao hown =>
  obtain ⟨bl, ex, rfl, rfl, h1, h2⟩ := hown.some' rfl hl0
  obtain ⟨n, hn⟩ : ∃ n, l.length = n + 1 := ⟨l.length - 1, by omega⟩
  rw [hn] at hs h2 hb hh0 hown
  simp only [List.cons_append, List.nil_append] at hs
  refine enter Try.func93 rfl Try.ntmps93 rfl hs ?_
  (repeat (first | refine S.seq ?_ | refine S.region ?_ | refine L.nil ?_ | refine L.p (by first | exact o_assign rfl | exact o_move rfl | exact o_sub rfl rfl (by unfold I64; omega)) rfl ?_ | refine S.block ?_ | refine S.pop ?_ | refine S.skip ?_ | refine S.exit rfl ?_ | refine S.condT rfl ?_ | refine S.condF rfl ?_))
  refine L.callS rfl (hcs_val Try.func121 (by decide) rfl rfl rfl rfl) rfl (fun w hs => len_calls hs) ?_
  rintro e w' ⟨rfl, hs'⟩
  refine ⟨_, _, rfl, (by assumption), ?_⟩
  (repeat (first | refine L.p (o_subE rfl rfl (r := (n : Int)) (by rw [wrap_i64 (by unfold I64; omega)]; omega)) rfl ?_ | refine S.seq ?_ | refine S.region ?_ | refine L.nil ?_ | refine L.p (by first | exact o_assign rfl | exact o_move rfl | exact o_sub rfl rfl (by unfold I64; omega)) rfl ?_ | refine S.block ?_ | refine S.pop ?_ | refine S.skip ?_ | refine S.exit rfl ?_ | refine S.condT rfl ?_ | refine S.condF rfl ?_))
  refine L.callS rfl (hcs_val Try.func123 (by decide) rfl rfl rfl rfl) rfl (fun w hs => swap_calls (H := .cells b 143 [tk, .slice (some ⟨bl, 0, none⟩) (n + 1) cap] :: H) (l := l) (i := 0) (j := n) (T := 3) (ex := ex) (by omega) (by omega) hn (hs.re (by intro a; simp only [List.count_append, List.count_cons, List.count_nil] <;> omega))) ?_
  rintro e w' ⟨rfl, hs'⟩
  refine ⟨_, _, rfl, hs'.re (H' := .cells b 143 [tk, .slice (some ⟨bl, 0, none⟩) (n + 1) cap] :: .cells bl 3 (ints (swapL l 0 n) ++ ex) :: H) (by intro a; simp only [List.count_append, List.count_cons, List.count_nil] <;> omega), ?_⟩
  (repeat (first | refine S.seq ?_ | refine S.region ?_ | refine L.nil ?_ | refine L.p (by first | exact o_assign rfl | exact o_move rfl | exact o_sub rfl rfl (by unfold I64; omega)) rfl ?_ | refine S.block ?_ | refine S.pop ?_ | refine S.skip ?_ | refine S.exit rfl ?_ | refine S.condT rfl ?_ | refine S.condF rfl ?_))
  refine L.callR rfl (hc_func Try.func103 (by decide) rfl rfl) rfl (fun w hs => down_calls (l := swapL l 0 n) (N := n + 1) (by rw [swapL_length, hn]) (by omega) (by omega) (down_begin hn.symm hh0) hs) ?_
  rintro e w' ⟨l2, v, rfl, g1, g2, g3, hs'⟩
  refine ⟨_, _, rfl, (by assumption), ?_⟩
  have hl2 : l2.length = n + 1 := by rw [g1.length_eq, swapL_length, hn]
  have hp2 : l2.Perm l := g1.trans (swapL_perm (by omega) (by omega))
  have hx : l2.getD n 0 = l.getD 0 0 := by rw [g3 n (Nat.le_refl _), swapL_get (by omega) (by omega), if_pos rfl]
  (repeat (first | refine S.seq ?_ | refine S.region ?_ | refine L.nil ?_ | refine L.p (by first | exact o_assign rfl | exact o_move rfl | exact o_sub rfl rfl (by unfold I64; omega)) rfl ?_ | refine S.block ?_ | refine S.pop ?_ | refine S.skip ?_ | refine S.exit rfl ?_ | refine S.condT rfl ?_ | refine S.condF rfl ?_))
  refine L.callS rfl (hcs_ptr Try.func124 (by decide) rfl rfl rfl) rfl (fun w hs => lpop_calls hl2 hx h2 (by omega) hs) ?_
  rintro e w' ⟨rfl, hs'⟩
  refine ⟨_, _, rfl, (by assumption), ?_⟩
  (repeat (first | refine S.seq ?_ | refine S.region ?_ | refine L.nil ?_ | refine L.p (by first | exact o_assign rfl | exact o_move rfl | exact o_sub rfl rfl (by unfold I64; omega)) rfl ?_ | refine S.block ?_ | refine S.pop ?_ | refine S.skip ?_ | refine S.exit rfl ?_ | refine S.condT rfl ?_ | refine S.condF rfl ?_))
  refine S.fin (Fin.one rfl (RV.tmp rfl)) (fun w hs => ?_)
  have hsp := perm_split hl2
  rw [hx] at hsp
  have htl : (l2.take n).length = n := by simp; omega
  refine ⟨l.getD 0 0, l2.take n, .cells b 143 [tk, .slice (some ⟨bl, 0, none⟩) n cap] :: .cells bl 3 (ints l2 ++ ex) :: [], rfl, ?_, ?_, ?_, ?_, hs⟩
  · have : (l2.take n ++ [l.getD 0 0]).Perm l := hsp ▸ hp2
    exact (List.perm_append_comm (l₁ := [l.getD 0 0])).trans this
  · intro y hy
    obtain ⟨k, hk, rfl⟩ := List.mem_iff_getElem.1 hy
    have := heap_min hh0 k (by omega)
    rw [show l[k] = l.getD k 0 by simp [hk]]
    exact this
  · rw [htl]; exact heap_take g2 (by omega)
  · have hi2 : ints l2 = ints (l2.take n) ++ [.int .i64 (l.getD 0 0 : Nat)] := by
      rw [hsp]; simp [ints, htl]
    have := LeastAt.mk (b := b) (tk := tk) (l := l2.take n) (a := some ⟨bl, 0, none⟩) (cap := cap) (A := [.cells bl 3 (ints l2 ++ ex)]) (by
      rw [htl, hi2]
      rw [List.append_assoc]
      exact .mk (by simp [htl]) (by simp [htl] at h1 ⊢; omega) (by omega))
    rw [htl] at this
    exact this

theorem Own.src3 {P : Program} {H : List Atom} {b : Nat} {v : Value} (h : Atom.cells b 3 [v] ∈ H) : Src P H 1 1 (.slice (some ⟨b, 0, none⟩) 1 1) [v] := Src.slice (o := 0) (T := 3) (cs := [v]) h (by simp)

theorem lpush_calls {w : World} {A H : List Atom} {b x : Nat} {tk : Value} {l : List Nat} (hb : l.length < 1000000) (hL : LeastAt b tk l A) (hs : Sat w (A ++ H)) :
    Calls Try.prog 125 [.pointer (some ⟨b, 1, none⟩), .iface 3 (.int .i64 x)].toArray w (fun e w' => ∃ A', e = .returned (.tuple #[]) ∧ LeastAt b tk (l ++ [x]) A' ∧ Sat w' (A' ++ H)) := by
  cases hL with
  | @mk a cap Ao hown =>
  have fin : ∀ a' c' A' w, Own 3 1 (.slice a' (l.length + 1) c') (ints l ++ [.int .i64 x]) A' → Sat w (.cells b 143 [tk, .slice a' (l.length + 1) c'] :: (A' ++ H)) →
      ∃ A', Ending.returned (.tuple #[]) = .returned (.tuple #[]) ∧ LeastAt b tk (l ++ [x]) A' ∧ Sat w (A' ++ H) := by
    intro a' c' A' w ho hs
    have hi : ints (l ++ [x]) = ints l ++ [.int .i64 x] := by simp [ints]
    have hlen : (l ++ [x]).length = l.length + 1 := by simp
    have := LeastAt.mk (b := b) (tk := tk) (l := l ++ [x]) (a := a') (cap := c') (A := A') (by rw [hi, hlen]; exact ho)
    rw [hlen] at this
    exact ⟨_, rfl, this, hs⟩
  simp only [List.cons_append] at hs
  refine enter Try.func125 rfl Try.ntmps125 rfl hs ?_
  refine S.any (id := 0) (by kernel_rfl) ?_
  (repeat (first | refine S.seq ?_ | refine S.region ?_ | refine L.nil ?_ | refine L.p (by first | exact o_move rfl | exact o_nil rfl | exact o_nilFn rfl | exact o_load rfl rfl | exact o_load rfl (by assumption) | exact o_assertI rfl) rfl ?_ | refine L.store rfl rfl (blt_iff.1 rfl) rfl ?_ | refine S.block ?_ | refine S.pop ?_ | refine S.skip ?_ | refine S.exit rfl ?_ | refine S.condT rfl ?_ | refine S.condF rfl ?_ | refine B.go ?_ | refine B.done (by decide +kernel) ?_ | refine B.take 0 rfl (by kernel_rfl) (by decide +kernel) (by decide +kernel) rfl (o_move rfl) rfl ?_ | refine B.take 1 rfl (by kernel_rfl) (by decide +kernel) (by decide +kernel) rfl (o_move rfl) rfl ?_ | refine B.take 2 rfl (by kernel_rfl) (by decide +kernel) (by decide +kernel) rfl (o_nil rfl) rfl ?_ | refine B.take 2 rfl (by kernel_rfl) (by decide +kernel) (by decide +kernel) rfl (o_nilFn rfl) rfl ?_ | refine B.take 4 rfl (by kernel_rfl) (by decide +kernel) (by decide +kernel) rfl (o_move rfl) rfl ?_ | refine B.take 5 rfl (by kernel_rfl) (by decide +kernel) (by decide +kernel) rfl (o_assertI rfl) rfl ?_ | refine B.take 8 rfl (by kernel_rfl) (by decide +kernel) (by decide +kernel) rfl (o_nil rfl) rfl ?_ | refine B.take 8 rfl (by kernel_rfl) (by decide +kernel) (by decide +kernel) rfl (o_nilFn rfl) rfl ?_))
  focus (refine B.branch [3,6] (by kernel_rfl) (by simp) ?_; refine Br.cons rfl rfl ?_ ?_; rotate_left; refine Br.cons rfl rfl ?_ Br.nil; rotate_left)
  · (repeat (first | refine S.seq ?_ | refine S.region ?_ | refine L.nil ?_ | refine L.p (by first | exact o_move rfl | exact o_nil rfl | exact o_nilFn rfl | exact o_load rfl rfl | exact o_load rfl (by assumption) | exact o_assertI rfl) rfl ?_ | refine L.store rfl rfl (blt_iff.1 rfl) rfl ?_ | refine S.block ?_ | refine S.pop ?_ | refine S.skip ?_ | refine S.exit rfl ?_ | refine S.condT rfl ?_ | refine S.condF rfl ?_ | refine B.go ?_ | refine B.done (by decide +kernel) ?_ | refine B.take 0 rfl (by kernel_rfl) (by decide +kernel) (by decide +kernel) rfl (o_move rfl) rfl ?_ | refine B.take 1 rfl (by kernel_rfl) (by decide +kernel) (by decide +kernel) rfl (o_move rfl) rfl ?_ | refine B.take 2 rfl (by kernel_rfl) (by decide +kernel) (by decide +kernel) rfl (o_nil rfl) rfl ?_ | refine B.take 2 rfl (by kernel_rfl) (by decide +kernel) (by decide +kernel) rfl (o_nilFn rfl) rfl ?_ | refine B.take 4 rfl (by kernel_rfl) (by decide +kernel) (by decide +kernel) rfl (o_move rfl) rfl ?_ | refine B.take 5 rfl (by kernel_rfl) (by decide +kernel) (by decide +kernel) rfl (o_assertI rfl) rfl ?_ | refine B.take 8 rfl (by kernel_rfl) (by decide +kernel) (by decide +kernel) rfl (o_nil rfl) rfl ?_ | refine B.take 8 rfl (by kernel_rfl) (by decide +kernel) (by decide +kernel) rfl (o_nilFn rfl) rfl ?_))
    focus (refine B.branch [6] (by kernel_rfl) (by simp) ?_; refine Br.cons rfl rfl ?_ Br.nil; rotate_left)
    refine L.slice1 rfl [.int .i64 x] rfl (by rfl) (by rfl) rfl (by decide) (fun bt => ?_)
    (repeat (first | refine S.seq ?_ | refine S.region ?_ | refine L.nil ?_ | refine L.p (by first | exact o_move rfl | exact o_nil rfl | exact o_nilFn rfl | exact o_load rfl rfl | exact o_load rfl (by assumption) | exact o_assertI rfl) rfl ?_ | refine L.store rfl rfl (blt_iff.1 rfl) rfl ?_ | refine S.block ?_ | refine S.pop ?_ | refine S.skip ?_ | refine S.exit rfl ?_ | refine S.condT rfl ?_ | refine S.condF rfl ?_ | refine B.go ?_ | refine B.done (by decide +kernel) ?_ | refine B.take 0 rfl (by kernel_rfl) (by decide +kernel) (by decide +kernel) rfl (o_move rfl) rfl ?_ | refine B.take 1 rfl (by kernel_rfl) (by decide +kernel) (by decide +kernel) rfl (o_move rfl) rfl ?_ | refine B.take 2 rfl (by kernel_rfl) (by decide +kernel) (by decide +kernel) rfl (o_nil rfl) rfl ?_ | refine B.take 2 rfl (by kernel_rfl) (by decide +kernel) (by decide +kernel) rfl (o_nilFn rfl) rfl ?_ | refine B.take 4 rfl (by kernel_rfl) (by decide +kernel) (by decide +kernel) rfl (o_move rfl) rfl ?_ | refine B.take 5 rfl (by kernel_rfl) (by decide +kernel) (by decide +kernel) rfl (o_assertI rfl) rfl ?_ | refine B.take 8 rfl (by kernel_rfl) (by decide +kernel) (by decide +kernel) rfl (o_nil rfl) rfl ?_ | refine B.take 8 rfl (by kernel_rfl) (by decide +kernel) (by decide +kernel) rfl (o_nilFn rfl) rfl ?_))
    focus (refine B.branch [7] (by kernel_rfl) (by simp) ?_; refine Br.cons rfl rfl ?_ Br.nil; rotate_left)
    refine L.append (m := 1) (cnt := l.length) (news := [.int .i64 x]) (A := Ao) (R := .cells bt 3 [.int .i64 x] :: .cells b 143 [tk, .slice a l.length cap] :: H) rfl hown rfl (Own.src3 (by simp)) lenOf_slice rfl (by simp [Value.oneCell']) (by simp) (by omega) (by decide) rfl (by intro a; simp only [List.count_append, List.count_cons, List.count_nil] <;> omega) rfl (fun a' c' A' ho => ?_)
    (repeat (first | refine S.seq ?_ | refine S.region ?_ | refine L.nil ?_ | refine L.p (by first | exact o_move rfl | exact o_nil rfl | exact o_nilFn rfl | exact o_load rfl rfl | exact o_load rfl (by assumption) | exact o_assertI rfl) rfl ?_ | refine L.store rfl rfl (blt_iff.1 rfl) rfl ?_ | refine S.block ?_ | refine S.pop ?_ | refine S.skip ?_ | refine S.exit rfl ?_ | refine S.condT rfl ?_ | refine S.condF rfl ?_ | refine B.go ?_ | refine B.done (by decide +kernel) ?_ | refine B.take 0 rfl (by kernel_rfl) (by decide +kernel) (by decide +kernel) rfl (o_move rfl) rfl ?_ | refine B.take 1 rfl (by kernel_rfl) (by decide +kernel) (by decide +kernel) rfl (o_move rfl) rfl ?_ | refine B.take 2 rfl (by kernel_rfl) (by decide +kernel) (by decide +kernel) rfl (o_nil rfl) rfl ?_ | refine B.take 2 rfl (by kernel_rfl) (by decide +kernel) (by decide +kernel) rfl (o_nilFn rfl) rfl ?_ | refine B.take 4 rfl (by kernel_rfl) (by decide +kernel) (by decide +kernel) rfl (o_move rfl) rfl ?_ | refine B.take 5 rfl (by kernel_rfl) (by decide +kernel) (by decide +kernel) rfl (o_assertI rfl) rfl ?_ | refine B.take 8 rfl (by kernel_rfl) (by decide +kernel) (by decide +kernel) rfl (o_nil rfl) rfl ?_ | refine B.take 8 rfl (by kernel_rfl) (by decide +kernel) (by decide +kernel) rfl (o_nilFn rfl) rfl ?_))
    focus (refine B.branch [9] (by kernel_rfl) (by simp) ?_; refine Br.cons rfl rfl ?_ Br.nil; rotate_left)
    (repeat (first | refine S.seq ?_ | refine S.region ?_ | refine L.nil ?_ | refine L.p (by first | exact o_move rfl | exact o_nil rfl | exact o_nilFn rfl | exact o_load rfl rfl | exact o_load rfl (by assumption) | exact o_assertI rfl) rfl ?_ | refine L.store rfl rfl (blt_iff.1 rfl) rfl ?_ | refine S.block ?_ | refine S.pop ?_ | refine S.skip ?_ | refine S.exit rfl ?_ | refine S.condT rfl ?_ | refine S.condF rfl ?_ | refine B.go ?_ | refine B.done (by decide +kernel) ?_ | refine B.take 0 rfl (by kernel_rfl) (by decide +kernel) (by decide +kernel) rfl (o_move rfl) rfl ?_ | refine B.take 1 rfl (by kernel_rfl) (by decide +kernel) (by decide +kernel) rfl (o_move rfl) rfl ?_ | refine B.take 2 rfl (by kernel_rfl) (by decide +kernel) (by decide +kernel) rfl (o_nil rfl) rfl ?_ | refine B.take 2 rfl (by kernel_rfl) (by decide +kernel) (by decide +kernel) rfl (o_nilFn rfl) rfl ?_ | refine B.take 4 rfl (by kernel_rfl) (by decide +kernel) (by decide +kernel) rfl (o_move rfl) rfl ?_ | refine B.take 5 rfl (by kernel_rfl) (by decide +kernel) (by decide +kernel) rfl (o_assertI rfl) rfl ?_ | refine B.take 8 rfl (by kernel_rfl) (by decide +kernel) (by decide +kernel) rfl (o_nil rfl) rfl ?_ | refine B.take 8 rfl (by kernel_rfl) (by decide +kernel) (by decide +kernel) rfl (o_nilFn rfl) rfl ?_))
    refine S.end (Fin.zero rfl) (fun w hs => ?_)
    exact fin a' c' A' w ho (hs.re (H' := .cells bt 3 [.int .i64 x] :: .cells b 143 [tk, .slice a' (l.length + 1) c'] :: (A' ++ H)) (by intro a; simp only [List.count_append, List.count_cons, List.count_nil] <;> omega)).tail
  · refine L.slice1 rfl [.int .i64 x] rfl (by rfl) (by rfl) rfl (by decide) (fun bt => ?_)
    (repeat (first | refine S.seq ?_ | refine S.region ?_ | refine L.nil ?_ | refine L.p (by first | exact o_move rfl | exact o_nil rfl | exact o_nilFn rfl | exact o_load rfl rfl | exact o_load rfl (by assumption) | exact o_assertI rfl) rfl ?_ | refine L.store rfl rfl (blt_iff.1 rfl) rfl ?_ | refine S.block ?_ | refine S.pop ?_ | refine S.skip ?_ | refine S.exit rfl ?_ | refine S.condT rfl ?_ | refine S.condF rfl ?_ | refine B.go ?_ | refine B.done (by decide +kernel) ?_ | refine B.take 0 rfl (by kernel_rfl) (by decide +kernel) (by decide +kernel) rfl (o_move rfl) rfl ?_ | refine B.take 1 rfl (by kernel_rfl) (by decide +kernel) (by decide +kernel) rfl (o_move rfl) rfl ?_ | refine B.take 2 rfl (by kernel_rfl) (by decide +kernel) (by decide +kernel) rfl (o_nil rfl) rfl ?_ | refine B.take 2 rfl (by kernel_rfl) (by decide +kernel) (by decide +kernel) rfl (o_nilFn rfl) rfl ?_ | refine B.take 4 rfl (by kernel_rfl) (by decide +kernel) (by decide +kernel) rfl (o_move rfl) rfl ?_ | refine B.take 5 rfl (by kernel_rfl) (by decide +kernel) (by decide +kernel) rfl (o_assertI rfl) rfl ?_ | refine B.take 8 rfl (by kernel_rfl) (by decide +kernel) (by decide +kernel) rfl (o_nil rfl) rfl ?_ | refine B.take 8 rfl (by kernel_rfl) (by decide +kernel) (by decide +kernel) rfl (o_nilFn rfl) rfl ?_))
    focus (refine B.branch [3] (by kernel_rfl) (by simp) ?_; refine Br.cons rfl rfl ?_ Br.nil; rotate_left)
    (repeat (first | refine S.seq ?_ | refine S.region ?_ | refine L.nil ?_ | refine L.p (by first | exact o_move rfl | exact o_nil rfl | exact o_nilFn rfl | exact o_load rfl rfl | exact o_load rfl (by assumption) | exact o_assertI rfl) rfl ?_ | refine L.store rfl rfl (blt_iff.1 rfl) rfl ?_ | refine S.block ?_ | refine S.pop ?_ | refine S.skip ?_ | refine S.exit rfl ?_ | refine S.condT rfl ?_ | refine S.condF rfl ?_ | refine B.go ?_ | refine B.done (by decide +kernel) ?_ | refine B.take 0 rfl (by kernel_rfl) (by decide +kernel) (by decide +kernel) rfl (o_move rfl) rfl ?_ | refine B.take 1 rfl (by kernel_rfl) (by decide +kernel) (by decide +kernel) rfl (o_move rfl) rfl ?_ | refine B.take 2 rfl (by kernel_rfl) (by decide +kernel) (by decide +kernel) rfl (o_nil rfl) rfl ?_ | refine B.take 2 rfl (by kernel_rfl) (by decide +kernel) (by decide +kernel) rfl (o_nilFn rfl) rfl ?_ | refine B.take 4 rfl (by kernel_rfl) (by decide +kernel) (by decide +kernel) rfl (o_move rfl) rfl ?_ | refine B.take 5 rfl (by kernel_rfl) (by decide +kernel) (by decide +kernel) rfl (o_assertI rfl) rfl ?_ | refine B.take 8 rfl (by kernel_rfl) (by decide +kernel) (by decide +kernel) rfl (o_nil rfl) rfl ?_ | refine B.take 8 rfl (by kernel_rfl) (by decide +kernel) (by decide +kernel) rfl (o_nilFn rfl) rfl ?_))
    focus (refine B.branch [7] (by kernel_rfl) (by simp) ?_; refine Br.cons rfl rfl ?_ Br.nil; rotate_left)
    refine L.append (m := 1) (cnt := l.length) (news := [.int .i64 x]) (A := Ao) (R := .cells bt 3 [.int .i64 x] :: .cells b 143 [tk, .slice a l.length cap] :: H) rfl hown rfl (Own.src3 (by simp)) lenOf_slice rfl (by simp [Value.oneCell']) (by simp) (by omega) (by decide) rfl (by intro a; simp only [List.count_append, List.count_cons, List.count_nil] <;> omega) rfl (fun a' c' A' ho => ?_)
    (repeat (first | refine S.seq ?_ | refine S.region ?_ | refine L.nil ?_ | refine L.p (by first | exact o_move rfl | exact o_nil rfl | exact o_nilFn rfl | exact o_load rfl rfl | exact o_load rfl (by assumption) | exact o_assertI rfl) rfl ?_ | refine L.store rfl rfl (blt_iff.1 rfl) rfl ?_ | refine S.block ?_ | refine S.pop ?_ | refine S.skip ?_ | refine S.exit rfl ?_ | refine S.condT rfl ?_ | refine S.condF rfl ?_ | refine B.go ?_ | refine B.done (by decide +kernel) ?_ | refine B.take 0 rfl (by kernel_rfl) (by decide +kernel) (by decide +kernel) rfl (o_move rfl) rfl ?_ | refine B.take 1 rfl (by kernel_rfl) (by decide +kernel) (by decide +kernel) rfl (o_move rfl) rfl ?_ | refine B.take 2 rfl (by kernel_rfl) (by decide +kernel) (by decide +kernel) rfl (o_nil rfl) rfl ?_ | refine B.take 2 rfl (by kernel_rfl) (by decide +kernel) (by decide +kernel) rfl (o_nilFn rfl) rfl ?_ | refine B.take 4 rfl (by kernel_rfl) (by decide +kernel) (by decide +kernel) rfl (o_move rfl) rfl ?_ | refine B.take 5 rfl (by kernel_rfl) (by decide +kernel) (by decide +kernel) rfl (o_assertI rfl) rfl ?_ | refine B.take 8 rfl (by kernel_rfl) (by decide +kernel) (by decide +kernel) rfl (o_nil rfl) rfl ?_ | refine B.take 8 rfl (by kernel_rfl) (by decide +kernel) (by decide +kernel) rfl (o_nilFn rfl) rfl ?_))
    focus (refine B.branch [9] (by kernel_rfl) (by simp) ?_; refine Br.cons rfl rfl ?_ Br.nil; rotate_left)
    (repeat (first | refine S.seq ?_ | refine S.region ?_ | refine L.nil ?_ | refine L.p (by first | exact o_move rfl | exact o_nil rfl | exact o_nilFn rfl | exact o_load rfl rfl | exact o_load rfl (by assumption) | exact o_assertI rfl) rfl ?_ | refine L.store rfl rfl (blt_iff.1 rfl) rfl ?_ | refine S.block ?_ | refine S.pop ?_ | refine S.skip ?_ | refine S.exit rfl ?_ | refine S.condT rfl ?_ | refine S.condF rfl ?_ | refine B.go ?_ | refine B.done (by decide +kernel) ?_ | refine B.take 0 rfl (by kernel_rfl) (by decide +kernel) (by decide +kernel) rfl (o_move rfl) rfl ?_ | refine B.take 1 rfl (by kernel_rfl) (by decide +kernel) (by decide +kernel) rfl (o_move rfl) rfl ?_ | refine B.take 2 rfl (by kernel_rfl) (by decide +kernel) (by decide +kernel) rfl (o_nil rfl) rfl ?_ | refine B.take 2 rfl (by kernel_rfl) (by decide +kernel) (by decide +kernel) rfl (o_nilFn rfl) rfl ?_ | refine B.take 4 rfl (by kernel_rfl) (by decide +kernel) (by decide +kernel) rfl (o_move rfl) rfl ?_ | refine B.take 5 rfl (by kernel_rfl) (by decide +kernel) (by decide +kernel) rfl (o_assertI rfl) rfl ?_ | refine B.take 8 rfl (by kernel_rfl) (by decide +kernel) (by decide +kernel) rfl (o_nil rfl) rfl ?_ | refine B.take 8 rfl (by kernel_rfl) (by decide +kernel) (by decide +kernel) rfl (o_nilFn rfl) rfl ?_))
    refine S.end (Fin.zero rfl) (fun w hs => ?_)
    exact fin a' c' A' w ho (hs.re (H' := .cells bt 3 [.int .i64 x] :: .cells b 143 [tk, .slice a' (l.length + 1) c'] :: (A' ++ H)) (by intro a; simp only [List.count_append, List.count_cons, List.count_nil] <;> omega)).tail

theorem push_calls {w : World} {A H : List Atom} {b x : Nat} {tk : Value} {l : List Nat} (hb : l.length < 900000) (hh0 : Heap l l.length) (hL : LeastAt b tk l A) (hs : Sat w (A ++ H)) :
    Calls Try.prog 92 [hh b, .iface 3 (.int .i64 x)].toArray w (fun e w' => ∃ l' A', e = .returned (.tuple #[]) ∧ l'.Perm (l ++ [x]) ∧ Heap l' l'.length ∧ LeastAt b tk l' A' ∧ Sat w' (A' ++ H)) := by
  refine enter Try.func92 rfl Try.ntmps92 rfl hs ?_
  (repeat (first | refine S.seq ?_ | refine S.region ?_ | refine L.nil ?_ | refine L.p (by first | exact o_move rfl | exact o_sub rfl rfl (by unfold I64; omega)) rfl ?_ | refine S.block ?_ | refine S.pop ?_ | refine S.skip ?_ | refine S.exit rfl ?_ | refine S.condT rfl ?_ | refine S.condF rfl ?_))
  refine L.callS rfl (hcs_ptr Try.func125 (by decide) rfl rfl rfl) rfl (fun w hs => lpush_calls (by omega) hL hs) ?_
  rintro e w' ⟨A', rfl, hL', hs'⟩
  cases hL' with
  | @mk a cap Ao hown =>
  obtain ⟨bl, ex, rfl, rfl, h1, h2⟩ := hown.some' rfl (by simp)
  refine ⟨_, _, rfl, hs', ?_⟩
  simp only [List.cons_append, List.nil_append]
  have hn : (l ++ [x]).length = l.length + 1 := by simp
  (repeat (first | refine S.seq ?_ | refine S.region ?_ | refine L.nil ?_ | refine L.p (by first | exact o_move rfl | exact o_sub rfl rfl (by unfold I64; omega)) rfl ?_ | refine S.block ?_ | refine S.pop ?_ | refine S.skip ?_ | refine S.exit rfl ?_ | refine S.condT rfl ?_ | refine S.condF rfl ?_))
  refine L.callS rfl (hcs_val Try.func121 (by decide) rfl rfl rfl rfl) rfl (fun w hs => len_calls hs) ?_
  rintro e w' ⟨rfl, hs'⟩
  refine ⟨_, _, rfl, (by assumption), ?_⟩
  (repeat (first | refine L.p (o_subE rfl rfl (r := (l.length : Int)) (by rw [wrap_i64 (by unfold I64; omega)]; omega)) rfl ?_ | refine S.seq ?_ | refine S.region ?_ | refine L.nil ?_ | refine L.p (by first | exact o_move rfl | exact o_sub rfl rfl (by unfold I64; omega)) rfl ?_ | refine S.block ?_ | refine S.pop ?_ | refine S.skip ?_ | refine S.exit rfl ?_ | refine S.condT rfl ?_ | refine S.condF rfl ?_))
  refine L.callR rfl (hc_func Try.func102 (by decide) rfl rfl) rfl (fun w hs => up_calls (l := l ++ [x]) (j := l.length) rfl (by simp) (by simp; omega) (by rw [hn]; exact up_begin rfl hh0) hs) ?_
  rintro e w' ⟨l', rfl, g1, g2, hs'⟩
  refine ⟨_, _, rfl, (by assumption), ?_⟩
  (repeat (first | refine S.seq ?_ | refine S.region ?_ | refine L.nil ?_ | refine L.p (by first | exact o_move rfl | exact o_sub rfl rfl (by unfold I64; omega)) rfl ?_ | refine S.block ?_ | refine S.pop ?_ | refine S.skip ?_ | refine S.exit rfl ?_ | refine S.condT rfl ?_ | refine S.condF rfl ?_))
  refine S.end (Fin.zero rfl) (fun w hs => ?_)
  have hl' : l'.length = (l ++ [x]).length := g1.length_eq
  refine ⟨l', .cells b 143 [tk, .slice (some ⟨bl, 0, none⟩) (l ++ [x]).length cap] :: .cells bl 3 (ints l' ++ ex) :: [], rfl, g1, by rw [hl']; exact g2, ?_, hs⟩
  have hown2 : Own 3 1 (.slice (some ⟨bl, 0, none⟩) l'.length cap) (ints l') [.cells bl 3 (ints l' ++ ex)] := .mk (by simp) (by simp at h1 ⊢; omega) (by rw [hl']; exact h2)
  have := LeastAt.mk (b := b) (tk := tk) hown2
  rw [hl'] at this
  exact this
end Go.Proofs.Ytlecgoebbjnnmaa

