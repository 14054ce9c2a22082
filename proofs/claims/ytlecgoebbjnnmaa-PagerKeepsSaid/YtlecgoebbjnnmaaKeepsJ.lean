/- Between two acts: a commit, and the others: plain. -/
import Derived.Test.YtlecgoebbjnnmaaKeepsI
set_option linter.unusedVariables false
set_option linter.unusedSimpArgs false
set_option linter.unusedSectionVars false
set_option linter.constructorNameAsVariable false
set_option maxRecDepth 100000
set_option maxHeartbeats 4000000
namespace Go.Proofs.Ytlecgoebbjnnmaa
open Go
variable [Ref]

theorem giveM_get (u : List Bool) (x : Int) (i : Nat) : (giveM u x).getD i false = (u.getD i false && !decide ((i : Int) = x)) := by
  unfold giveM
  split
  · rename_i h
    rw [List.getD_eq_getElem?_getD, List.getElem?_set]
    by_cases e : x.toNat = i
    · have : (i : Int) = x := by omega
      rw [if_pos e]; simp [this]; split <;> rfl
    · have : ¬ (i : Int) = x := by omega
      rw [if_neg e]; simp [this]
  · rename_i h
    by_cases e : (i : Int) = x
    · subst e
      have : u.getD i false = false := by
        cases hu : u.getD i false with
        | false => rfl
        | true =>
          exfalso
          refine h ⟨by omega, ?_, by simpa using hu⟩
          rcases Nat.lt_or_ge i u.length with hl | hl
          · omega
          · rw [List.getD_eq_getElem?_getD, List.getElem?_eq_none hl] at hu; cases hu
      rw [this]; rfl
    · simp [e]
theorem giveAll_get : ∀ (l : List Int) (u : List Bool) (i : Nat), (giveAll l u).getD i false = (u.getD i false && !decide ((i : Int) ∈ l))
  | [], u, i => by simp [giveAll]
  | x :: r, u, i => by
    rw [giveAll, giveAll_get r, giveM_get]
    by_cases e : (i : Int) = x
    · simp [e]
    · by_cases e2 : (i : Int) ∈ r
      · simp [e2]
      · simp [e, e2]
theorem undoM_get (fr : List Int) : ∀ (k : Nat) (u : List Bool) (i : Nat), (undoM fr k u).getD i false = (u.getD i false && !decide ((i : Int) ∈ fr ∧ i < k))
  | 0, u, i => by simp [undoM]
  | k + 1, u, i => by
    unfold undoM
    split
    · rename_i h
      rw [giveM_get, undoM_get fr k]
      by_cases e : i = k
      · subst e; simp [h]
      · have e1 : ¬ (i : Int) = (k : Int) := by omega
        have e2 : (i < k + 1) = (i < k) := by apply propext; omega
        simp [e1, e2]
    · rename_i h
      rw [undoM_get fr k]
      by_cases e : i = k
      · subst e; simp [h]
      · have e2 : (i < k + 1) = (i < k) := by apply propext; omega
        simp only [e2]
theorem marks_list {f : Nat → Bool} {u : List Bool} (hu : u.length = 12) (h : ∀ i, i < 12 → f i = u.getD i false) : (List.range 12).map f = u := by
  apply List.ext_getElem?
  intro i
  by_cases hi : i < 12
  · rw [List.getElem?_map, List.getElem?_range hi, Option.map_some, h i hi]; simp [hu, hi]
  · rw [List.getElem?_eq_none (by simp; omega), List.getElem?_eq_none (by omega)]
theorem marks_none : Marks (List.replicate 12 false) [] := ⟨by simp, fun i hi => by rw [List.getD_eq_getElem?_getD, List.getElem?_replicate, if_pos hi]; simp, fun x hx => by cases hx⟩
theorem taken_iff {u : List Bool} (hu : u.length = 12) {i : Nat} : takenM u i = u.getD i false := by
  unfold takenM
  cases h : u.getD i false with
  | true =>
    have hl : i < u.length := by
      rcases Nat.lt_or_ge i u.length with hl | hl
      · exact hl
      · rw [List.getD_eq_getElem?_getD, List.getElem?_eq_none hl] at h; cases h
    exact decide_eq_true ⟨by omega, by omega, by simpa using h⟩
  | false => exact decide_eq_false (fun hh => by have := hh.2.2; rw [Int.toNat_natCast, h] at this; cases this)

/-- a page is read -/
theorem read_up {i : Nat} {D : DiskM} {p : PgM} {k : KeepM} (h : Inv i D p k) (hoff : D.off = false) (x : Nat) : p.read D x = if p.used.getD x false = true then (blockOf D.now (3 + x), 0) else ([], 1) := by
  have hul : p.used.length = 12 := by rw [h.pwf.used, h.pages]
  unfold PgM.read
  rw [taken_iff hul]
  split
  · rename_i ht
    have hx : x < 12 := by
      rcases Nat.lt_or_ge x p.used.length with hl | hl
      · omega
      · rw [List.getD_eq_getElem?_getD, List.getElem?_eq_none hl] at ht; cases ht
    unfold DiskM.read
    rw [if_pos (by rw [h.first, h.n]; omega), hoff, h.first, show (((1 : Nat) : Int) + 2 + (x : Int)).toNat = 3 + x by omega]
    rfl
  · rfl

theorem now_good {i : Nat} {D : DiskM} {p : PgM} {k : KeepM} (h : Inv i D p k) (hu : Up D p k) : Good D.now k.last ∧ ∀ b, (∀ q ∈ D.pend, q.blk ≠ b) → blockOf D.now b = blockOf D.safe b := by
  have key : ∀ b, (∀ q ∈ D.pend, q.blk ≠ b) → blockOf D.now b = blockOf D.safe b := fun b hb => by
    rw [← show keepSafe (fun _ => true) 0 D.pend D.safe = D.now from hu.full]
    exact keepSafe_other _ D.n b _ _ _ h.wf.safe h.wf.pend hb
  refine ⟨hu.good.congr ?_ ?_ (fun j hj => ?_), key⟩
  · rw [key 1 (fun q hq e => by obtain ⟨i, e1, _⟩ := hu.pend q hq; omega)]
  · rw [key 2 (fun q hq e => by obtain ⟨i, e1, _⟩ := hu.pend q hq; omega)]
  · refine key _ (fun q hq e => ?_)
    obtain ⟨i, e1, e2⟩ := hu.pend q hq
    have : i = j := by omega
    subst this; exact e2 hj

/-- the state that is committed -/
theorem want_good {i : Nat} {D : DiskM} {p : PgM} {k : KeepM} (h : Inv i D p k) (hu : Up D p k) (hi : i ≤ 1000) {r epoch : Nat} (hr : r ≤ 12) (he : epoch < 18446744073709551616) {x : List UInt8}
    (h1 : (blockOf x (1 + (p.gen + 1) % 2)).take 64 = (headB (p.gen + 1) r epoch).take 64) (h2 : (blockOf x (1 + p.gen % 2)).take 64 = (blockOf D.now (1 + p.gen % 2)).take 64) (h3 : ∀ j, j < 12 → blockOf x (3 + j) = blockOf D.now (3 + j)) :
    Good x (wantM k p D ((r : Int) - 1) epoch) := by
  have hg := (now_good h hu).1
  have hgen : (headsOf D.now).1 = p.gen := by rw [hg.heads]; exact hu.state.1.symm
  have hge := h.gen
  have hmem : ∀ j ∈ wantPages k p D 12, j < 12 ∧ (p.read D j).2 = 0 := fun j hj => by
    obtain ⟨m1, m2⟩ := List.mem_filter.1 hj
    simp only [Bool.and_eq_true, decide_eq_true_eq] at m2
    exact ⟨List.mem_range.1 m1, m2.2⟩
  refine ⟨headsOf_next hgen (by omega) hr he h1 h2, fun j hj => ?_, fun j hj => (hmem j hj).1, List.Pairwise.filter _ List.nodup_range, by simp [wantM]⟩
  have hj' : j < (wantPages k p D 12).length := hj
  have hm := hmem _ (List.getElem_mem hj')
  show blockOf x (3 + (wantPages k p D 12)[j]) = ((wantPages k p D 12).map fun (i : Nat) => (p.read D i).1).getD j []
  rw [h3 _ hm.1]
  have hrd := read_up h hu.off (wantPages k p D 12)[j]
  have ht : p.used.getD (wantPages k p D 12)[j] false = true := by
    cases hq : p.used.getD (wantPages k p D 12)[j] false with
    | true => rfl
    | false => rw [hrd, hq] at hm; exact absurd hm.2 (by simp)
  rw [ht, if_pos rfl] at hrd
  simp [hj', hrd]

theorem lens_settle (k : KeepM) (g : List Bool) : Lens (k.settle g) := ⟨by simp [KeepM.settle], by simp [KeepM.settle], by simp [KeepM.settle]⟩

theorem commit_inv {i : Nat} {D : DiskM} {p : PgM} {k : KeepM} (h : Inv i D p k) (hi : i ≤ 1000) {root : Int} {epoch : Nat} (he : epoch < 18446744073709551616) :
    Inv (i + 1) (p.commit D root epoch).2.1 (p.commit D root epoch).1 (k.commit p D root epoch (p.commit D root epoch).2.2) := by
  have hpe := h.pend
  have hge := h.gen
  have hul : p.used.length = 12 := by rw [h.pwf.used, h.pages]
  cases hb : p.commitBad root epoch with
  | true =>
    have hw : p.commit D root epoch = (p, D, 1) := by unfold PgM.commit; rw [if_pos hb]
    have hk : k.commit p D root epoch 1 = k := by unfold KeepM.commit; rw [if_neg (by decide), if_neg (fun hh => absurd hh.1 (by decide))]
    rw [hw]; dsimp only; rw [hk]; exact h.more
  | false =>
    -- the root
    obtain ⟨r, hrr, hr⟩ : ∃ r : Nat, root = (r : Int) - 1 ∧ r ≤ 12 := by
      have hb' := of_decide_eq_false hb
      by_cases hm : root = -1
      · exact ⟨0, by omega, by omega⟩
      · have ht : takenM p.used root = true := by
          cases htt : takenM p.used root with
          | true => rfl
          | false => exact absurd (Or.inr ⟨hm, Or.inl htt⟩) hb'
        have := of_decide_eq_true ht
        exact ⟨(root + 1).toNat, by omega, by omega⟩
    subst hrr
    have hrt : ((r : Int) - 1 + 1).toNat = r := by omega
    have kdown : ∀ hne : k.next = k.last, k.commit p D ((r : Int) - 1) epoch 9 = { k with next := wantM k p D ((r : Int) - 1) epoch } := fun hne => by
      unfold KeepM.commit; rw [if_neg (by decide), if_pos ⟨rfl, by rw [hne]; exact Nat.le_refl _⟩]
    rcases h.rest with hu | hd
    · have hg1 : ¬ p.gen + 1 = 18446744073709551616 := by omega
      have wgen : (wantM k p D ((r : Int) - 1) epoch).gen = k.last.gen + 1 := by show p.gen + 1 = _; rw [hu.state.1]
      have wne : (wantM k p D ((r : Int) - 1) epoch).gen ≠ k.last.gen := by omega
      obtain ⟨ng, nk⟩ := now_good h hu
      rw [commit_go hb hu.broken hg1, hrt]
      rcases power_cases D hu.off with ⟨c1, c2⟩ | ⟨c1, c2⟩
      · have hf1 : D.flush = (D.power.1.settle fun _ => true, 0) := by unfold DiskM.flush; rw [if_pos c1]
        have hps := power_same D
        have hfl := Full.flushed (power_wf h.wf) (full_power hu.full)
        generalize hD1 : (D.power.1.settle fun _ => true) = D1 at *
        have d1n : D1.n = 15 := by rw [← hD1]; show D.power.1.n = 15; rw [hps.1, h.n]
        have d1p : D1.pend = [] := by rw [← hD1]; rfl
        have d1o : D1.off = false := by rw [← hD1]; exact c2
        have d1w : D1.WF := by rw [← hD1]; exact settle_wf (power_wf h.wf) _
        have d1f : D1.Full := by show keepSafe _ 0 D1.pend D1.safe = D1.now; rw [d1p, hfl.1, hfl.2]; rfl
        rw [hps.2.1] at hfl
        have pfl : p.flush D = (p, D1, 0) := by
          unfold PgM.flush
          rw [hf1]
          have hbr := hu.broken
          have : ({ p with broken := decide ((0 : Int) ≠ 0) } : PgM) = p := by
            obtain ⟨_, _, _, _, _, _, _, _, br⟩ := p
            simp only at hbr
            subst hbr; rfl
          rw [this]
        rw [pfl]
        simp only
        rw [if_neg (by decide)]
        have hbl : (headB (p.gen + 1) r epoch).length = 256 := headB_length
        have hix : 0 ≤ (p.first : Int) + ((p.gen + 1) % 2 : Nat) ∧ (p.first : Int) + ((p.gen + 1) % 2 : Nat) < D1.n := by rw [h.first, d1n]; omega
        have hto : ((p.first : Int) + ((p.gen + 1) % 2 : Nat)).toNat = 1 + (p.gen + 1) % 2 := by rw [h.first]; omega
        have g1safe : Good D1.safe k.last := by rw [hfl.2]; exact ng
        rcases power_cases D1 d1o with ⟨e1, e2⟩ | ⟨e1, e2⟩
        · have hps1 := power_same D1
          have hw1 : D1.write (p.first + ((p.gen + 1) % 2 : Nat)) (headB (p.gen + 1) r epoch) = (D1.power.1.lay (1 + (p.gen + 1) % 2) (headB (p.gen + 1) r epoch), 0) := by
            unfold DiskM.write; rw [if_pos ⟨hix.1, hix.2, hbl⟩, if_pos e1, hto]
          have hn2 : 1 + (p.gen + 1) % 2 < D1.power.1.n := by rw [hps1.1, d1n]; omega
          have d2f := Full.lay (power_wf d1w) (full_power d1f) hn2 hbl
          have d2w := lay_wf (power_wf d1w) hn2 hbl
          have d2p : (D1.power.1.lay (1 + (p.gen + 1) % 2) (headB (p.gen + 1) r epoch)).pend = piecesOf (1 + (p.gen + 1) % 2) (headB (p.gen + 1) r epoch) 4 := by
            show D1.power.1.pend ++ _ = _; rw [hps1.2.2.2.1, d1p]; rfl
          have d2s : (D1.power.1.lay (1 + (p.gen + 1) % 2) (headB (p.gen + 1) r epoch)).safe = D.now := by show D1.power.1.safe = _; rw [hps1.2.2.1, hfl.2]
          have d2now : (D1.power.1.lay (1 + (p.gen + 1) % 2) (headB (p.gen + 1) r epoch)).now = setB D.now ((1 + (p.gen + 1) % 2) * 256) (headB (p.gen + 1) r epoch) := by
            show setB D1.power.1.now _ _ = _; rw [hps1.2.1, hfl.1]
          have d2o : (D1.power.1.lay (1 + (p.gen + 1) % 2) (headB (p.gen + 1) r epoch)).off = false := e2
          have d2n : (D1.power.1.lay (1 + (p.gen + 1) % 2) (headB (p.gen + 1) r epoch)).n = 15 := by show D1.power.1.n = 15; rw [hps1.1, d1n]
          generalize hD2 : D1.power.1.lay (1 + (p.gen + 1) % 2) (headB (p.gen + 1) r epoch) = D2 at *
          have pw1 : p.put D1 ((p.gen + 1) % 2 : Nat) (headB (p.gen + 1) r epoch) = (p, D2, 0) := by
            unfold PgM.put
            rw [hw1]
            have hbr := hu.broken
            have : ({ p with broken := decide ((0 : Int) ≠ 0) } : PgM) = p := by
              obtain ⟨_, _, _, _, _, _, _, _, br⟩ := p
              simp only at hbr
              subst hbr; rfl
            rw [this]
          rw [pw1]
          simp only
          rw [if_neg (by decide)]
          -- what is written tells the new state
          have newgood : Good D2.now (wantM k p D ((r : Int) - 1) epoch) := by
            rw [d2now]
            have hlen : D.now.length = 15 * 256 := by rw [h.wf.now, h.n]
            refine want_good h hu hi hr he ?_ ?_ (fun j hj => ?_)
            · rw [block_same hlen (by omega) hbl]
            · have := block_other (o := 0) (k := 1 + p.gen % 2) hlen (j := 1 + (p.gen + 1) % 2) (by omega) (m := headB (p.gen + 1) r epoch) (by omega) (by omega)
              rw [Nat.add_zero] at this; rw [this]
            · have := block_other (o := 0) (k := 3 + j) hlen (j := 1 + (p.gen + 1) % 2) (by omega) (m := headB (p.gen + 1) r epoch) (by omega) (by omega)
              rw [Nat.add_zero] at this; exact this
          rcases power_cases D2 d2o with ⟨f1, f2⟩ | ⟨f1, f2⟩
          · have hps2 := power_same D2
            have hf2 : D2.flush = (D2.power.1.settle fun _ => true, 0) := by unfold DiskM.flush; rw [if_pos f1]
            have hfl2 := Full.flushed (power_wf d2w) (full_power d2f)
            have d3w := settle_wf (power_wf d2w) fun _ => true
            have d3n : (D2.power.1.settle fun _ => true).n = 15 := by show D2.power.1.n = 15; rw [hps2.1, d2n]
            have d3o : (D2.power.1.settle fun _ => true).off = false := f2
            have d3p : (D2.power.1.settle fun _ => true).pend = [] := rfl
            rw [hps2.2.1] at hfl2
            generalize hD3 : (D2.power.1.settle fun _ => true) = D3 at *
            have pf2 : p.flush D2 = (p, D3, 0) := by
              unfold PgM.flush
              rw [hf2]
              have hbr := hu.broken
              have : ({ p with broken := decide ((0 : Int) ≠ 0) } : PgM) = p := by
                obtain ⟨_, _, _, _, _, _, _, _, br⟩ := p
                simp only at hbr
                subst hbr; rfl
              rw [this]
            rw [pf2]
            simp only
            rw [if_neg (by decide)]
            have hk : k.commit p D ((r : Int) - 1) epoch 0 = ({ k with last := wantM k p D ((r : Int) - 1) epoch, next := wantM k p D ((r : Int) - 1) epoch } : KeepM).settle k.dropped := by
              unfold KeepM.commit; rw [if_pos rfl]
            rw [hk]
            have hgu : ∀ j, j < 12 → (giveAll p.dropped p.used).getD j false = (k.used.getD j false && !k.dropped.getD j false) := fun j hj => by
              rw [giveAll_get, hu.kused, hu.kdropped.says j hj]
            refine ⟨d3w, ⟨by show p.gen + 1 < _; omega, ⟨by show (-1 : Int) ≤ (r : Int) - 1; omega, by show (r : Int) - 1 < (p.pages : Nat); rw [h.pages]; omega⟩, he, h.pwf.pages, h.pwf.fit, by show (giveAll p.dropped p.used).length = _; rw [giveAll_length]; exact h.pwf.used, List.nodup_nil, (fun x hx => by cases hx), List.nodup_nil⟩, d3n, by rw [d3p]; simp, by show p.gen + 1 ≤ i + 1; omega, h.first, h.pages, (fun x hx => by cases hx), lens_settle _ _, .inl ?_⟩
            refine ⟨?_, d3o, hu.broken, ⟨rfl, rfl, rfl⟩, ?_, rfl, (by rw [d3p]; intro q hq; cases hq), fun j hj => ⟨?_, fun hh => by cases hh⟩, ?_, marks_none, marks_none⟩
            · show keepSafe _ 0 D3.pend D3.safe = D3.now; rw [d3p, hfl2.1, hfl2.2]; rfl
            · rw [hfl2.2]; exact newgood
            · have hj' : j ∈ wantPages k p D 12 := hj
              obtain ⟨m1, m2⟩ := List.mem_filter.1 hj'
              simp only [Bool.and_eq_true] at m2
              show (giveAll p.dropped p.used).getD j false = true
              rw [hgu j (List.mem_range.1 m1), m2.1.1, m2.1.2]; rfl
            · show (List.range 12).map (fun i => k.used.getD i false && !k.dropped.getD i false) = giveAll p.dropped p.used
              exact marks_list (by rw [giveAll_length]; exact hul) (fun j hj => (hgu j hj).symm)
          · have hf2 : D2.flush = ({ D2 with off := true }, 9) := by unfold DiskM.flush; rw [if_neg (by simp [f1]), f2]
            have pf2 : p.flush D2 = ({ p with broken := true }, { D2 with off := true }, 9) := by unfold PgM.flush; rw [hf2]; rfl
            rw [pf2]
            simp only
            rw [if_pos (by decide)]
            dsimp only
            rw [kdown hu.next]
            refine ⟨⟨d2w.n1, d2w.n2, d2w.now, d2w.safe, d2w.pend, d2w.left⟩, h.pwf.broken _, d2n, ?_, by show p.gen ≤ i + 1; omega, h.first, h.pages, h.fresh, ⟨h.lens.used, h.lens.dropped, h.lens.fresh⟩, .inr ⟨d2f, rfl, rfl, hu.state.1, fun keep => ?_, .inr wgen⟩⟩
            · show D2.pend.length ≤ _; rw [d2p]; simp [piecesOf]; omega
            · show Post (D2.crash keep).now k.last (wantM k p D ((r : Int) - 1) epoch)
              rw [(crash_even d2w d2f keep).1]
              obtain ⟨o1, o2⟩ := crash_head d2w (n := 1 + (p.gen + 1) % 2) (by rw [d2n]; omega) hbl d2p keep
              rw [d2s] at o1 o2
              rcases o1 with o1 | o1
              · refine .inr ⟨ng.congr ?_ ?_ (fun j hj => o2 _ (by omega)), wne⟩
                · rcases Nat.mod_two_eq_zero_or_one (p.gen + 1) with hm | hm
                  · rw [hm] at o1; exact o1
                  · rw [o2 1 (by omega)]
                · rcases Nat.mod_two_eq_zero_or_one (p.gen + 1) with hm | hm
                  · rw [o2 2 (by omega)]
                  · rw [hm] at o1; exact o1
              · refine .inl (want_good h hu hi hr he o1 ?_ (fun j hj => o2 _ (by omega)))
                rw [o2 _ (by omega)]
        · have hw1 : D1.write (p.first + ((p.gen + 1) % 2 : Nat)) (headB (p.gen + 1) r epoch) = ({ D1 with off := true }, 9) := by
            unfold DiskM.write; rw [if_pos ⟨hix.1, hix.2, hbl⟩, if_neg (by simp [e1]), e2]
          have pw1 : p.put D1 ((p.gen + 1) % 2 : Nat) (headB (p.gen + 1) r epoch) = ({ p with broken := true }, { D1 with off := true }, 9) := by unfold PgM.put; rw [hw1]; rfl
          rw [pw1]
          simp only
          rw [if_pos (by decide)]
          dsimp only
          rw [kdown hu.next]
          refine ⟨⟨d1w.n1, d1w.n2, d1w.now, d1w.safe, d1w.pend, d1w.left⟩, h.pwf.broken _, d1n, by show D1.pend.length ≤ _; rw [d1p]; simp, by show p.gen ≤ i + 1; omega, h.first, h.pages, h.fresh, ⟨h.lens.used, h.lens.dropped, h.lens.fresh⟩, .inr ⟨d1f, rfl, rfl, hu.state.1, fun keep => ?_, .inr wgen⟩⟩
          exact .inr ⟨crash_last d1w d1n d1f g1safe (by rw [d1p]; intro q hq; cases hq) keep, wne⟩
      · have hf1 : D.flush = ({ D with off := true }, 9) := by unfold DiskM.flush; rw [if_neg (by simp [c1]), c2]
        have pf : p.flush D = ({ p with broken := true }, { D with off := true }, 9) := by unfold PgM.flush; rw [hf1]; rfl
        rw [pf]
        simp only
        rw [if_pos (by decide)]
        dsimp only
        rw [kdown hu.next]
        refine ⟨⟨h.wf.n1, h.wf.n2, h.wf.now, h.wf.safe, h.wf.pend, h.wf.left⟩, h.pwf.broken _, h.n, by show D.pend.length ≤ _; omega, by show p.gen ≤ i + 1; omega, h.first, h.pages, h.fresh, ⟨h.lens.used, h.lens.dropped, h.lens.fresh⟩, .inr ⟨hu.full, rfl, rfl, hu.state.1, fun keep => ?_, .inr wgen⟩⟩
        exact .inr ⟨crash_last h.wf h.n hu.full hu.good hu.pend keep, wne⟩
    · have hw : p.commit D ((r : Int) - 1) epoch = (p, D, 9) := by unfold PgM.commit; rw [if_neg (by simp [hb]), if_pos hd.broken]
      rw [hw]
      dsimp only
      rcases hd.next with hn | hn
      · rw [kdown hn]
        refine ⟨h.wf, h.pwf, h.n, by omega, by omega, h.first, h.pages, h.fresh, ⟨h.lens.used, h.lens.dropped, h.lens.fresh⟩, .inr ⟨hd.full, hd.off, hd.broken, hd.gen, fun keep => ?_, .inr (by show p.gen + 1 = _; rw [hd.gen])⟩⟩
        have := hd.post keep
        rw [hn] at this
        rcases this with hh | hh
        · exact .inr ⟨hh, by show p.gen + 1 ≠ k.last.gen; rw [hd.gen]; omega⟩
        · exact absurd rfl hh.2
      · have hk : k.commit p D ((r : Int) - 1) epoch 9 = k := by unfold KeepM.commit; rw [if_neg (by decide), if_neg (fun hh => by have := hh.2; omega)]
        rw [hk]; exact h.more
end Go.Proofs.Ytlecgoebbjnnmaa

