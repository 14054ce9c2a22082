/- Between two acts: taking, dropping, undoing, crashes: plain. -/
import Derived.Test.YtlecgoebbjnnmaaKeepsJ
set_option linter.unusedVariables false
set_option linter.unusedSimpArgs false
set_option linter.unusedSectionVars false
set_option linter.constructorNameAsVariable false
set_option maxRecDepth 100000
set_option maxHeartbeats 4000000
namespace Go.Proofs.Ytlecgoebbjnnmaa
open Go
variable [Ref]

def KeepM.other (k : KeepM) (a : ActM) (x e : Int) : KeepM :=
  if a.kind = 1 ∧ e = 0 ∧ 0 ≤ x ∧ x < 12 then { k with used := k.used.set x.toNat true, fresh := k.fresh.set x.toNat true }
  else if a.kind = 3 ∧ e = 0 ∧ (0 ≤ a.n ∧ a.n < 12) ∧ k.fresh.getD a.n.toNat false = true then { k with used := k.used.set a.n.toNat false, fresh := k.fresh.set a.n.toNat false }
  else if a.kind = 3 ∧ e = 0 ∧ (0 ≤ a.n ∧ a.n < 12) then { k with dropped := k.dropped.set a.n.toNat true }
  else if a.kind = 5 then k.settle k.fresh else k

theorem set_get {u : List Bool} {x i : Nat} {b : Bool} (hx : x < u.length) : (u.set x b).getD i false = if i = x then b else u.getD i false := by
  rw [List.getD_eq_getElem?_getD, List.getElem?_set, List.getD_eq_getElem?_getD]
  by_cases e : x = i
  · subst e; simp [hx]
  · rw [if_neg e, if_neg (fun h => e h.symm)]

/-- the power is off: what a keeper notes of its pages does not matter -/
theorem down_lens {i : Nat} {D : DiskM} {p p' : PgM} {k k' : KeepM} (h : Inv i D p k) (hd : Down D p k) (hp : p'.WF 15) (hg : p'.gen = p.gen) (hf : p'.first = p.first) (hpg : p'.pages = p.pages) (hb : p'.broken = p.broken) (hfr : ∀ x ∈ p'.fresh, 0 ≤ x ∧ x < 12)
    (hl : k'.last = k.last) (hn : k'.next = k.next) (hk : Lens k') : Inv (i + 1) D p' k' :=
  ⟨h.wf, hp, h.n, by have := h.pend; omega, by have := h.gen; omega, by rw [hf, h.first], by rw [hpg, h.pages], hfr, hk, .inr ⟨hd.full, hd.off, by rw [hb]; exact hd.broken, by rw [hg, hl]; exact hd.gen, by rw [hl, hn]; exact hd.post, by rw [hl, hn]; exact hd.next⟩⟩
theorem other_lens {k : KeepM} (h : Lens k) (a : ActM) (x e : Int) : Lens (k.other a x e) ∧ (k.other a x e).last = k.last ∧ (k.other a x e).next = k.next := by
  unfold KeepM.other
  split
  · exact ⟨⟨by simp [h.used], h.dropped, by simp [h.fresh]⟩, rfl, rfl⟩
  split
  · exact ⟨⟨by simp [h.used], h.dropped, by simp [h.fresh]⟩, rfl, rfl⟩
  split
  · exact ⟨⟨h.used, by simp [h.dropped], h.fresh⟩, rfl, rfl⟩
  split
  · exact ⟨lens_settle _ _, rfl, rfl⟩
  · exact ⟨h, rfl, rfl⟩

theorem take_inv {i : Nat} {D : DiskM} {p : PgM} {k : KeepM} (h : Inv i D p k) {a : ActM} (ha : a.kind = 1) : Inv (i + 1) D p.take.1 (k.other a p.take.2.1 p.take.2.2) := by
  have hul : p.used.length = 12 := by rw [h.pwf.used, h.pages]
  unfold PgM.take
  cases hl : leastFree p.used with
  | none =>
    dsimp only
    have hk : k.other a 0 3 = k := by
      unfold KeepM.other
      rw [if_neg (fun hh => absurd hh.2.1 (by decide)), if_neg (fun hh => absurd hh.2.1 (by decide)), if_neg (fun hh => absurd hh.2.1 (by decide)), if_neg (by omega)]
    rw [hk]; exact h.more
  | some x =>
    obtain ⟨hx1, hx2⟩ := leastFree_lt hl
    have hx : x < 12 := by omega
    dsimp only
    have hk : k.other a (x : Int) 0 = { k with used := k.used.set x true, fresh := k.fresh.set x true } := by
      unfold KeepM.other
      rw [if_pos ⟨ha, rfl, by omega, by omega⟩]; rfl
    have hmem : ∀ y : Int, y ∈ (if (x : Int) ∈ p.fresh then p.fresh else p.fresh ++ [(x : Int)]) ↔ (y ∈ p.fresh ∨ y = (x : Int)) := by
      intro y
      split
      · rename_i hm
        exact ⟨.inl, fun hh => hh.elim id (fun e => e ▸ hm)⟩
      · simp
    have hwf' : PgM.WF { p with used := p.used.set x true, fresh := if (x : Int) ∈ p.fresh then p.fresh else p.fresh ++ [(x : Int)] } 15 := by
      refine ⟨h.pwf.gen, h.pwf.root, h.pwf.epoch, h.pwf.pages, h.pwf.fit, by simpa using h.pwf.used, h.pwf.dnd, h.pwf.drg, ?_⟩
      show (if (x : Int) ∈ p.fresh then p.fresh else p.fresh ++ [(x : Int)]).Nodup
      split
      · exact h.pwf.fnd
      · rename_i hx
        rw [List.nodup_append]
        exact ⟨h.pwf.fnd, by simp, fun a ha b hb => by simp at hb; subst hb; exact fun e => hx (e ▸ ha)⟩
    have hfr' : ∀ y ∈ (if (x : Int) ∈ p.fresh then p.fresh else p.fresh ++ [(x : Int)]), 0 ≤ y ∧ y < 12 := fun y hy => by
      rcases (hmem y).1 hy with hy | hy
      · exact h.fresh y hy
      · omega
    rcases h.rest with hu | hd
    · rw [hk]
      refine ⟨h.wf, hwf', h.n, by have := h.pend; omega, by have := h.gen; show p.gen ≤ _; omega, h.first, h.pages, hfr', ⟨by simp [h.lens.used], h.lens.dropped, by simp [h.lens.fresh]⟩, .inl ⟨hu.full, hu.off, hu.broken, hu.state, hu.good, hu.next, hu.pend, fun j hj => ?_, ?_, ⟨by simp [h.lens.fresh], fun j hj => ?_, hfr'⟩, hu.kdropped⟩⟩
      · obtain ⟨m1, m2⟩ := hu.mine j hj
        have hne : j ≠ x := fun e => by subst e; rw [m1] at hx2; cases hx2
        refine ⟨by show (p.used.set x true).getD j false = true; rw [set_get hx1, if_neg hne]; exact m1, fun hh => ?_⟩
        rcases (hmem _).1 hh with hh | hh
        · exact m2 hh
        · exact hne (by omega)
      · show k.used.set x true = p.used.set x true
        rw [hu.kused]
      · show (k.fresh.set x true).getD j false = decide ((j : Int) ∈ _)
        rw [set_get (by rw [h.lens.fresh]; exact hx)]
        by_cases e : j = x
        · subst e
          rw [if_pos rfl]; exact (decide_eq_true ((hmem _).2 (.inr rfl))).symm
        · rw [if_neg e, hu.kfresh.says j hj]
          exact decide_eq_decide.2 ⟨fun hh => (hmem _).2 (.inl hh), fun hh => ((hmem _).1 hh).elim id (fun e2 => absurd (by omega) e)⟩
    · exact down_lens h hd hwf' rfl rfl rfl rfl hfr' (other_lens h.lens _ _ _).2.1 (other_lens h.lens _ _ _).2.2 (other_lens h.lens _ _ _).1

theorem drop_inv {i : Nat} {D : DiskM} {p : PgM} {k : KeepM} (h : Inv i D p k) {a : ActM} (ha : a.kind = 3) : Inv (i + 1) D (p.drop a.n).1 (k.other a 0 (p.drop a.n).2) := by
  have hul : p.used.length = 12 := by rw [h.pwf.used, h.pages]
  unfold PgM.drop
  split
  · dsimp only
    have hk : k.other a 0 1 = k := by
      unfold KeepM.other
      rw [if_neg (fun hh => absurd hh.2.1 (by decide)), if_neg (fun hh => absurd hh.2.1 (by decide)), if_neg (fun hh => absurd hh.2.1 (by decide)), if_neg (by omega)]
    rw [hk]; exact h.more
  · rename_i hc
    have ht : takenM p.used a.n = true := by
      cases hq : takenM p.used a.n with
      | true => rfl
      | false => exact absurd (Or.inl hq) hc
    have hnd : a.n ∉ p.dropped := fun hh => hc (Or.inr hh)
    have ht2 := of_decide_eq_true ht
    obtain ⟨x, hxe⟩ : ∃ x : Nat, a.n = (x : Int) := ⟨a.n.toNat, by omega⟩
    have hx : x < 12 := by omega
    have hxt : p.used.getD x false = true := by have := ht2.2.2; rwa [hxe, Int.toNat_natCast] at this
    rw [hxe] at hnd ⊢
    split
    · rename_i hf
      dsimp only
      have hwf' : PgM.WF { p with fresh := p.fresh.erase (x : Int), used := giveM p.used (x : Int) } 15 := ⟨h.pwf.gen, h.pwf.root, h.pwf.epoch, h.pwf.pages, h.pwf.fit, by simpa using h.pwf.used, h.pwf.dnd, h.pwf.drg, h.pwf.fnd.erase _⟩
      have hfr' : ∀ y ∈ p.fresh.erase (x : Int), 0 ≤ y ∧ y < 12 := fun y hy => h.fresh y (List.mem_of_mem_erase hy)
      rcases h.rest with hu | hd
      · have hkf : k.fresh.getD x false = true := by rw [hu.kfresh.says x hx]; exact decide_eq_true hf
        have hk : k.other a 0 0 = { k with used := k.used.set x false, fresh := k.fresh.set x false } := by
          unfold KeepM.other
          rw [if_neg (by omega), if_pos ⟨ha, rfl, by omega, by rw [hxe]; simpa using hkf⟩, hxe]; rfl
        rw [hk]
        refine ⟨h.wf, hwf', h.n, by have := h.pend; omega, by have := h.gen; show p.gen ≤ _; omega, h.first, h.pages, hfr', ⟨by simp [h.lens.used], h.lens.dropped, by simp [h.lens.fresh]⟩, .inl ⟨hu.full, hu.off, hu.broken, hu.state, hu.good, hu.next, hu.pend, fun j hj => ?_, ?_, ⟨by simp [h.lens.fresh], fun j hj => ?_, hfr'⟩, hu.kdropped⟩⟩
        · obtain ⟨m1, m2⟩ := hu.mine j hj
          have hne : ¬ (j : Int) = (x : Int) := fun e => m2 (e ▸ hf)
          refine ⟨by show (giveM p.used (x : Int)).getD j false = true; rw [giveM_get, m1]; simp [hne], fun hh => m2 (List.mem_of_mem_erase hh)⟩
        · show k.used.set x false = giveM p.used (x : Int)
          have : giveM p.used (x : Int) = p.used.set x false := by unfold giveM; rw [if_pos ⟨by omega, by omega, by simpa using hxt⟩]; simp
          rw [this, hu.kused]
        · show (k.fresh.set x false).getD j false = decide ((j : Int) ∈ p.fresh.erase (x : Int))
          rw [set_get (by rw [h.lens.fresh]; exact hx)]
          by_cases e : j = x
          · subst e
            rw [if_pos rfl]; exact (decide_eq_false (List.Nodup.not_mem_erase h.pwf.fnd)).symm
          · have hne : ¬ (j : Int) = (x : Int) := by omega
            rw [if_neg e, hu.kfresh.says j hj]
            exact decide_eq_decide.2 ⟨fun hh => (List.mem_erase_of_ne hne).2 hh, List.mem_of_mem_erase⟩
      · exact down_lens h hd hwf' rfl rfl rfl rfl hfr' (other_lens h.lens _ _ _).2.1 (other_lens h.lens _ _ _).2.2 (other_lens h.lens _ _ _).1
    · rename_i hf
      dsimp only
      have hwf' : PgM.WF { p with dropped := p.dropped ++ [(x : Int)] } 15 := by
        refine ⟨h.pwf.gen, h.pwf.root, h.pwf.epoch, h.pwf.pages, h.pwf.fit, h.pwf.used, ?_, ?_, h.pwf.fnd⟩
        · show (p.dropped ++ [(x : Int)]).Nodup
          rw [List.nodup_append]
          exact ⟨h.pwf.dnd, by simp, fun a ha b hb => by simp at hb; subst hb; exact fun e => hnd (e ▸ ha)⟩
        · intro y hy
          rcases List.mem_append.1 hy with hy | hy
          · exact h.pwf.drg y hy
          · have : y = (x : Int) := by simpa using hy
            have hpg := h.pages
            show 0 ≤ y ∧ y < (p.pages : Int)
            omega
      rcases h.rest with hu | hd
      · have hkf : k.fresh.getD x false = false := by rw [hu.kfresh.says x hx]; exact decide_eq_false hf
        have hk : k.other a 0 0 = { k with dropped := k.dropped.set x true } := by
          unfold KeepM.other
          rw [if_neg (by omega), if_neg (fun hh => by have := hh.2.2.2; rw [hxe, Int.toNat_natCast, hkf] at this; cases this), if_pos ⟨ha, rfl, by omega, by omega⟩, hxe]; rfl
        rw [hk]
        refine ⟨h.wf, hwf', h.n, by have := h.pend; omega, by have := h.gen; show p.gen ≤ _; omega, h.first, h.pages, h.fresh, ⟨h.lens.used, by simp [h.lens.dropped], h.lens.fresh⟩, .inl ⟨hu.full, hu.off, hu.broken, hu.state, hu.good, hu.next, hu.pend, hu.mine, hu.kused, hu.kfresh, ⟨by simp [h.lens.dropped], fun j hj => ?_, fun y hy => ?_⟩⟩⟩
        · show (k.dropped.set x true).getD j false = decide ((j : Int) ∈ p.dropped ++ [(x : Int)])
          rw [set_get (by rw [h.lens.dropped]; exact hx)]
          by_cases e : j = x
          · subst e
            rw [if_pos rfl]; exact (decide_eq_true (by simp)).symm
          · have hne : ¬ (j : Int) = (x : Int) := by omega
            rw [if_neg e, hu.kdropped.says j hj]
            exact decide_eq_decide.2 ⟨fun hh => by simp [hh], fun hh => by simpa [hne] using hh⟩
        · rcases List.mem_append.1 hy with hy | hy
          · exact hu.kdropped.range y hy
          · have : y = (x : Int) := by simpa using hy
            omega
      · exact down_lens h hd hwf' rfl rfl rfl rfl h.fresh (other_lens h.lens _ _ _).2.1 (other_lens h.lens _ _ _).2.2 (other_lens h.lens _ _ _).1

theorem write_inv {i : Nat} {D : DiskM} {p : PgM} {k : KeepM} (h : Inv i D p k) {a : ActM} (ha : a.kind = 2) (b : List UInt8) :
    Inv (i + 1) (p.write D a.n b).2.1 (p.write D a.n b).1 (k.other a 0 (p.write D a.n b).2.2) := by
  have hk : ∀ e, k.other a 0 e = k := fun e => by
    unfold KeepM.other
    rw [if_neg (by omega), if_neg (by omega), if_neg (by omega), if_neg (by omega)]
  rw [hk]
  unfold PgM.write
  split
  · exact h.more
  · rename_i hc
    have hfi : a.n ∈ p.fresh := Decidable.not_not.1 (fun hn => hc (Or.inl hn))
    have hbl : b.length = 256 := Decidable.not_not.1 (fun hn => hc (Or.inr hn))
    split
    · exact h.more
    · rename_i hbr
      rcases h.rest with hu | hd
      · have hr := h.fresh _ hfi
        obtain ⟨x, hxe⟩ : ∃ x : Nat, a.n = (x : Int) := ⟨a.n.toNat, by omega⟩
        rw [hxe] at hfi ⊢
        exact put_up h hu (x := x) (by omega) (fun hh => (hu.mine x hh).2 hfi) hbl
      · exact absurd hd.broken hbr

theorem undo_inv {i : Nat} {D : DiskM} {p : PgM} {k : KeepM} (h : Inv i D p k) {a : ActM} (ha : a.kind = 5) : Inv (i + 1) D p.undo (k.other a 0 0) := by
  have hul : p.used.length = 12 := by rw [h.pwf.used, h.pages]
  have hk : k.other a 0 0 = k.settle k.fresh := by
    unfold KeepM.other
    rw [if_neg (by omega), if_neg (by omega), if_neg (by omega), if_pos ha]
  rw [hk]
  have hwf' : p.undo.WF 15 := giveM_wf h.pwf.settle (by simpa [PgM.settle] using h.pwf.used)
  have hfr' : ∀ y ∈ p.undo.fresh, 0 ≤ y ∧ y < 12 := fun y hy => by cases hy
  rcases h.rest with hu | hd
  · have hg : ∀ j, j < 12 → (undoM p.fresh p.pages p.used).getD j false = (k.used.getD j false && !k.fresh.getD j false) := fun j hj => by
      rw [undoM_get, hu.kused, hu.kfresh.says j hj, h.pages]
      simp [hj]
    refine ⟨h.wf, hwf', h.n, by have := h.pend; omega, by have := h.gen; show p.gen ≤ _; omega, h.first, h.pages, hfr', lens_settle _ _, .inl ⟨hu.full, hu.off, hu.broken, hu.state, hu.good, hu.next, hu.pend, fun j hj => ⟨?_, fun hh => by cases hh⟩, ?_, marks_none, marks_none⟩⟩
    · obtain ⟨m1, m2⟩ := hu.mine j hj
      have hj12 := hu.good.range j hj
      show (undoM p.fresh p.pages p.used).getD j false = true
      rw [undoM_get, m1]; simp [m2]
    · show (List.range 12).map (fun i => k.used.getD i false && !k.fresh.getD i false) = undoM p.fresh p.pages p.used
      exact marks_list (by simpa using hul) (fun j hj => (hg j hj).symm)
  · exact down_lens h hd hwf' rfl rfl rfl rfl hfr' rfl rfl (lens_settle _ _)

theorem other_inv {i : Nat} {D : DiskM} {p : PgM} {k : KeepM} (h : Inv i D p k) {a : ActM} (ha : a.kind = 1 ∨ a.kind = 2 ∨ a.kind = 3 ∨ a.kind = 5) :
    Inv (i + 1) (playM p D a).2.1 (playM p D a).1 (k.other a (playM p D a).2.2.1 (playM p D a).2.2.2) := by
  unfold playM
  split
  · rename_i hk; exact take_inv h hk
  split
  · rename_i hk; exact write_inv h hk _
  split
  · rename_i hk; exact drop_inv h hk
  split
  · omega
  split
  · rename_i hk; exact undo_inv h hk
  · omega

/-! ## Crashes -/
def maskOf (pages : List Nat) : List Bool := (List.range 12).map fun i => decide (i ∈ pages)
theorem only_mask : ∀ (l : List Nat) (t : List Bool), l.Nodup → (∀ x ∈ l, x < 12) → t.length = 12 → (∀ x ∈ l, t.getD x false = false) → onlyM (l.map fun x : Nat => (x : Int)) t = some ((List.range 12).map fun i => t.getD i false || decide (i ∈ l))
  | [], t, _, _, ht, _ => by
    simp only [List.map_nil, onlyM, Option.some.injEq]
    exact (marks_list ht (fun i hi => by simp)).symm
  | x :: r, t, hn, hr, ht, hf => by
    have hx := hr x (by simp)
    obtain ⟨n1, n2⟩ := List.nodup_cons.1 hn
    simp only [List.map_cons, onlyM]
    rw [if_pos ⟨by omega, by omega, by have := hf x (by simp); simpa using this⟩, Int.toNat_natCast]
    rw [only_mask r (t.set x true) n2 (fun y hy => hr y (by simp [hy])) (by simpa using ht) (fun y hy => by
      rw [set_get (by omega), if_neg (fun e : y = x => n1 (e ▸ hy))]; exact hf y (by simp [hy]))]
    congr 1
    apply List.map_congr_left
    intro i hi
    rw [set_get (by omega)]
    by_cases e : i = x
    · subst e; simp
    · simp [e]
theorem mask_only {l : List Nat} (hn : l.Nodup) (hr : ∀ x ∈ l, x < 12) : onlyM (l.map fun x : Nat => (x : Int)) (List.replicate 12 false) = some (maskOf l) := by
  rw [only_mask l _ hn hr (by simp) (fun x hx => by rw [List.getD_eq_getElem?_getD, List.getElem?_replicate]; split <;> rfl)]
  unfold maskOf
  refine congrArg some (List.map_congr_left (fun i hi => ?_))
  rw [List.getD_eq_getElem?_getD, List.getElem?_replicate]
  split <;> simp
theorem mask_get {l : List Nat} {i : Nat} (hi : i < 12) : (maskOf l).getD i false = decide (i ∈ l) := by
  unfold maskOf
  rw [List.getD_eq_getElem?_getD, List.getElem?_map, List.getElem?_range hi]; rfl

theorem crash_good {i : Nat} {D : DiskM} {p : PgM} {k : KeepM} (h : Inv i D p k) (keep : List Bool) : Good (D.crash keep).now k.next ∨ (Good (D.crash keep).now k.last ∧ k.next.gen ≠ k.last.gen) := by
  rcases h.rest with hu | hd
  · rw [hu.next]
    exact .inl (crash_last h.wf h.n hu.full hu.good hu.pend keep)
  · exact hd.post keep

theorem crash_inv {i : Nat} {D : DiskM} {p : PgM} {k : KeepM} (h : Inv i D p k) (hi : i ≤ 1000) (keep : List Bool) {s : SnapM} (hs : s = k.next ∨ s = k.last) (hg : Good (D.crash keep).now s) (hpw : (openM (D.crash keep) 1 14).WF 15) :
    Inv (i + 1) (D.crash keep) { openM (D.crash keep) 1 14 with used := maskOf s.pages } { last := s, next := s, used := maskOf s.pages, dropped := List.replicate 12 false, fresh := List.replicate 12 false } := by
  have hge := h.gen
  have hfull : D.Full := by rcases h.rest with hu | hd; exact hu.full; exact hd.full
  have hev := crash_even h.wf hfull keep
  have hsg : s.gen ≤ i + 1 := by
    rcases h.rest with hu | hd
    · rcases hs with rfl | rfl
      · rw [hu.next, ← hu.state.1]; omega
      · rw [← hu.state.1]; omega
    · have := hd.gen
      rcases hs with rfl | rfl
      · rcases hd.next with hn | hn
        · rw [hn]; omega
        · omega
      · omega
  have hml : (maskOf s.pages).length = 12 := by simp [maskOf]
  have ho := openM_heads (D.crash keep)
  rw [hg.heads] at ho
  refine ⟨crash_wf h.wf keep, giveM_wf hpw (by rw [hml, ho]), h.n, by show ([] : List PieceM).length ≤ _; simp, by rw [ho]; exact hsg, by rw [ho], by rw [ho], (by rw [ho]; intro x hx; cases hx), ⟨hml, by simp, by simp⟩, .inl ⟨hev.2, rfl, by rw [ho], by rw [ho]; exact ⟨rfl, rfl, rfl⟩, by rw [← hev.1]; exact hg, rfl, (fun q hq => by cases hq), fun j hj => ⟨?_, (by rw [ho]; intro hh; cases hh)⟩, rfl, (by rw [ho]; exact marks_none), (by rw [ho]; exact marks_none)⟩⟩
  show (maskOf s.pages).getD j false = true
  rw [mask_get (hg.range j hj)]; exact decide_eq_true hj
end Go.Proofs.Ytlecgoebbjnnmaa

