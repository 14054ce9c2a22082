/- What stands between two acts: plain. -/
import Derived.Test.YtlecgoebbjnnmaaKeepsH
set_option linter.unusedVariables false
set_option linter.unusedSimpArgs false
set_option linter.unusedSectionVars false
set_option linter.constructorNameAsVariable false
set_option maxRecDepth 100000
set_option maxHeartbeats 4000000
namespace Go.Proofs.Ytlecgoebbjnnmaa
open Go
variable [Ref]

structure SnapM where
  gen : Nat
  root : Int
  epoch : Nat
  pages : List Nat
  bytes : List (List UInt8)

/-- these bytes tell just that state, and its pages -/
structure Good (x : List UInt8) (s : SnapM) : Prop where
  heads : headsOf x = (s.gen, s.root, s.epoch)
  pages : ∀ j (h : j < s.pages.length), blockOf x (3 + s.pages[j]) = s.bytes.getD j []
  range : ∀ i ∈ s.pages, i < 12
  nodup : s.pages.Nodup
  len : s.bytes.length = s.pages.length
def Post (x : List UInt8) (last next : SnapM) : Prop := Good x next ∨ (Good x last ∧ next.gen ≠ last.gen)

theorem Good.congr {x y : List UInt8} {s : SnapM} (h : Good x s) (h1 : (blockOf y 1).take 64 = (blockOf x 1).take 64) (h2 : (blockOf y 2).take 64 = (blockOf x 2).take 64) (h3 : ∀ i ∈ s.pages, blockOf y (3 + i) = blockOf x (3 + i)) : Good y s :=
  ⟨by rw [headsOf_congr h1 h2]; exact h.heads, fun j hj => by rw [h3 _ (List.getElem_mem hj)]; exact h.pages j hj, h.range, h.nodup, h.len⟩

structure KeepM where
  last : SnapM
  next : SnapM
  used : List Bool
  dropped : List Bool
  fresh : List Bool

/-- a list of marks says of the pages what a list of numbers says -/
structure Marks (l : List Bool) (ns : List Int) : Prop where
  len : l.length = 12
  says : ∀ i, i < 12 → l.getD i false = decide ((i : Int) ∈ ns)
  range : ∀ x ∈ ns, 0 ≤ x ∧ x < 12

structure Lens (k : KeepM) : Prop where
  used : k.used.length = 12
  dropped : k.dropped.length = 12
  fresh : k.fresh.length = 12

structure Up (D : DiskM) (p : PgM) (k : KeepM) : Prop where
  full : D.Full
  off : D.off = false
  broken : p.broken = false
  state : p.gen = k.last.gen ∧ p.root = k.last.root ∧ p.epoch = k.last.epoch
  good : Good D.safe k.last
  next : k.next = k.last
  pend : ∀ q ∈ D.pend, ∃ i, q.blk = 3 + i ∧ i ∉ k.last.pages
  mine : ∀ i ∈ k.last.pages, p.used.getD i false = true ∧ (i : Int) ∉ p.fresh
  kused : k.used = p.used
  kfresh : Marks k.fresh p.fresh
  kdropped : Marks k.dropped p.dropped

structure Down (D : DiskM) (p : PgM) (k : KeepM) : Prop where
  full : D.Full
  off : D.off = true
  broken : p.broken = true
  gen : p.gen = k.last.gen
  post : ∀ keep, Post (D.crash keep).now k.last k.next
  next : k.next = k.last ∨ k.next.gen = k.last.gen + 1

structure Inv (i : Nat) (D : DiskM) (p : PgM) (k : KeepM) : Prop where
  wf : D.WF
  pwf : p.WF 15
  n : D.n = 15
  pend : D.pend.length ≤ 8 * i
  gen : p.gen ≤ i
  first : p.first = 1
  pages : p.pages = 12
  fresh : ∀ x ∈ p.fresh, 0 ≤ x ∧ x < 12
  lens : Lens k
  rest : Up D p k ∨ Down D p k

theorem Inv.more {i : Nat} {D : DiskM} {p : PgM} {k : KeepM} (h : Inv i D p k) : Inv (i + 1) D p k := ⟨h.wf, h.pwf, h.n, by have := h.pend; omega, by have := h.gen; omega, h.first, h.pages, h.fresh, h.lens, h.rest⟩

/-- a crash of what stands above keeps the last state -/
theorem crash_last {D : DiskM} {s : SnapM} (hw : D.WF) (hn : D.n = 15) (hf : D.Full) (hg : Good D.safe s) (hp : ∀ q ∈ D.pend, ∃ i, q.blk = 3 + i ∧ i ∉ s.pages) (keep : List Bool) : Good (D.crash keep).now s := by
  rw [(crash_even hw hf keep).1]
  have key : ∀ b, (∀ q ∈ D.pend, q.blk ≠ b) → blockOf (D.crash keep).safe b = blockOf D.safe b := fun b hb => keepSafe_other _ D.n b _ _ _ hw.safe hw.pend hb
  refine hg.congr ?_ ?_ (fun i hi => ?_)
  · rw [key 1 (fun q hq e => by obtain ⟨i, e1, _⟩ := hp q hq; omega)]
  · rw [key 2 (fun q hq e => by obtain ⟨i, e1, _⟩ := hp q hq; omega)]
  · exact key _ (fun q hq e => by obtain ⟨j, e1, e2⟩ := hp q hq; have : j = i := by omega
                                  subst this; exact e2 hi)
theorem power_down {D : DiskM} (h : D.off = true) : D.power = (D, false) := by
  unfold DiskM.power
  rw [if_pos (Or.inl h)]
  obtain ⟨n, now, safe, pend, fused, left, off⟩ := D
  simp only at h
  subst h; rfl
/-- either the power is there, or it goes -/
theorem power_cases (D : DiskM) (h : D.off = false) : (D.power.2 = true ∧ D.power.1.off = false) ∨ (D.power.2 = false ∧ D.power.1 = { D with off := true }) := by
  unfold DiskM.power
  split
  · exact .inr ⟨rfl, rfl⟩
  · exact .inl ⟨rfl, h⟩
theorem crash_off (D : DiskM) (b : Bool) (keep : List Bool) : ({ D with off := b } : DiskM).crash keep = D.crash keep := rfl
theorem crash_power (D : DiskM) (keep : List Bool) : (D.power.1.crash keep).now = (D.crash keep).now ∧ (D.power.1.crash keep).safe = (D.crash keep).safe := by
  unfold DiskM.power
  split <;> exact ⟨rfl, rfl⟩
theorem full_power {D : DiskM} (h : D.Full) : D.power.1.Full := by
  unfold DiskM.power
  split <;> exact h

/-- a page is written -/
theorem put_up {i : Nat} {D : DiskM} {p : PgM} {k : KeepM} (h : Inv i D p k) (hu : Up D p k) {x : Nat} (hx : x < 12) (hxl : x ∉ k.last.pages) {b : List UInt8} (hb : b.length = 256) :
    Inv (i + 1) (p.put D (2 + x) b).2.1 (p.put D (2 + x) b).1 k := by
  have hi : 0 ≤ (p.first : Int) + (2 + x) ∧ (p.first : Int) + (2 + x) < D.n := by rw [h.first, h.n]; omega
  have hto : ((p.first : Int) + (2 + x)).toNat = 3 + x := by rw [h.first]; omega
  have hpe := h.pend
  have hge := h.gen
  rcases power_cases D hu.off with ⟨c1, c2⟩ | ⟨c1, c2⟩
  · have hw : D.write (p.first + (2 + x)) b = (D.power.1.lay (3 + x) b, 0) := by unfold DiskM.write; rw [if_pos ⟨hi.1, hi.2, hb⟩, if_pos c1, hto]
    have hps := power_same D
    have hp : p.put D (2 + x) b = (p, D.power.1.lay (3 + x) b, 0) := by
      unfold PgM.put
      rw [hw]
      have hbr := hu.broken
      have : ({ p with broken := decide ((0 : Int) ≠ 0) } : PgM) = p := by
        obtain ⟨_, _, _, _, _, _, _, _, br⟩ := p
        simp only at hbr
        subst hbr; rfl
      rw [this]
    rw [hp]
    have hn' : 3 + x < D.power.1.n := by rw [hps.1, h.n]; omega
    refine ⟨lay_wf (power_wf h.wf) hn' hb, h.pwf, by show D.power.1.n = 15; rw [hps.1, h.n], ?_, by show p.gen ≤ i + 1; omega, h.first, h.pages, h.fresh, h.lens, .inl ⟨Full.lay (power_wf h.wf) (full_power hu.full) hn' hb, c2, hu.broken, hu.state, ?_, hu.next, ?_, hu.mine, hu.kused, hu.kfresh, hu.kdropped⟩⟩
    · show (D.power.1.pend ++ piecesOf (3 + x) b 4).length ≤ _
      rw [hps.2.2.2.1]
      simp [piecesOf]; omega
    · show Good D.power.1.safe k.last
      rw [hps.2.2.1]; exact hu.good
    · intro q hq
      rcases List.mem_append.1 (show q ∈ D.power.1.pend ++ piecesOf (3 + x) b 4 from hq) with hq | hq
      · rw [hps.2.2.2.1] at hq; exact hu.pend q hq
      · rw [pieces4] at hq
        simp only [List.mem_cons, List.not_mem_nil, or_false] at hq
        rcases hq with rfl | rfl | rfl | rfl <;> exact ⟨x, rfl, hxl⟩
  · have hw : D.write (p.first + (2 + x)) b = ({ D with off := true }, 9) := by unfold DiskM.write; rw [if_pos ⟨hi.1, hi.2, hb⟩, if_neg (by simp [c1]), c2]
    have hp : p.put D (2 + x) b = ({ p with broken := true }, { D with off := true }, 9) := by
      unfold PgM.put
      rw [hw]; rfl
    rw [hp]
    refine ⟨⟨h.wf.n1, h.wf.n2, h.wf.now, h.wf.safe, h.wf.pend, h.wf.left⟩, h.pwf.broken _, h.n, by show D.pend.length ≤ _; omega, by show p.gen ≤ _; omega, h.first, h.pages, h.fresh, h.lens, .inr ⟨hu.full, rfl, rfl, hu.state.1, fun keep => ?_, .inl hu.next⟩⟩
    rw [hu.next]
    exact .inl (crash_last h.wf h.n hu.full hu.good hu.pend keep)

/-- while the power is off nothing happens on the disk -/
theorem write_down {D : DiskM} (h : D.off = true) (i : Int) (b : List UInt8) : (D.write i b).1 = D := by
  unfold DiskM.write
  split
  · rw [power_down h]; simp
  · rfl
theorem flush_down {D : DiskM} (h : D.off = true) : D.flush = (D, 9) := by
  unfold DiskM.flush
  rw [power_down h]; simp

theorem fuse_inv {i : Nat} {D : DiskM} {p : PgM} {k : KeepM} (h : Inv i D p k) {n : Int} (hn : n ≤ 9223372036854775807) : Inv (i + 1) (D.fuse n) p k := by
  have hw := fuse_wf h.wf hn
  have hpe := h.pend
  have hge := h.gen
  have hs : (D.fuse n).n = D.n ∧ (D.fuse n).pend = D.pend ∧ (D.fuse n).off = D.off ∧ (D.fuse n).safe = D.safe ∧ (D.fuse n).now = D.now := by unfold DiskM.fuse; split <;> exact ⟨rfl, rfl, rfl, rfl, rfl⟩
  have hfull : D.Full → (D.fuse n).Full := fun hf => by
    show keepSafe _ 0 (D.fuse n).pend (D.fuse n).safe = (D.fuse n).now
    rw [hs.2.1, hs.2.2.2.1, hs.2.2.2.2]; exact hf
  refine ⟨hw, h.pwf, by rw [hs.1, h.n], by rw [hs.2.1]; omega, by omega, h.first, h.pages, h.fresh, h.lens, ?_⟩
  rcases h.rest with hu | hd
  · exact .inl ⟨hfull hu.full, by rw [hs.2.2.1]; exact hu.off, hu.broken, hu.state, by rw [hs.2.2.2.1]; exact hu.good, hu.next, by rw [hs.2.1]; exact hu.pend, hu.mine, hu.kused, hu.kfresh, hu.kdropped⟩
  · have : D.fuse n = D := by unfold DiskM.fuse; rw [if_pos hd.off]
    rw [this]; exact .inr hd

/-- the state that a commit would make -/
def wantPages (k : KeepM) (p : PgM) (D : DiskM) (n : Nat) : List Nat := (List.range n).filter fun i => k.used.getD i false && !k.dropped.getD i false && decide ((p.read D i).2 = 0)
def wantM (k : KeepM) (p : PgM) (D : DiskM) (root : Int) (epoch : Nat) : SnapM := { gen := p.gen + 1, root, epoch, pages := wantPages k p D 12, bytes := (wantPages k p D 12).map fun (i : Nat) => (p.read D i).1 }

def KeepM.settle (k : KeepM) (gone : List Bool) : KeepM := { k with used := (List.range 12).map (fun i => k.used.getD i false && !gone.getD i false), dropped := List.replicate 12 false, fresh := List.replicate 12 false }
def KeepM.commit (k : KeepM) (p : PgM) (D : DiskM) (root : Int) (epoch : Nat) (e : Int) : KeepM :=
  if e = 0 then { ({ k with last := wantM k p D root epoch, next := wantM k p D root epoch } : KeepM).settle k.dropped with }
  else if e = 9 ∧ k.next.gen ≤ k.last.gen then { k with next := wantM k p D root epoch } else k
end Go.Proofs.Ytlecgoebbjnnmaa

