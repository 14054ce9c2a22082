/- The arguments at the start, read as plain data. -/
import Derived.Test.YtlecgoebbjnnmaaLaw3
import Derived.Test.YtlecgoebbjnnmaaStart
import Derived.ChangeArms
import Derived.OpenShut
set_option linter.unusedVariables false
set_option linter.unusedSimpArgs false
set_option linter.unusedSectionVars false
set_option linter.constructorNameAsVariable false
set_option maxRecDepth 100000
set_option maxHeartbeats 4000000
namespace Go.Proofs.Ytlecgoebbjnnmaa
open Go Go.RowKit

theorem cells_raw {w : World} {a : Addr} {n : Nat} {cs : List Value} (h : w.cells? 0 a n = some cs) (hn : 0 < n) :
    a.spot = none ∧ ∃ arr T fr, w.heap[a.block]? = some (.cells arr T fr) ∧ a.off + n ≤ arr.size ∧ cs = (arr.toList.drop a.off).take n := by
  unfold World.cells? at h
  rw [if_pos (Nat.zero_le _)] at h
  have hlen := mapM_some_length h
  have hget := fun i (hi : i < n) => mapM_some_get h i i (by simp [hi])
  simp only [List.length_range] at hlen
  have h0 := hget 0 hn
  rw [show a.add 0 = a by simp [Addr.add], List.getElem?_eq_getElem (by omega)] at h0
  unfold World.cell? at h0
  cases hb : w.heap[a.block]? with
  | none => rw [hb] at h0; cases h0
  | some o =>
    rw [hb] at h0
    have ho : ∃ arr T fr, o = .cells arr T fr := by cases o <;> first | exact ⟨_, _, _, rfl⟩ | cases h0
    obtain ⟨arr, T, fr, rfl⟩ := ho
    · simp only at h0
      by_cases hsp : a.spot.isSome = true
      · rw [if_pos hsp] at h0; cases h0
      · have hsp' : a.spot = none := by simpa using hsp
        have each : ∀ i, i < n → arr[a.off + i]? = cs[i]? := by
          intro i hi
          rw [← hget i hi]
          by_cases h0i : i = 0
          · subst h0i
            simp [Addr.add, World.cell?, hb, hsp']
          · simp [Addr.add, h0i, World.cell?, hb]
        refine ⟨hsp', arr, T, fr, rfl, ?_, ?_⟩
        · have := each (n - 1) (by omega)
          rw [List.getElem?_eq_getElem (by omega)] at this
          have := (Array.getElem?_eq_some_iff.1 this).1
          omega
        · apply List.ext_getElem?
          intro i
          by_cases hi : i < n
          · rw [List.getElem?_take, if_pos hi, List.getElem?_drop, ← each i hi]; simp
          · rw [List.getElem?_eq_none (by omega), List.getElem?_eq_none (by simp; omega)]

theorem choose_list {α : Type} {p : Nat → α → Prop} : ∀ (n : Nat), (∀ i, i < n → ∃ y, p i y) → ∃ l : List α, l.length = n ∧ ∀ i (h : i < l.length), p i l[i]
  | 0, _ => ⟨[], rfl, fun i h => by simp at h⟩
  | n + 1, h => by
    obtain ⟨l, hl, hp⟩ := choose_list n (fun i hi => h i (by omega))
    obtain ⟨y, hy⟩ := h n (by omega)
    refine ⟨l ++ [y], by simp [hl], fun i hi => ?_⟩
    by_cases e : i < n
    · rw [List.getElem_append_left (by omega)]; exact hp i (by omega)
    · have : i = n := by simp at hi; omega
      subst this
      rw [List.getElem_append_right (by omega)]
      simpa [hl] using hy

section
variable {H : Type} {enc : TypeId × Value → H} {w : World} {fuel : Nat} {cs : List Value} {x : DataW H × List MemPlace}

theorem slice_in {P : Program} {t e sz : Nat} (hu : P.underlying t = some (.slice e)) (hc : P.cellsOf e = sz) (h0 : 0 < sz) (h : DataW.trod enc P w 0 (fun _ => true) true fuel t cs = some x) :
    ∃ (a : Option Addr) (len cap : Nat), cs = [.slice a len cap] ∧ len ≤ cap ∧ cap ≤ maxLen ∧ (len = 0 ∨ ∃ (b o : Nat) (arr : List Value) (n : Nat), a = some ⟨b, o, none⟩ ∧ CellsAt (allRaw w) b arr ∧ o + len * sz ≤ arr.length ∧
      ∀ i, i < len → ∃ y, DataW.trod enc P w 0 (fun _ => true) true n e ((arr.drop (o + i * sz)).take sz) = some y) := by
  rcases DataW.trod_slice hu h with ⟨rfl, _⟩ | ⟨a, len, cap, elems, rest, n, _, rfl, _, _, hl, hm, hlen, hel, _, _⟩
  · exact ⟨none, 0, 0, rfl, Nat.le_refl _, Nat.zero_le _, .inl rfl⟩
  refine ⟨some a, len, cap, rfl, hl, hm, ?_⟩
  rcases Nat.eq_zero_or_pos len with h1 | h1
  · exact .inl h1
  refine .inr ?_
  have each : ∀ i, i < len → ∃ c y, w.cells? 0 (a.add (i * sz)) sz = some c ∧ DataW.trod enc P w 0 (fun _ => true) true n e c = some y := by
    intro i hi
    have h2 := hel i hi
    rw [hc, List.getElem?_eq_getElem (by omega)] at h2
    obtain ⟨c, h3, h4⟩ := Option.bind_eq_some_iff.1 h2
    exact ⟨c, _, h3, h4⟩
  obtain ⟨c0, y0, hc0, _⟩ := each 0 h1
  rw [Nat.zero_mul, show a.add 0 = a by simp [Addr.add]] at hc0
  obtain ⟨hsp, arr, T, fr, hb, _, _⟩ := cells_raw hc0 h0
  obtain ⟨b, o, sp⟩ := a
  simp only at hsp hb
  subst hsp
  have hblt : b < w.heap.size := (Array.getElem?_eq_some_iff.1 hb).1
  have hraw : rawAt w b = .raw b (.cells arr T fr) := by unfold rawAt; rw [hb]; rfl
  have hadd : ∀ i, (⟨b, o, none⟩ : Addr).add i = ⟨b, o + i, none⟩ := fun i => by unfold Addr.add; split <;> simp_all
  have each2 : ∀ i, i < len → o + i * sz + sz ≤ arr.size ∧ ∃ y, DataW.trod enc P w 0 (fun _ => true) true n e ((arr.toList.drop (o + i * sz)).take sz) = some y := by
    intro i hi
    obtain ⟨c, y, h3, h4⟩ := each i hi
    rw [hadd] at h3
    obtain ⟨_, arr2, T2, fr2, hb2, hsz, rfl⟩ := cells_raw h3 h0
    simp only at hb2 hsz
    rw [hb] at hb2
    cases hb2
    exact ⟨hsz, y, h4⟩
  refine ⟨b, o, arr.toList, n, rfl, .inr ⟨T, fr, by have := rawAt_mem hblt; rw [hraw] at this; simpa using this⟩, ?_, fun i hi => (each2 i hi).2⟩
  have := (each2 (len - 1) (by omega)).1
  have h5 : (len - 1) * sz + sz = len * sz := by rw [← Nat.succ_mul]; congr 1; omega
  simp only [Array.length_toList]
  omega

theorem take_map {α : Type} {f : α → Value} {arr : List Value} {o len : Nat} {l : List α} (hl : l.length = len) (ho : o + len ≤ arr.length) (h : ∀ i (hi : i < l.length), arr[o + i]? = some (f l[i])) : (arr.drop o).take len = l.map f := by
  apply List.ext_getElem?
  intro i
  by_cases hi : i < len
  · rw [List.getElem?_take, if_pos hi, List.getElem?_drop, h i (by omega), List.getElem?_map, List.getElem?_eq_getElem (by omega)]; rfl
  · rw [List.getElem?_eq_none (by simp; omega), List.getElem?_eq_none (by simp; omega)]

theorem one_cell {arr : List Value} {k : Nat} {v : Value} (h : (arr.drop k).take 1 = [v]) : arr[k]? = some v := by
  have h1 : ((arr.drop k).take 1)[0]? = some v := by rw [h]; rfl
  rw [List.getElem?_take, if_pos (by omega), List.getElem?_drop] at h1
  simpa using h1

theorem bytes_in (h : DataW.trod enc Try.prog w 0 (fun _ => true) true fuel 38 cs = some x) : ∃ v bs, cs = [v] ∧ BytesIn (allRaw w) v bs ∧ bs.length ≤ maxLen := by
  obtain ⟨a, len, cap, rfl, hl, hm, h0 | ⟨b, o, arr, n, rfl, hca, ho, he⟩⟩ := slice_in Try.underlying38 (sz := 1) (by kernel_rfl) (by decide) h
  · subst h0; exact ⟨_, [], rfl, .none, Nat.zero_le _⟩
  · simp only [Nat.mul_one] at ho he
    obtain ⟨bs, hbl, hbp⟩ := choose_list (α := UInt8) (p := fun i y => arr[o + i]? = some (vb y)) len (fun i hi => by
      obtain ⟨y, hy⟩ := he i hi
      obtain ⟨z, hz, _, hw⟩ := DataW.trod_int Try.underlying5 hy
      have hz' : 0 ≤ z ∧ z < 256 := by
        simp only [Lit.wf, Bool.and_eq_true, decide_eq_true_eq] at hw
        have h1 : IntKind.min .u8 = 0 := by decide
        have h2 : IntKind.max .u8 = 255 := by decide
        omega
      refine ⟨UInt8.ofNat z.toNat, ?_⟩
      rw [one_cell hz]
      simp only [vb, UInt8.toNat_ofNat']
      congr 2
      omega)
    refine ⟨_, bs, rfl, ?_, by omega⟩
    exact .mk (b := b) (o := o) (cs := arr) hbl hl hca ho (take_map hbl ho hbp)
theorem ints_in (h : DataW.trod enc Try.prog w 0 (fun _ => true) true fuel 57 cs = some x) : ∃ v l, cs = [v] ∧ IntsIn (allRaw w) l v := by
  obtain ⟨a, len, cap, rfl, hl, hm, h0 | ⟨b, o, arr, n, rfl, hca, ho, he⟩⟩ := slice_in Try.underlying57 (sz := 1) (by kernel_rfl) (by decide) h
  · subst h0; exact ⟨_, [], rfl, .none rfl⟩
  · simp only [Nat.mul_one] at ho he
    obtain ⟨bs, hbl, hbp⟩ := choose_list (α := Int) (p := fun i y => arr[o + i]? = some (.int .i64 y)) len (fun i hi => by
      obtain ⟨y, hy⟩ := he i hi
      obtain ⟨z, hz, _, hw⟩ := DataW.trod_int Try.underlying3 hy
      exact ⟨z, one_cell hz⟩)
    subst hbl
    exact ⟨_, bs, rfl, .mk (b := b) (o := o) (cs := arr) hl hca ho (take_map rfl ho hbp)⟩
theorem bools_in (h : DataW.trod enc Try.prog w 0 (fun _ => true) true fuel 45 cs = some x) : ∃ v l, cs = [v] ∧ BoolsIn (allRaw w) v l := by
  obtain ⟨a, len, cap, rfl, hl, hm, h0 | ⟨b, o, arr, n, rfl, hca, ho, he⟩⟩ := slice_in Try.underlying45 (sz := 1) (by kernel_rfl) (by decide) h
  · subst h0; exact ⟨_, [], rfl, .none⟩
  · simp only [Nat.mul_one] at ho he
    obtain ⟨bs, hbl, hbp⟩ := choose_list (α := Bool) (p := fun i y => arr[o + i]? = some (.bool y)) len (fun i hi => by
      obtain ⟨y, hy⟩ := he i hi
      obtain ⟨z, hz, _⟩ := DataW.trod_bool Try.underlying4 hy
      exact ⟨z, one_cell hz⟩)
    exact ⟨_, bs, rfl, .mk (b := b) (o := o) (cs := arr) hbl hl hca ho (take_map hbl ho hbp)⟩

theorem struct_get {P : Program} {t : Nat} {fs : Array Field} (hu : P.underlying t = some (.struct fs)) (h : DataW.trod enc P w 0 (fun _ => true) true fuel t cs = some x) :
    ∃ n, cs.length = P.cellsOf t ∧ ∀ (i : Nat) (f : Field), fs[i]? = some f → ∃ y, DataW.trod enc P w 0 (fun _ => true) true n f.type ((cs.drop f.offset).take (P.cellsOf f.type)) = some y := by
  obtain ⟨xs, n, _, _, hlen, hxs, hf⟩ := DataW.trod_struct hu h
  refine ⟨n, hlen, fun i f hi => ?_⟩
  have h1 := hf i f hi
  have hlt : i < xs.length := by rw [hxs]; exact (Array.getElem?_eq_some_iff.1 hi).1
  rw [List.getElem?_eq_getElem hlt] at h1
  exact ⟨_, h1⟩
theorem take1_drop {c7 : List Value} {k : Nat} {v : Value} (h : (c7.drop k).take 1 = [v]) : c7[k]? = some v := one_cell h
theorem act_in {c7 : List Value} (h : DataW.trod enc Try.prog w 0 (fun _ => true) true fuel 59 c7 = some x) : ∃ a, ActCells (allRaw w) a c7 := by
  obtain ⟨n, hlen, get⟩ := struct_get Try.underlying59 h
  have c1 : Try.prog.cellsOf 3 = 1 := by kernel_rfl
  have c2 : Try.prog.cellsOf 38 = 1 := by kernel_rfl
  have c3 : Try.prog.cellsOf 4 = 1 := by kernel_rfl
  have c4 : Try.prog.cellsOf 57 = 1 := by kernel_rfl
  have c5 : Try.prog.cellsOf 45 = 1 := by kernel_rfl
  have c7l : Try.prog.cellsOf 59 = 7 := by kernel_rfl
  rw [c7l] at hlen
  have f0 : ∃ y, DataW.trod enc Try.prog w 0 (fun _ => true) true n 3 ((c7.drop 0).take (Try.prog.cellsOf 3)) = some y := get 0 _ rfl
  rw [c1] at f0
  obtain ⟨y0, g0⟩ := f0
  have f1 : ∃ y, DataW.trod enc Try.prog w 0 (fun _ => true) true n 3 ((c7.drop 1).take (Try.prog.cellsOf 3)) = some y := get 1 _ rfl
  rw [c1] at f1
  obtain ⟨y1, g1⟩ := f1
  have f2 : ∃ y, DataW.trod enc Try.prog w 0 (fun _ => true) true n 3 ((c7.drop 2).take (Try.prog.cellsOf 3)) = some y := get 2 _ rfl
  rw [c1] at f2
  obtain ⟨y2, g2⟩ := f2
  have f3 : ∃ y, DataW.trod enc Try.prog w 0 (fun _ => true) true n 38 ((c7.drop 3).take (Try.prog.cellsOf 38)) = some y := get 3 _ rfl
  rw [c2] at f3
  obtain ⟨y3, g3⟩ := f3
  have f4 : ∃ y, DataW.trod enc Try.prog w 0 (fun _ => true) true n 4 ((c7.drop 4).take (Try.prog.cellsOf 4)) = some y := get 4 _ rfl
  rw [c3] at f4
  obtain ⟨y4, g4⟩ := f4
  have f5 : ∃ y, DataW.trod enc Try.prog w 0 (fun _ => true) true n 57 ((c7.drop 5).take (Try.prog.cellsOf 57)) = some y := get 5 _ rfl
  rw [c4] at f5
  obtain ⟨y5, g5⟩ := f5
  have f6 : ∃ y, DataW.trod enc Try.prog w 0 (fun _ => true) true n 45 ((c7.drop 6).take (Try.prog.cellsOf 45)) = some y := get 6 _ rfl
  rw [c5] at f6
  obtain ⟨y6, g6⟩ := f6
  obtain ⟨kind, e0, _, _⟩ := DataW.trod_int Try.underlying3 g0
  obtain ⟨nn, e1, _, hw⟩ := DataW.trod_int Try.underlying3 g1
  obtain ⟨m, e2, _, _⟩ := DataW.trod_int Try.underlying3 g2
  obtain ⟨vb, b, e3, hb, _⟩ := bytes_in g3
  obtain ⟨sh, e4, _⟩ := DataW.trod_bool Try.underlying4 g4
  obtain ⟨vl, l, e5, hl⟩ := ints_in g5
  obtain ⟨vk, k, e6, hk⟩ := bools_in g6
  have hc7 : c7 = [.int .i64 kind, .int .i64 nn, .int .i64 m, vb, .bool sh, vl, vk] := by
    apply List.ext_getElem?
    intro i
    rcases i with _ | _ | _ | _ | _ | _ | _ | i
    · exact one_cell e0
    · exact one_cell e1
    · exact one_cell e2
    · exact one_cell e3
    · exact one_cell e4
    · exact one_cell e5
    · exact one_cell e6
    · rw [List.getElem?_eq_none (by omega), List.getElem?_eq_none (by simp)]
  refine ⟨⟨kind, nn, m, b, sh, l, k⟩, hc7 ▸ .mk hb hl hk ?_⟩
  simp only [Lit.wf, Bool.and_eq_true, decide_eq_true_eq] at hw
  have h1 : IntKind.min .i64 = -9223372036854775808 := by decide
  have h2 : IntKind.max .i64 = 9223372036854775807 := by decide
  omega

end

inductive ActsIn (H : List Atom) (v : Value) (l : List ActM) : Prop
  | none {a : Option Addr} {cap : Nat} (hv : v = .slice a 0 cap) (hl : l = [])
  | mk {b o cap : Nat} {cs : List Value} (hv : v = .slice (some ⟨b, o, Option.none⟩) l.length cap) (hh : CellsAt H b cs) (ho : o + l.length * 7 ≤ cs.length) (he : ∀ i (h : i < l.length), ActCells H l[i] ((cs.drop (o + i * 7)).take 7))
theorem acts_in {H : Type} {enc : TypeId × Value → H} {w : World} {fuel : Nat} {cs : List Value} {x : DataW H × List MemPlace} (h : DataW.trod enc Try.prog w 0 (fun _ => true) true fuel 54 cs = some x) : ∃ v l, cs = [v] ∧ ActsIn (allRaw w) v l ∧ l.length ≤ maxLen := by
  obtain ⟨a, len, cap, rfl, hl, hm, h0 | ⟨b, o, arr, n, rfl, hca, ho, he⟩⟩ := slice_in Try.underlying54 (sz := 7) (by kernel_rfl) (by decide) h
  · subst h0; exact ⟨_, [], rfl, .none rfl rfl, Nat.zero_le _⟩
  · obtain ⟨l, hll, hlp⟩ := choose_list (α := ActM) (p := fun i y => ActCells (allRaw w) y ((arr.drop (o + i * 7)).take 7)) len (fun i hi => by
      obtain ⟨y, hy⟩ := he i hi
      exact act_in hy)
    subst hll
    exact ⟨_, l, rfl, .mk rfl hca ho hlp, by omega⟩
end Go.Proofs.Ytlecgoebbjnnmaa

