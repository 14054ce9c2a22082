/- Heads of states, written and read. -/
import Derived.Test.YtlecgoebbjnnmaaPage
set_option linter.unusedVariables false
set_option linter.unusedSimpArgs false
set_option linter.unusedSectionVars false
set_option linter.constructorNameAsVariable false
set_option maxRecDepth 100000
set_option maxHeartbeats 4000000
namespace Go.Proofs.Ytlecgoebbjnnmaa
open Go
variable [Ref]

/-- a state as a block: the root one more than it is -/
def headB0 (g r e : Nat) : List UInt8 := setB (setB (setB (List.replicate 256 0) 0 (beB 8 g)) 8 (beB 8 r)) 16 (beB 8 e)
def headB (g r e : Nat) : List UInt8 := setB (headB0 g r e) 60 (beB 4 (crcMore 0#32 ((headB0 g r e).take 60)).toNat)
def encS (g r e : Nat) : List Value := [.int .u64 g, .int .i64 ((r : Int) - 1), .int .u64 e]
theorem headB0_length {g r e : Nat} : (headB0 g r e).length = 256 := by
  unfold headB0
  rw [setB_length (by rw [setB_length (by rw [setB_length (by simp)]; simp)]; rw [setB_length (by simp)]; simp), setB_length (by rw [setB_length (by simp)]; simp), setB_length (by simp)]
  simp
theorem headB_length {g r e : Nat} : (headB g r e).length = 256 := by
  unfold headB
  rw [setB_length (by rw [headB0_length]; simp), headB0_length]

theorem head_calls {w : World} {H : List Atom} {g r e : Nat} (hg : g < 18446744073709551616) (hr : r ≤ 5000) (he : e < 18446744073709551616) (hs : Sat w H) :
    Calls Try.prog 66 [.agg (encS g r e).toArray].toArray w (fun e' w' => ∃ b, e' = .returned (.slice (some ⟨b, 0, none⟩) 256 256) ∧ Sat w' (.cells b 5 (vbs (headB g r e)) :: H)) := by
  refine enter Try.func66 rfl Try.ntmps66 rfl hs ?_
  (repeat (first | refine S.seq ?_ | refine S.region ?_ | refine L.nil ?_ | refine L.p (by first | exact o_assign rfl | exact o_move rfl | exact o_slAll rfl | exact o_arAll rfl | exact o_slHi rfl rfl (by omega) | exact o_slLo rfl rfl (by omega) | exact o_slBoth rfl rfl rfl (by omega) | exact o_arLo rfl rfl (by omega) | exact o_fld rfl | exact o_load rfl rfl | exact o_load rfl (by assumption) | exact o_add rfl rfl (by unfold I64; omega)) rfl ?_ | refine S.block ?_ | refine S.pop ?_ | refine S.skip ?_ | refine S.exit rfl ?_ | refine S.condT rfl ?_ | refine S.condF rfl ?_ | refine S.qt (id := 2) 5 (by kernel_rfl) (by kernel_rfl) ?_ | refine S.qt (id := 3) 7 (by kernel_rfl) (by kernel_rfl) ?_ | refine S.qt (id := 4) 5 (by kernel_rfl) (by kernel_rfl) ?_ | refine S.qt (id := 5) 7 (by kernel_rfl) (by kernel_rfl) ?_ | refine Ql.nil ?_ | refine Ql.p (by first | exact o_assign rfl | exact o_move rfl | exact o_slAll rfl | exact o_arAll rfl | exact o_slHi rfl rfl (by omega) | exact o_slLo rfl rfl (by omega) | exact o_slBoth rfl rfl rfl (by omega) | exact o_arLo rfl rfl (by omega) | exact o_fld rfl | exact o_load rfl rfl | exact o_load rfl (by assumption) | exact o_add rfl rfl (by unfold I64; omega)) rfl ?_))
  refine L.boxN rfl rfl (fun b1 => ?_)
  (repeat (first | refine S.seq ?_ | refine S.region ?_ | refine L.nil ?_ | refine L.p (by first | exact o_assign rfl | exact o_move rfl | exact o_slAll rfl | exact o_arAll rfl | exact o_slHi rfl rfl (by omega) | exact o_slLo rfl rfl (by omega) | exact o_slBoth rfl rfl rfl (by omega) | exact o_arLo rfl rfl (by omega) | exact o_fld rfl | exact o_load rfl rfl | exact o_load rfl (by assumption) | exact o_add rfl rfl (by unfold I64; omega)) rfl ?_ | refine S.block ?_ | refine S.pop ?_ | refine S.skip ?_ | refine S.exit rfl ?_ | refine S.condT rfl ?_ | refine S.condF rfl ?_ | refine S.qt (id := 2) 5 (by kernel_rfl) (by kernel_rfl) ?_ | refine S.qt (id := 3) 7 (by kernel_rfl) (by kernel_rfl) ?_ | refine S.qt (id := 4) 5 (by kernel_rfl) (by kernel_rfl) ?_ | refine S.qt (id := 5) 7 (by kernel_rfl) (by kernel_rfl) ?_ | refine Ql.nil ?_ | refine Ql.p (by first | exact o_assign rfl | exact o_move rfl | exact o_slAll rfl | exact o_arAll rfl | exact o_slHi rfl rfl (by omega) | exact o_slLo rfl rfl (by omega) | exact o_slBoth rfl rfl rfl (by omega) | exact o_arLo rfl rfl (by omega) | exact o_fld rfl | exact o_load rfl rfl | exact o_load rfl (by assumption) | exact o_add rfl rfl (by unfold I64; omega)) rfl ?_))
  refine L.make1 rfl rfl (by omega) rfl (fun b => ?_)
  rw [show List.replicate 256 (Value.int .u8 0) = vbs (List.replicate 256 0) from rfl]
  (repeat (first | refine S.qt (id := 2) 4 (by kernel_rfl) (by kernel_rfl) ?_ | refine S.qt (id := 3) 6 (by kernel_rfl) (by kernel_rfl) ?_ | refine S.qt (id := 4) 4 (by kernel_rfl) (by kernel_rfl) ?_ | refine S.qt (id := 5) 6 (by kernel_rfl) (by kernel_rfl) ?_ | refine S.seq ?_ | refine S.region ?_ | refine L.nil ?_ | refine L.p (by first | exact o_assign rfl | exact o_move rfl | exact o_slAll rfl | exact o_arAll rfl | exact o_slHi rfl rfl (by omega) | exact o_slLo rfl rfl (by omega) | exact o_slBoth rfl rfl rfl (by omega) | exact o_arLo rfl rfl (by omega) | exact o_fld rfl | exact o_load rfl rfl | exact o_load rfl (by assumption) | exact o_add rfl rfl (by unfold I64; omega)) rfl ?_ | refine S.block ?_ | refine S.pop ?_ | refine S.skip ?_ | refine S.exit rfl ?_ | refine S.condT rfl ?_ | refine S.condF rfl ?_ | refine S.qt (id := 2) 5 (by kernel_rfl) (by kernel_rfl) ?_ | refine S.qt (id := 3) 7 (by kernel_rfl) (by kernel_rfl) ?_ | refine S.qt (id := 4) 5 (by kernel_rfl) (by kernel_rfl) ?_ | refine S.qt (id := 5) 7 (by kernel_rfl) (by kernel_rfl) ?_ | refine Ql.nil ?_ | refine Ql.p (by first | exact o_assign rfl | exact o_move rfl | exact o_slAll rfl | exact o_arAll rfl | exact o_slHi rfl rfl (by omega) | exact o_slLo rfl rfl (by omega) | exact o_slBoth rfl rfl rfl (by omega) | exact o_arLo rfl rfl (by omega) | exact o_fld rfl | exact o_load rfl rfl | exact o_load rfl (by assumption) | exact o_add rfl rfl (by unfold I64; omega)) rfl ?_))
  refine L.callR rfl (hc_func Try.func90 (by decide) rfl rfl) rfl (fun w hs => put_calls (by decide) (by decide) (by decide) hg hs) ?_
  rintro e' w' ⟨rfl, hs'⟩
  refine ⟨_, _, rfl, (by assumption), ?_⟩
  (repeat (first | refine S.qt (id := 2) 4 (by kernel_rfl) (by kernel_rfl) ?_ | refine S.qt (id := 3) 6 (by kernel_rfl) (by kernel_rfl) ?_ | refine S.qt (id := 4) 4 (by kernel_rfl) (by kernel_rfl) ?_ | refine S.qt (id := 5) 6 (by kernel_rfl) (by kernel_rfl) ?_ | refine Ql.p (o_conv (kk := .u64) (k2 := .i64) (r := (r : Int)) rfl (by rw [show (r : Int) - 1 + 1 = (r : Int) by omega]; exact wrap64u (by omega))) rfl ?_ | refine S.seq ?_ | refine S.region ?_ | refine L.nil ?_ | refine L.p (by first | exact o_assign rfl | exact o_move rfl | exact o_slAll rfl | exact o_arAll rfl | exact o_slHi rfl rfl (by omega) | exact o_slLo rfl rfl (by omega) | exact o_slBoth rfl rfl rfl (by omega) | exact o_arLo rfl rfl (by omega) | exact o_fld rfl | exact o_load rfl rfl | exact o_load rfl (by assumption) | exact o_add rfl rfl (by unfold I64; omega)) rfl ?_ | refine S.block ?_ | refine S.pop ?_ | refine S.skip ?_ | refine S.exit rfl ?_ | refine S.condT rfl ?_ | refine S.condF rfl ?_ | refine S.qt (id := 2) 5 (by kernel_rfl) (by kernel_rfl) ?_ | refine S.qt (id := 3) 7 (by kernel_rfl) (by kernel_rfl) ?_ | refine S.qt (id := 4) 5 (by kernel_rfl) (by kernel_rfl) ?_ | refine S.qt (id := 5) 7 (by kernel_rfl) (by kernel_rfl) ?_ | refine Ql.nil ?_ | refine Ql.p (by first | exact o_assign rfl | exact o_move rfl | exact o_slAll rfl | exact o_arAll rfl | exact o_slHi rfl rfl (by omega) | exact o_slLo rfl rfl (by omega) | exact o_slBoth rfl rfl rfl (by omega) | exact o_arLo rfl rfl (by omega) | exact o_fld rfl | exact o_load rfl rfl | exact o_load rfl (by assumption) | exact o_add rfl rfl (by unfold I64; omega)) rfl ?_))
  refine L.callR rfl (hc_func Try.func90 (by decide) rfl rfl) rfl (fun w hs => put_calls (o := 8) (len := 8) (by decide) (by simp [setB]) (by simp [setB]) (show r < _ by omega) hs) ?_
  rintro e' w' ⟨rfl, hs'⟩
  refine ⟨_, _, rfl, (by assumption), ?_⟩
  (repeat (first | refine S.qt (id := 2) 4 (by kernel_rfl) (by kernel_rfl) ?_ | refine S.qt (id := 3) 6 (by kernel_rfl) (by kernel_rfl) ?_ | refine S.qt (id := 4) 4 (by kernel_rfl) (by kernel_rfl) ?_ | refine S.qt (id := 5) 6 (by kernel_rfl) (by kernel_rfl) ?_ | refine S.seq ?_ | refine S.region ?_ | refine L.nil ?_ | refine L.p (by first | exact o_assign rfl | exact o_move rfl | exact o_slAll rfl | exact o_arAll rfl | exact o_slHi rfl rfl (by omega) | exact o_slLo rfl rfl (by omega) | exact o_slBoth rfl rfl rfl (by omega) | exact o_arLo rfl rfl (by omega) | exact o_fld rfl | exact o_load rfl rfl | exact o_load rfl (by assumption) | exact o_add rfl rfl (by unfold I64; omega)) rfl ?_ | refine S.block ?_ | refine S.pop ?_ | refine S.skip ?_ | refine S.exit rfl ?_ | refine S.condT rfl ?_ | refine S.condF rfl ?_ | refine S.qt (id := 2) 5 (by kernel_rfl) (by kernel_rfl) ?_ | refine S.qt (id := 3) 7 (by kernel_rfl) (by kernel_rfl) ?_ | refine S.qt (id := 4) 5 (by kernel_rfl) (by kernel_rfl) ?_ | refine S.qt (id := 5) 7 (by kernel_rfl) (by kernel_rfl) ?_ | refine Ql.nil ?_ | refine Ql.p (by first | exact o_assign rfl | exact o_move rfl | exact o_slAll rfl | exact o_arAll rfl | exact o_slHi rfl rfl (by omega) | exact o_slLo rfl rfl (by omega) | exact o_slBoth rfl rfl rfl (by omega) | exact o_arLo rfl rfl (by omega) | exact o_fld rfl | exact o_load rfl rfl | exact o_load rfl (by assumption) | exact o_add rfl rfl (by unfold I64; omega)) rfl ?_))
  refine L.callR rfl (hc_func Try.func90 (by decide) rfl rfl) rfl (fun w hs => put_calls (o := 16) (len := 8) (by decide) (by simp [setB]) (by simp [setB]) he hs) ?_
  rintro e' w' ⟨rfl, hs'⟩
  refine ⟨_, _, rfl, (by assumption), ?_⟩
  (repeat (first | refine S.qt (id := 2) 4 (by kernel_rfl) (by kernel_rfl) ?_ | refine S.qt (id := 3) 6 (by kernel_rfl) (by kernel_rfl) ?_ | refine S.qt (id := 4) 4 (by kernel_rfl) (by kernel_rfl) ?_ | refine S.qt (id := 5) 6 (by kernel_rfl) (by kernel_rfl) ?_ | refine S.seq ?_ | refine S.region ?_ | refine L.nil ?_ | refine L.p (by first | exact o_assign rfl | exact o_move rfl | exact o_slAll rfl | exact o_arAll rfl | exact o_slHi rfl rfl (by omega) | exact o_slLo rfl rfl (by omega) | exact o_slBoth rfl rfl rfl (by omega) | exact o_arLo rfl rfl (by omega) | exact o_fld rfl | exact o_load rfl rfl | exact o_load rfl (by assumption) | exact o_add rfl rfl (by unfold I64; omega)) rfl ?_ | refine S.block ?_ | refine S.pop ?_ | refine S.skip ?_ | refine S.exit rfl ?_ | refine S.condT rfl ?_ | refine S.condF rfl ?_ | refine S.qt (id := 2) 5 (by kernel_rfl) (by kernel_rfl) ?_ | refine S.qt (id := 3) 7 (by kernel_rfl) (by kernel_rfl) ?_ | refine S.qt (id := 4) 5 (by kernel_rfl) (by kernel_rfl) ?_ | refine S.qt (id := 5) 7 (by kernel_rfl) (by kernel_rfl) ?_ | refine Ql.nil ?_ | refine Ql.p (by first | exact o_assign rfl | exact o_move rfl | exact o_slAll rfl | exact o_arAll rfl | exact o_slHi rfl rfl (by omega) | exact o_slLo rfl rfl (by omega) | exact o_slBoth rfl rfl rfl (by omega) | exact o_arLo rfl rfl (by omega) | exact o_fld rfl | exact o_load rfl rfl | exact o_load rfl (by assumption) | exact o_add rfl rfl (by unfold I64; omega)) rfl ?_))
  have hcs : ∀ w, Sat w (.cells b 5 (vbs (headB0 g r e)) :: .cells b1 111 (encS g r e) :: H) → Calls Try.prog 91 [.slice (some ⟨b, 0, none⟩) 60 256].toArray w (fun e' w' => e' = .returned (v32 (crcMore 0#32 ((headB0 g r e).take 60))) ∧ Sat w' (.cells b 5 (vbs (headB0 g r e)) :: .cells b1 111 (encS g r e) :: H)) := fun w hs =>
    sum_calls (.mk (by rw [List.length_take, headB0_length]; rfl) (by decide) (CellsAt.head (T := 5) (cs := vbs (headB0 g r e)) (by simp)) (by rw [vbs_length, headB0_length]; decide) (by rw [List.drop_zero, vbs_take])) (by simp; omega) hs
  refine Ql.call _ rfl (hc_func Try.func91 (by decide) rfl rfl) rfl (fun w hs => hcs w hs) ?_
  have hc32 := (crcMore 0#32 ((headB0 g r e).take 60)).isLt
  (repeat (first | refine Ql.p (o_conv (kk := .u64) (k2 := .u32) (r := ((crcMore 0#32 ((headB0 g r e).take 60)).toNat : Int)) rfl (wrap64u (by omega))) rfl ?_ | refine S.seq ?_ | refine S.region ?_ | refine L.nil ?_ | refine L.p (by first | exact o_assign rfl | exact o_move rfl | exact o_slAll rfl | exact o_arAll rfl | exact o_slHi rfl rfl (by omega) | exact o_slLo rfl rfl (by omega) | exact o_slBoth rfl rfl rfl (by omega) | exact o_arLo rfl rfl (by omega) | exact o_fld rfl | exact o_load rfl rfl | exact o_load rfl (by assumption) | exact o_add rfl rfl (by unfold I64; omega)) rfl ?_ | refine S.block ?_ | refine S.pop ?_ | refine S.skip ?_ | refine S.exit rfl ?_ | refine S.condT rfl ?_ | refine S.condF rfl ?_ | refine S.qt (id := 2) 5 (by kernel_rfl) (by kernel_rfl) ?_ | refine S.qt (id := 3) 7 (by kernel_rfl) (by kernel_rfl) ?_ | refine S.qt (id := 4) 5 (by kernel_rfl) (by kernel_rfl) ?_ | refine S.qt (id := 5) 7 (by kernel_rfl) (by kernel_rfl) ?_ | refine Ql.nil ?_ | refine Ql.p (by first | exact o_assign rfl | exact o_move rfl | exact o_slAll rfl | exact o_arAll rfl | exact o_slHi rfl rfl (by omega) | exact o_slLo rfl rfl (by omega) | exact o_slBoth rfl rfl rfl (by omega) | exact o_arLo rfl rfl (by omega) | exact o_fld rfl | exact o_load rfl rfl | exact o_load rfl (by assumption) | exact o_add rfl rfl (by unfold I64; omega)) rfl ?_))
  refine L.callR rfl (hc_func Try.func90 (by decide) rfl rfl) rfl (fun w hs => put_calls (o := 60) (len := 4) (xs := headB0 g r e) (n := (crcMore 0#32 ((headB0 g r e).take 60)).toNat) (by decide) (by rw [headB0_length]; decide) (by rw [headB0_length]; decide) (by omega) hs) ?_
  rintro e' w' ⟨rfl, hs'⟩
  refine ⟨_, _, rfl, (by assumption), ?_⟩
  (repeat (first | refine S.seq ?_ | refine S.region ?_ | refine L.nil ?_ | refine L.p (by first | exact o_assign rfl | exact o_move rfl | exact o_slAll rfl | exact o_arAll rfl | exact o_slHi rfl rfl (by omega) | exact o_slLo rfl rfl (by omega) | exact o_slBoth rfl rfl rfl (by omega) | exact o_arLo rfl rfl (by omega) | exact o_fld rfl | exact o_load rfl rfl | exact o_load rfl (by assumption) | exact o_add rfl rfl (by unfold I64; omega)) rfl ?_ | refine S.block ?_ | refine S.pop ?_ | refine S.skip ?_ | refine S.exit rfl ?_ | refine S.condT rfl ?_ | refine S.condF rfl ?_ | refine S.qt (id := 2) 5 (by kernel_rfl) (by kernel_rfl) ?_ | refine S.qt (id := 3) 7 (by kernel_rfl) (by kernel_rfl) ?_ | refine S.qt (id := 4) 5 (by kernel_rfl) (by kernel_rfl) ?_ | refine S.qt (id := 5) 7 (by kernel_rfl) (by kernel_rfl) ?_ | refine Ql.nil ?_ | refine Ql.p (by first | exact o_assign rfl | exact o_move rfl | exact o_slAll rfl | exact o_arAll rfl | exact o_slHi rfl rfl (by omega) | exact o_slLo rfl rfl (by omega) | exact o_slBoth rfl rfl rfl (by omega) | exact o_arLo rfl rfl (by omega) | exact o_fld rfl | exact o_load rfl rfl | exact o_load rfl (by assumption) | exact o_add rfl rfl (by unfold I64; omega)) rfl ?_))
  refine S.fin (Fin.one rfl (RV.tmp rfl)) (fun w hs => ?_)
  have hs2 : Sat w (.cells b 5 (vbs (headB g r e)) :: .cells b1 111 (encS g r e) :: H) := hs
  exact ⟨b, rfl, (hs2.re (H' := .cells b1 111 (encS g r e) :: (.cells b 5 (vbs (headB g r e)) :: H)) (by intro a; simp only [List.count_append, List.count_cons, List.count_nil] <;> omega)).tail⟩

/-- what a block tells, read as a head of that number: is it a right one? -/
def tG (b : List UInt8) : Nat := beN (b.take 8)
def tR (b : List UInt8) : Nat := beN ((b.drop 8).take 8)
def tE (b : List UInt8) : Nat := beN ((b.drop 16).take 8)
def toldOk (b : List UInt8) (n pages : Nat) : Bool := decide (tR b ≤ pages ∧ 0 < tG b ∧ tG b % 2 = n ∧ (headB (tG b) (tR b) (tE b)).take 64 = b.take 64)

theorem wrap64i {a : Nat} (h : a ≤ 5000) : IntKind.i64.wrap (a : Int) = (a : Int) := wrap_i64 (by unfold I64; omega)
theorem vbs_take_drop {cs : List Value} {l : List UInt8} {o i m : Nat} (he : (cs.drop o).take l.length = vbs l) (h : i + m ≤ l.length) : (cs.drop (o + i)).take m = vbs ((l.drop i).take m) := by
  rw [← vbs_take, ← vbs_drop, ← he]
  rw [List.drop_take, List.take_take, List.drop_drop]
  congr 1
  omega
theorem bytes_part {H : List Atom} {v : Value} {l : List UInt8} (h : BytesIn H v l) (hl : l ≠ []) : ∃ b o cap, v = .slice (some ⟨b, o, none⟩) l.length cap ∧ l.length ≤ cap ∧ ∀ i m c, i + m ≤ l.length → m ≤ c → BytesIn H (.slice (some ⟨b, o + i, none⟩) m c) ((l.drop i).take m) := by
  cases h with
  | none => exact absurd rfl hl
  | @mk b o len cap cs bs hl2 hc hh ho he =>
    subst hl2
    exact ⟨b, o, cap, rfl, hc, fun i m c h1 h2 => BytesIn.mk (b := b) (o := o + i) (cs := cs) (by rw [List.length_take, List.length_drop]; omega) h2 hh (by omega) (vbs_take_drop he h1)⟩

theorem told_calls {w : World} {H : List Atom} {v : Value} {l : List UInt8} {n pages : Nat} (hb : BytesIn H v l) (hl : l.length = 256) (hn : n ≤ 1) (hp : pages ≤ 5000) (hs : Sat w H) :
    Calls Try.prog 54 [v, .int .i64 n, .int .i64 pages].toArray w (fun e w' => ∃ g r x B, e = .returned (.tuple #[.agg (encS g r x).toArray, .bool (toldOk l n pages)]) ∧ (toldOk l n pages = true → g = tG l ∧ r = tR l ∧ x = tE l) ∧ Sat w' (B ++ H)) := by
  obtain ⟨b, o, cap, rfl, hcap, hpart⟩ := bytes_part hb (by intro e; rw [e] at hl; cases hl)
  rw [hl] at hcap hpart ⊢
  have hx16 : offS cap 8 o 8 = o + 8 := offS_lt (by omega)
  have hx24 : offS cap 16 o 16 = o + 16 := offS_lt (by omega)
  have p0 : BytesIn H (.slice (some ⟨b, o, none⟩) 8 cap) (l.take 8) := by have := hpart 0 8 cap (by omega) (by omega); rwa [List.drop_zero] at this
  have p64 : BytesIn H (.slice (some ⟨b, o, none⟩) 64 cap) (l.take 64) := by have := hpart 0 64 cap (by omega) (by omega); rwa [List.drop_zero] at this
  have p8 : BytesIn H (.slice (some ⟨b, o + 8, none⟩) 8 (cap - 8)) ((l.drop 8).take 8) := hpart 8 8 (cap - 8) (by omega) (by omega)
  have p16 : BytesIn H (.slice (some ⟨b, o + 16, none⟩) 8 (cap - 16)) ((l.drop 16).take 8) := hpart 16 8 (cap - 16) (by omega) (by omega)
  have hlt : ∀ m : List UInt8, m.length ≤ 8 → beN m < 18446744073709551616 := fun m hm => by
    have h1 := beN_lt m
    have h2 : 256 ^ m.length ≤ 256 ^ 8 := Nat.pow_le_pow_right (by decide) hm
    omega
  have hG := hlt (l.take 8) (by simp; omega)
  have hR := hlt ((l.drop 8).take 8) (by simp; omega)
  have hE := hlt ((l.drop 16).take 8) (by simp; omega)
  refine enter Try.func54 rfl Try.ntmps54 rfl hs ?_
  (repeat (first | refine S.seq ?_ | refine S.region ?_ | refine L.nil ?_ | refine L.p (by first | exact o_assign rfl | exact o_move rfl | exact o_slAll rfl | exact o_arAll rfl | exact o_slHi rfl rfl (by omega) | exact o_slLo rfl rfl (by omega) | exact o_slBoth rfl rfl rfl (by omega) | exact o_arLo rfl rfl (by omega) | exact o_gt rfl rfl | exact o_build rfl | exact o_sub rfl rfl (by unfold I64; omega) | exact o_fld rfl | exact o_load rfl rfl | exact o_load rfl (by assumption) | exact o_eq rfl rfl | exact o_ptrNil rfl rfl | exact o_nilNil rfl rfl | exact o_pickT rfl rfl | exact o_pickF rfl rfl) rfl ?_ | refine L.gYes rfl rfl rfl ?_ | refine L.gNo rfl rfl rfl rfl rfl ?_ | refine L.gUnd rfl rfl rfl rfl ?_ | refine L.store rfl rfl (blt_iff.1 rfl) rfl ?_ | refine S.block ?_ | refine S.pop ?_ | refine S.skip ?_ | refine S.exit rfl ?_ | refine S.condT rfl ?_ | refine S.condF rfl ?_))
  refine L.alloc rfl (fun b6 => ?_)
  (repeat (first | refine S.seq ?_ | refine S.region ?_ | refine L.nil ?_ | refine L.p (by first | exact o_assign rfl | exact o_move rfl | exact o_slAll rfl | exact o_arAll rfl | exact o_slHi rfl rfl (by omega) | exact o_slLo rfl rfl (by omega) | exact o_slBoth rfl rfl rfl (by omega) | exact o_arLo rfl rfl (by omega) | exact o_gt rfl rfl | exact o_build rfl | exact o_sub rfl rfl (by unfold I64; omega) | exact o_fld rfl | exact o_load rfl rfl | exact o_load rfl (by assumption) | exact o_eq rfl rfl | exact o_ptrNil rfl rfl | exact o_nilNil rfl rfl | exact o_pickT rfl rfl | exact o_pickF rfl rfl) rfl ?_ | refine L.gYes rfl rfl rfl ?_ | refine L.gNo rfl rfl rfl rfl rfl ?_ | refine L.gUnd rfl rfl rfl rfl ?_ | refine L.store rfl rfl (blt_iff.1 rfl) rfl ?_ | refine S.block ?_ | refine S.pop ?_ | refine S.skip ?_ | refine S.exit rfl ?_ | refine S.condT rfl ?_ | refine S.condF rfl ?_))
  rw [hx16]
  refine L.callR rfl (hc_func Try.func85 (by decide) rfl rfl) rfl (fun w hs => number_calls (p8.mono (by intro x hx; simp [hx])) (by simp; omega) hs) ?_
  rintro e w' ⟨rfl, hs'⟩
  refine ⟨_, _, rfl, (by assumption), ?_⟩
  (repeat (first | refine L.p (o_conv (kk := .u64) (k2 := .i64) (r := (pages : Int)) rfl (wrap64u (by omega))) rfl ?_ | refine S.seq ?_ | refine S.region ?_ | refine L.nil ?_ | refine L.p (by first | exact o_assign rfl | exact o_move rfl | exact o_slAll rfl | exact o_arAll rfl | exact o_slHi rfl rfl (by omega) | exact o_slLo rfl rfl (by omega) | exact o_slBoth rfl rfl rfl (by omega) | exact o_arLo rfl rfl (by omega) | exact o_gt rfl rfl | exact o_build rfl | exact o_sub rfl rfl (by unfold I64; omega) | exact o_fld rfl | exact o_load rfl rfl | exact o_load rfl (by assumption) | exact o_eq rfl rfl | exact o_ptrNil rfl rfl | exact o_nilNil rfl rfl | exact o_pickT rfl rfl | exact o_pickF rfl rfl) rfl ?_ | refine L.gYes rfl rfl rfl ?_ | refine L.gNo rfl rfl rfl rfl rfl ?_ | refine L.gUnd rfl rfl rfl rfl ?_ | refine L.store rfl rfl (blt_iff.1 rfl) rfl ?_ | refine S.block ?_ | refine S.pop ?_ | refine S.skip ?_ | refine S.exit rfl ?_ | refine S.condT rfl ?_ | refine S.condF rfl ?_))
  refine S.condD rfl (fun hroot => ?_) (fun hroot => ?_)
  · (repeat (first | refine S.seq ?_ | refine S.region ?_ | refine L.nil ?_ | refine L.p (by first | exact o_assign rfl | exact o_move rfl | exact o_slAll rfl | exact o_arAll rfl | exact o_slHi rfl rfl (by omega) | exact o_slLo rfl rfl (by omega) | exact o_slBoth rfl rfl rfl (by omega) | exact o_arLo rfl rfl (by omega) | exact o_gt rfl rfl | exact o_build rfl | exact o_sub rfl rfl (by unfold I64; omega) | exact o_fld rfl | exact o_load rfl rfl | exact o_load rfl (by assumption) | exact o_eq rfl rfl | exact o_ptrNil rfl rfl | exact o_nilNil rfl rfl | exact o_pickT rfl rfl | exact o_pickF rfl rfl) rfl ?_ | refine L.gYes rfl rfl rfl ?_ | refine L.gNo rfl rfl rfl rfl rfl ?_ | refine L.gUnd rfl rfl rfl rfl ?_ | refine L.store rfl rfl (blt_iff.1 rfl) rfl ?_ | refine S.block ?_ | refine S.pop ?_ | refine S.skip ?_ | refine S.exit rfl ?_ | refine S.condT rfl ?_ | refine S.condF rfl ?_))
    refine L.storeW rfl rfl rfl rfl (by simp [List.forall_mem_cons, Value.oneCell']) ?_
    (repeat (first | refine S.seq ?_ | refine S.region ?_ | refine L.nil ?_ | refine L.p (by first | exact o_assign rfl | exact o_move rfl | exact o_slAll rfl | exact o_arAll rfl | exact o_slHi rfl rfl (by omega) | exact o_slLo rfl rfl (by omega) | exact o_slBoth rfl rfl rfl (by omega) | exact o_arLo rfl rfl (by omega) | exact o_gt rfl rfl | exact o_build rfl | exact o_sub rfl rfl (by unfold I64; omega) | exact o_fld rfl | exact o_load rfl rfl | exact o_load rfl (by assumption) | exact o_eq rfl rfl | exact o_ptrNil rfl rfl | exact o_nilNil rfl rfl | exact o_pickT rfl rfl | exact o_pickF rfl rfl) rfl ?_ | refine L.gYes rfl rfl rfl ?_ | refine L.gNo rfl rfl rfl rfl rfl ?_ | refine L.gUnd rfl rfl rfl rfl ?_ | refine L.store rfl rfl (blt_iff.1 rfl) rfl ?_ | refine S.block ?_ | refine S.pop ?_ | refine S.skip ?_ | refine S.exit rfl ?_ | refine S.condT rfl ?_ | refine S.condF rfl ?_))
    refine S.fin (Fin.two rfl (RV.cellN rfl (Nat.le_refl 3)) (RV.tmp rfl)) (fun w hs => ?_)
    have hno : toldOk l n pages = false := decide_eq_false (fun h => by have := h.1; simp only [tR] at this; omega)
    exact ⟨0, 1, 0, [_], by rw [hno]; rfl, fun h => (by rw [hno] at h; cases h), hs⟩
  · have hRt : tR l ≤ 5000 := by unfold tR; omega
    (repeat (first | refine S.seq ?_ | refine S.region ?_ | refine L.nil ?_ | refine L.p (by first | exact o_assign rfl | exact o_move rfl | exact o_slAll rfl | exact o_arAll rfl | exact o_slHi rfl rfl (by omega) | exact o_slLo rfl rfl (by omega) | exact o_slBoth rfl rfl rfl (by omega) | exact o_arLo rfl rfl (by omega) | exact o_gt rfl rfl | exact o_build rfl | exact o_sub rfl rfl (by unfold I64; omega) | exact o_fld rfl | exact o_load rfl rfl | exact o_load rfl (by assumption) | exact o_eq rfl rfl | exact o_ptrNil rfl rfl | exact o_nilNil rfl rfl | exact o_pickT rfl rfl | exact o_pickF rfl rfl) rfl ?_ | refine L.gYes rfl rfl rfl ?_ | refine L.gNo rfl rfl rfl rfl rfl ?_ | refine L.gUnd rfl rfl rfl rfl ?_ | refine L.store rfl rfl (blt_iff.1 rfl) rfl ?_ | refine S.block ?_ | refine S.pop ?_ | refine S.skip ?_ | refine S.exit rfl ?_ | refine S.condT rfl ?_ | refine S.condF rfl ?_))
    refine S.cut (G := Nat) (fun _ => True) (fun b9 => [(9, ptr b9), (0, .slice (some ⟨b, o, none⟩) 256 cap), (1, .int .i64 n), (2, .int .i64 pages), (6, ptr b6)]) (fun b9 => .cells b9 111 (encS (tG l) (tR l) (tE l)) :: .cells b6 111 [.int .u64 0, .int .i64 0, .int .u64 0] :: H) ?_ ?_
    · skip
      refine S.any (id := 4) (by kernel_rfl) ?_
      refine B.take 0 rfl (by kernel_rfl) (by decide +kernel) (by decide +kernel) rfl (o_move rfl) rfl ?_
      (first | refine B.take 1 rfl (by kernel_rfl) (by decide +kernel) (by decide +kernel) rfl (o_slAll rfl) rfl ?_ | refine B.take 1 rfl (by kernel_rfl) (by decide +kernel) (by decide +kernel) rfl (o_arAll rfl) rfl ?_ | refine B.take 1 rfl (by kernel_rfl) (by decide +kernel) (by decide +kernel) rfl (o_slHi rfl rfl (by omega)) rfl ?_ | refine B.take 1 rfl (by kernel_rfl) (by decide +kernel) (by decide +kernel) rfl (o_slLo rfl rfl (by omega)) rfl ?_ | refine B.take 1 rfl (by kernel_rfl) (by decide +kernel) (by decide +kernel) rfl (o_slBoth rfl rfl rfl (by omega)) rfl ?_ | refine B.take 1 rfl (by kernel_rfl) (by decide +kernel) (by decide +kernel) rfl (o_arLo rfl rfl (by omega)) rfl ?_)
      refine B.take 3 rfl (by kernel_rfl) (by decide +kernel) (by decide +kernel) rfl (o_move rfl) rfl ?_
      refine B.take 4 rfl (by kernel_rfl) (by decide +kernel) (by decide +kernel) rfl (o_conv (kk := .i64) (k2 := .u64) (r := (tR l : Int)) rfl (wrap64i (by first | omega | (unfold tR; omega)))) rfl ?_
      refine B.take 5 rfl (by kernel_rfl) (by decide +kernel) (by decide +kernel) rfl (o_sub rfl rfl (by unfold I64; omega)) rfl ?_
      refine B.take 6 rfl (by kernel_rfl) (by decide +kernel) (by decide +kernel) rfl (o_move rfl) rfl ?_
      (first | refine B.take 7 rfl (by kernel_rfl) (by decide +kernel) (by decide +kernel) rfl (o_slAll rfl) rfl ?_ | refine B.take 7 rfl (by kernel_rfl) (by decide +kernel) (by decide +kernel) rfl (o_arAll rfl) rfl ?_ | refine B.take 7 rfl (by kernel_rfl) (by decide +kernel) (by decide +kernel) rfl (o_slHi rfl rfl (by omega)) rfl ?_ | refine B.take 7 rfl (by kernel_rfl) (by decide +kernel) (by decide +kernel) rfl (o_slLo rfl rfl (by omega)) rfl ?_ | refine B.take 7 rfl (by kernel_rfl) (by decide +kernel) (by decide +kernel) rfl (o_slBoth rfl rfl rfl (by omega)) rfl ?_ | refine B.take 7 rfl (by kernel_rfl) (by decide +kernel) (by decide +kernel) rfl (o_arLo rfl rfl (by omega)) rfl ?_)
      refine B.branch [2,10] (by kernel_rfl) (by simp) ?_
      refine Br.cons rfl rfl ?_ ?_; rotate_left; refine Br.cons rfl rfl ?_ Br.nil; rotate_left
      · refine L.callR rfl (hc_func Try.func85 (by decide) rfl rfl) rfl (fun w hs => number_calls (p0.mono (by intro x hx; simp [hx])) (by simp; omega) hs) ?_
        rintro e w' ⟨rfl, hs'⟩
        refine ⟨_, _, rfl, (by assumption), ?_⟩
        refine L.nil ?_
        refine B.go ?_
        refine B.branch [8,10] (by kernel_rfl) (by simp) ?_
        refine Br.cons rfl rfl ?_ ?_; rotate_left; refine Br.cons rfl rfl ?_ Br.nil; rotate_left
        · rw [hx24]
          refine L.callR rfl (hc_func Try.func85 (by decide) rfl rfl) rfl (fun w hs => number_calls (p16.mono (by intro x hx; simp [hx])) (by simp; omega) hs) ?_
          rintro e w' ⟨rfl, hs'⟩
          refine ⟨_, _, rfl, (by assumption), ?_⟩
          refine L.nil ?_
          refine B.go ?_
          refine B.take 9 rfl (by kernel_rfl) (by decide +kernel) (by decide +kernel) rfl (o_build rfl) rfl ?_
          refine B.branch [10] (by kernel_rfl) (by simp) ?_
          refine Br.cons rfl rfl ?_ Br.nil
          refine L.alloc rfl (fun b9 => ?_)
          refine L.nil ?_
          refine B.go ?_
          refine B.branch [11] (by kernel_rfl) (by simp) ?_
          refine Br.cons rfl rfl ?_ Br.nil
          refine L.storeW (vs := encS (tG l) (tR l) (tE l)) rfl rfl (by rfl) (by rfl) (by simp [encS, List.forall_mem_cons, Value.oneCell']) ?_
          refine L.nil ?_
          refine B.go ?_
          refine B.done (by decide +kernel) ?_
          refine S.round (fun ac_ w hac_ hs => ⟨(b9), ?_, hac_.weaken (look_sub (by repeat (first | exact trivial | refine ⟨rfl, ?_⟩))), (by (try dsimp only); exact hs)⟩)
          trivial
        · refine L.alloc rfl (fun b9 => ?_)
          refine L.nil ?_
          refine B.go ?_
          refine B.branch [8] (by kernel_rfl) (by simp) ?_
          refine Br.cons rfl rfl ?_ Br.nil
          rw [hx24]
          refine L.callR rfl (hc_func Try.func85 (by decide) rfl rfl) rfl (fun w hs => number_calls (p16.mono (by intro x hx; simp [hx])) (by simp; omega) hs) ?_
          rintro e w' ⟨rfl, hs'⟩
          refine ⟨_, _, rfl, (by assumption), ?_⟩
          refine L.nil ?_
          refine B.go ?_
          refine B.take 9 rfl (by kernel_rfl) (by decide +kernel) (by decide +kernel) rfl (o_build rfl) rfl ?_
          refine B.branch [11] (by kernel_rfl) (by simp) ?_
          refine Br.cons rfl rfl ?_ Br.nil
          refine L.storeW (vs := encS (tG l) (tR l) (tE l)) rfl rfl (by rfl) (by rfl) (by simp [encS, List.forall_mem_cons, Value.oneCell']) ?_
          refine L.nil ?_
          refine B.go ?_
          refine B.done (by decide +kernel) ?_
          refine S.round (fun ac_ w hac_ hs => ⟨(b9), ?_, hac_.weaken (look_sub (by repeat (first | exact trivial | refine ⟨rfl, ?_⟩))), (by (try dsimp only); exact hs)⟩)
          trivial
      · refine L.alloc rfl (fun b9 => ?_)
        refine L.nil ?_
        refine B.go ?_
        refine B.branch [2] (by kernel_rfl) (by simp) ?_
        refine Br.cons rfl rfl ?_ Br.nil
        refine L.callR rfl (hc_func Try.func85 (by decide) rfl rfl) rfl (fun w hs => number_calls (p0.mono (by intro x hx; simp [hx])) (by simp; omega) hs) ?_
        rintro e w' ⟨rfl, hs'⟩
        refine ⟨_, _, rfl, (by assumption), ?_⟩
        refine L.nil ?_
        refine B.go ?_
        refine B.branch [8] (by kernel_rfl) (by simp) ?_
        refine Br.cons rfl rfl ?_ Br.nil
        rw [hx24]
        refine L.callR rfl (hc_func Try.func85 (by decide) rfl rfl) rfl (fun w hs => number_calls (p16.mono (by intro x hx; simp [hx])) (by simp; omega) hs) ?_
        rintro e w' ⟨rfl, hs'⟩
        refine ⟨_, _, rfl, (by assumption), ?_⟩
        refine L.nil ?_
        refine B.go ?_
        refine B.take 9 rfl (by kernel_rfl) (by decide +kernel) (by decide +kernel) rfl (o_build rfl) rfl ?_
        refine B.branch [11] (by kernel_rfl) (by simp) ?_
        refine Br.cons rfl rfl ?_ Br.nil
        refine L.storeW (vs := encS (tG l) (tR l) (tE l)) rfl rfl (by rfl) (by rfl) (by simp [encS, List.forall_mem_cons, Value.oneCell']) ?_
        refine L.nil ?_
        refine B.go ?_
        refine B.done (by decide +kernel) ?_
        refine S.round (fun ac_ w hac_ hs => ⟨(b9), ?_, hac_.weaken (look_sub (by repeat (first | exact trivial | refine ⟨rfl, ?_⟩))), (by (try dsimp only); exact hs)⟩)
        trivial
    · intro b9 _
      dsimp only [encS]
      (repeat (first | refine L.p (o_remN rfl rfl (by decide)) rfl ?_ | refine L.p (o_conv (kk := .u64) (k2 := .i64) (r := (n : Int)) rfl (wrap64u (by omega))) rfl ?_ | refine S.seq ?_ | refine S.region ?_ | refine L.nil ?_ | refine L.p (by first | exact o_assign rfl | exact o_move rfl | exact o_slAll rfl | exact o_arAll rfl | exact o_slHi rfl rfl (by omega) | exact o_slLo rfl rfl (by omega) | exact o_slBoth rfl rfl rfl (by omega) | exact o_arLo rfl rfl (by omega) | exact o_gt rfl rfl | exact o_build rfl | exact o_sub rfl rfl (by unfold I64; omega) | exact o_fld rfl | exact o_load rfl rfl | exact o_load rfl (by assumption) | exact o_eq rfl rfl | exact o_ptrNil rfl rfl | exact o_nilNil rfl rfl | exact o_pickT rfl rfl | exact o_pickF rfl rfl) rfl ?_ | refine L.gYes rfl rfl rfl ?_ | refine L.gNo rfl rfl rfl rfl rfl ?_ | refine L.gUnd rfl rfl rfl rfl ?_ | refine L.store rfl rfl (blt_iff.1 rfl) rfl ?_ | refine S.block ?_ | refine S.pop ?_ | refine S.skip ?_ | refine S.exit rfl ?_ | refine S.condT rfl ?_ | refine S.condF rfl ?_))
      refine L.split 32 rfl (fun hpos => ?_) (fun hpos => ?_)
      · (repeat (first | refine L.p (o_remN rfl rfl (by decide)) rfl ?_ | refine L.p (o_conv (kk := .u64) (k2 := .i64) (r := (n : Int)) rfl (wrap64u (by omega))) rfl ?_ | refine S.seq ?_ | refine S.region ?_ | refine L.nil ?_ | refine L.p (by first | exact o_assign rfl | exact o_move rfl | exact o_slAll rfl | exact o_arAll rfl | exact o_slHi rfl rfl (by omega) | exact o_slLo rfl rfl (by omega) | exact o_slBoth rfl rfl rfl (by omega) | exact o_arLo rfl rfl (by omega) | exact o_gt rfl rfl | exact o_build rfl | exact o_sub rfl rfl (by unfold I64; omega) | exact o_fld rfl | exact o_load rfl rfl | exact o_load rfl (by assumption) | exact o_eq rfl rfl | exact o_ptrNil rfl rfl | exact o_nilNil rfl rfl | exact o_pickT rfl rfl | exact o_pickF rfl rfl) rfl ?_ | refine L.gYes rfl rfl rfl ?_ | refine L.gNo rfl rfl rfl rfl rfl ?_ | refine L.gUnd rfl rfl rfl rfl ?_ | refine L.store rfl rfl (blt_iff.1 rfl) rfl ?_ | refine S.block ?_ | refine S.pop ?_ | refine S.skip ?_ | refine S.exit rfl ?_ | refine S.condT rfl ?_ | refine S.condF rfl ?_))
        refine S.anyH (id := 6) ([Atom.cells b9 111 [.int .u64 (tG l : Nat), .int .i64 ((tR l : Int) - 1), .int .u64 (tE l : Nat)]]) (by kernel_rfl) ?_
        refine BH.take 0 rfl (by kernel_rfl) (by decide +kernel) (by decide +kernel) rfl (o_loadE (vs := encS (tG l) (tR l) (tE l)) rfl (Nat.le_refl 3) rfl) rfl (by intro a; simp only [List.count_append, List.count_cons, List.count_nil] <;> omega) ?_
        refine BH.take 1 rfl (by kernel_rfl) (by decide +kernel) (by decide +kernel) rfl (o_move rfl) rfl (by intro a; simp only [List.count_append, List.count_cons, List.count_nil] <;> omega) ?_
        refine BH.take 2 rfl (by kernel_rfl) (by decide +kernel) (by decide +kernel) rfl (o_move rfl) rfl (by intro a; simp only [List.count_append, List.count_cons, List.count_nil] <;> omega) ?_
        refine BH.split 42 rfl (fun hmod => ?_) (fun hmod => ?_)
        · refine BH.takeYes 3 rfl (by kernel_rfl) (by decide +kernel) (by decide +kernel) rfl rfl rfl rfl (o_loadE (vs := encS (tG l) (tR l) (tE l)) rfl (Nat.le_refl 3) rfl) rfl (by intro a; simp only [List.count_append, List.count_cons, List.count_nil] <;> omega) ?_
          refine BH.takeYes 6 rfl (by kernel_rfl) (by decide +kernel) (by decide +kernel) rfl rfl rfl rfl (o_move rfl) rfl (by intro a; simp only [List.count_append, List.count_cons, List.count_nil] <;> omega) ?_
          (first | refine BH.takeYes 7 rfl (by kernel_rfl) (by decide +kernel) (by decide +kernel) rfl rfl rfl rfl (o_slAll rfl) rfl (by intro a; simp only [List.count_append, List.count_cons, List.count_nil] <;> omega) ?_ | refine BH.takeYes 7 rfl (by kernel_rfl) (by decide +kernel) (by decide +kernel) rfl rfl rfl rfl (o_arAll rfl) rfl (by intro a; simp only [List.count_append, List.count_cons, List.count_nil] <;> omega) ?_ | refine BH.takeYes 7 rfl (by kernel_rfl) (by decide +kernel) (by decide +kernel) rfl rfl rfl rfl (o_slHi rfl rfl (by omega)) rfl (by intro a; simp only [List.count_append, List.count_cons, List.count_nil] <;> omega) ?_ | refine BH.takeYes 7 rfl (by kernel_rfl) (by decide +kernel) (by decide +kernel) rfl rfl rfl rfl (o_slLo rfl rfl (by omega)) rfl (by intro a; simp only [List.count_append, List.count_cons, List.count_nil] <;> omega) ?_ | refine BH.takeYes 7 rfl (by kernel_rfl) (by decide +kernel) (by decide +kernel) rfl rfl rfl rfl (o_slBoth rfl rfl rfl (by omega)) rfl (by intro a; simp only [List.count_append, List.count_cons, List.count_nil] <;> omega) ?_ | refine BH.takeYes 7 rfl (by kernel_rfl) (by decide +kernel) (by decide +kernel) rfl rfl rfl rfl (o_arLo rfl rfl (by omega)) rfl (by intro a; simp only [List.count_append, List.count_cons, List.count_nil] <;> omega) ?_)
          refine BH.branch [4] (by kernel_rfl) (by simp) ?_
          refine BrH.cons rfl rfl ?_ BrH.nil
          refine L.gYes rfl rfl rfl ?_
          refine L.callR rfl (hc_func Try.func66 (by decide) rfl rfl) rfl (fun w hs => head_calls (g := tG l) (r := tR l) (e := tE l) hG (by unfold tR; omega) hE hs) ?_
          rintro e w' ⟨b66, rfl, hs'⟩
          refine ⟨_, _, rfl, (by assumption), ?_⟩
          refine L.nil ?_
          refine BH.go (by intro a; simp only [List.count_append, List.count_cons, List.count_nil] <;> omega) ?_
          (first | refine BH.takeYes 5 rfl (by kernel_rfl) (by decide +kernel) (by decide +kernel) rfl rfl rfl rfl (o_slAll rfl) rfl (by intro a; simp only [List.count_append, List.count_cons, List.count_nil] <;> omega) ?_ | refine BH.takeYes 5 rfl (by kernel_rfl) (by decide +kernel) (by decide +kernel) rfl rfl rfl rfl (o_arAll rfl) rfl (by intro a; simp only [List.count_append, List.count_cons, List.count_nil] <;> omega) ?_ | refine BH.takeYes 5 rfl (by kernel_rfl) (by decide +kernel) (by decide +kernel) rfl rfl rfl rfl (o_slHi rfl rfl (by omega)) rfl (by intro a; simp only [List.count_append, List.count_cons, List.count_nil] <;> omega) ?_ | refine BH.takeYes 5 rfl (by kernel_rfl) (by decide +kernel) (by decide +kernel) rfl rfl rfl rfl (o_slLo rfl rfl (by omega)) rfl (by intro a; simp only [List.count_append, List.count_cons, List.count_nil] <;> omega) ?_ | refine BH.takeYes 5 rfl (by kernel_rfl) (by decide +kernel) (by decide +kernel) rfl rfl rfl rfl (o_slBoth rfl rfl rfl (by omega)) rfl (by intro a; simp only [List.count_append, List.count_cons, List.count_nil] <;> omega) ?_ | refine BH.takeYes 5 rfl (by kernel_rfl) (by decide +kernel) (by decide +kernel) rfl rfl rfl rfl (o_arLo rfl rfl (by omega)) rfl (by intro a; simp only [List.count_append, List.count_cons, List.count_nil] <;> omega) ?_)
          refine BH.branch [8] (by kernel_rfl) (by simp) ?_
          refine BrH.cons rfl rfl ?_ BrH.nil
          refine L.gYes rfl rfl rfl ?_
          refine L.callR rfl (hc_func Try.func86 (by decide) rfl rfl) rfl (fun w hs => equal_calls (l1 := (headB (tG l) (tR l) (tE l)).take 64) (l2 := l.take 64) (BytesIn.mk (b := b66) (o := 0) (cs := vbs (headB (tG l) (tR l) (tE l))) (by rw [List.length_take, headB_length]; rfl) (by decide) (CellsAt.head (T := 5) (by simp)) (by rw [vbs_length, headB_length]; decide) (by rw [List.drop_zero, vbs_take])) (p64.mono (by intro x hx; simp [hx])) (by simp; omega) hs) ?_
          rintro e w' ⟨rfl, hs'⟩
          refine ⟨_, _, rfl, (by assumption), ?_⟩
          refine L.nil ?_
          refine BH.go (by intro a; simp only [List.count_append, List.count_cons, List.count_nil] <;> omega) ?_
          (first | refine BH.take 9 rfl (by kernel_rfl) (by decide +kernel) (by decide +kernel) rfl (o_pickT rfl rfl) rfl (by intro a; simp only [List.count_append, List.count_cons, List.count_nil] <;> omega) ?_ | refine BH.take 9 rfl (by kernel_rfl) (by decide +kernel) (by decide +kernel) rfl (o_pickF rfl rfl) rfl (by intro a; simp only [List.count_append, List.count_cons, List.count_nil] <;> omega) ?_)
          refine BH.branch [10] (by kernel_rfl) (by simp) ?_
          refine BrH.cons rfl rfl ?_ BrH.nil
          refine L.storeW (vs := encS (tG l) (tR l) (tE l)) rfl rfl (by rfl) (by rfl) (by simp [encS, List.forall_mem_cons, Value.oneCell']) ?_
          refine L.nil ?_
          refine BH.go (by intro a; simp only [List.count_append, List.count_cons, List.count_nil] <;> omega) ?_
          refine BH.take 11 rfl (by kernel_rfl) (by decide +kernel) (by decide +kernel) rfl (o_assign rfl) rfl (by intro a; simp only [List.count_append, List.count_cons, List.count_nil] <;> omega) ?_
          refine BH.done (by decide +kernel) ?_
          (repeat (first | refine S.seq ?_ | refine S.region ?_ | refine L.nil ?_ | refine L.p (by first | exact o_assign rfl | exact o_move rfl | exact o_slAll rfl | exact o_arAll rfl | exact o_slHi rfl rfl (by omega) | exact o_slLo rfl rfl (by omega) | exact o_slBoth rfl rfl rfl (by omega) | exact o_arLo rfl rfl (by omega) | exact o_gt rfl rfl | exact o_build rfl | exact o_sub rfl rfl (by unfold I64; omega) | exact o_fld rfl | exact o_load rfl rfl | exact o_load rfl (by assumption) | exact o_eq rfl rfl | exact o_ptrNil rfl rfl | exact o_nilNil rfl rfl | exact o_pickT rfl rfl | exact o_pickF rfl rfl) rfl ?_ | refine L.gYes rfl rfl rfl ?_ | refine L.gNo rfl rfl rfl rfl rfl ?_ | refine L.gUnd rfl rfl rfl rfl ?_ | refine L.store rfl rfl (blt_iff.1 rfl) rfl ?_ | refine S.block ?_ | refine S.pop ?_ | refine S.skip ?_ | refine S.exit rfl ?_ | refine S.condT rfl ?_ | refine S.condF rfl ?_))
          refine S.fin (Fin.two rfl (RV.cellN rfl (Nat.le_refl 3)) (RV.tmp rfl)) (fun w hs => ?_)
          have hm2 : ((tG l % 2 : Nat) : Int) = (n : Int) := hmod
          have hok : toldOk l n pages = decide ((headB (tG l) (tR l) (tE l)).take 64 = l.take 64) := decide_eq_decide.2 ⟨fun h => h.2.2.2, fun h => ⟨by unfold tR; omega, by omega, by omega, h⟩⟩
          have hs2 : Sat w (.cells b66 5 (vbs (headB (tG l) (tR l) (tE l))) :: .cells b9 111 (encS (tG l) (tR l) (tE l)) :: .cells b6 111 (encS (tG l) (tR l) (tE l)) :: H) := hs
          exact ⟨tG l, tR l, tE l, [Atom.cells b66 5 (vbs (headB (tG l) (tR l) (tE l))), Atom.cells b9 111 (encS (tG l) (tR l) (tE l)), Atom.cells b6 111 (encS (tG l) (tR l) (tE l))], by rw [hok]; rfl, fun _ => ⟨rfl, rfl, rfl⟩, hs2⟩
        · refine BH.takeNo 3 rfl (by kernel_rfl) (by decide +kernel) (by decide +kernel) rfl rfl rfl rfl rfl rfl (by intro a; simp only [List.count_append, List.count_cons, List.count_nil] <;> omega) ?_
          refine BH.takeNo 4 rfl (by kernel_rfl) (by decide +kernel) (by decide +kernel) rfl rfl rfl rfl rfl rfl (by intro a; simp only [List.count_append, List.count_cons, List.count_nil] <;> omega) ?_
          refine BH.takeNo 5 rfl (by kernel_rfl) (by decide +kernel) (by decide +kernel) rfl rfl rfl rfl rfl rfl (by intro a; simp only [List.count_append, List.count_cons, List.count_nil] <;> omega) ?_
          refine BH.takeNo 6 rfl (by kernel_rfl) (by decide +kernel) (by decide +kernel) rfl rfl rfl rfl rfl rfl (by intro a; simp only [List.count_append, List.count_cons, List.count_nil] <;> omega) ?_
          refine BH.takeNo 7 rfl (by kernel_rfl) (by decide +kernel) (by decide +kernel) rfl rfl rfl rfl rfl rfl (by intro a; simp only [List.count_append, List.count_cons, List.count_nil] <;> omega) ?_
          refine BH.takeNo 8 rfl (by kernel_rfl) (by decide +kernel) (by decide +kernel) rfl rfl rfl rfl rfl rfl (by intro a; simp only [List.count_append, List.count_cons, List.count_nil] <;> omega) ?_
          (first | refine BH.take 9 rfl (by kernel_rfl) (by decide +kernel) (by decide +kernel) rfl (o_pickT rfl rfl) rfl (by intro a; simp only [List.count_append, List.count_cons, List.count_nil] <;> omega) ?_ | refine BH.take 9 rfl (by kernel_rfl) (by decide +kernel) (by decide +kernel) rfl (o_pickF rfl rfl) rfl (by intro a; simp only [List.count_append, List.count_cons, List.count_nil] <;> omega) ?_)
          refine BH.branch [10] (by kernel_rfl) (by simp) ?_
          refine BrH.cons rfl rfl ?_ BrH.nil
          refine L.storeW (vs := encS (tG l) (tR l) (tE l)) rfl rfl (by rfl) (by rfl) (by simp [encS, List.forall_mem_cons, Value.oneCell']) ?_
          refine L.nil ?_
          refine BH.go (by intro a; simp only [List.count_append, List.count_cons, List.count_nil] <;> omega) ?_
          refine BH.take 11 rfl (by kernel_rfl) (by decide +kernel) (by decide +kernel) rfl (o_assign rfl) rfl (by intro a; simp only [List.count_append, List.count_cons, List.count_nil] <;> omega) ?_
          refine BH.done (by decide +kernel) ?_
          (repeat (first | refine S.seq ?_ | refine S.region ?_ | refine L.nil ?_ | refine L.p (by first | exact o_assign rfl | exact o_move rfl | exact o_slAll rfl | exact o_arAll rfl | exact o_slHi rfl rfl (by omega) | exact o_slLo rfl rfl (by omega) | exact o_slBoth rfl rfl rfl (by omega) | exact o_arLo rfl rfl (by omega) | exact o_gt rfl rfl | exact o_build rfl | exact o_sub rfl rfl (by unfold I64; omega) | exact o_fld rfl | exact o_load rfl rfl | exact o_load rfl (by assumption) | exact o_eq rfl rfl | exact o_ptrNil rfl rfl | exact o_nilNil rfl rfl | exact o_pickT rfl rfl | exact o_pickF rfl rfl) rfl ?_ | refine L.gYes rfl rfl rfl ?_ | refine L.gNo rfl rfl rfl rfl rfl ?_ | refine L.gUnd rfl rfl rfl rfl ?_ | refine L.store rfl rfl (blt_iff.1 rfl) rfl ?_ | refine S.block ?_ | refine S.pop ?_ | refine S.skip ?_ | refine S.exit rfl ?_ | refine S.condT rfl ?_ | refine S.condF rfl ?_))
          refine S.fin (Fin.two rfl (RV.cellN rfl (Nat.le_refl 3)) (RV.tmp rfl)) (fun w hs => ?_)
          have hm2 : ¬ ((tG l % 2 : Nat) : Int) = (n : Int) := hmod
          have hok : toldOk l n pages = false := decide_eq_false (fun h => by have h1 := h.2.1; have h2 := h.2.2.1; omega)
          have hs2 : Sat w (.cells b9 111 (encS (tG l) (tR l) (tE l)) :: .cells b6 111 (encS (tG l) (tR l) (tE l)) :: H) := hs
          exact ⟨tG l, tR l, tE l, [Atom.cells b9 111 (encS (tG l) (tR l) (tE l)), Atom.cells b6 111 (encS (tG l) (tR l) (tE l))], by rw [hok]; rfl, fun _ => ⟨rfl, rfl, rfl⟩, hs2⟩
      · (repeat (first | refine S.seq ?_ | refine S.region ?_ | refine L.nil ?_ | refine L.p (by first | exact o_assign rfl | exact o_move rfl | exact o_slAll rfl | exact o_arAll rfl | exact o_slHi rfl rfl (by omega) | exact o_slLo rfl rfl (by omega) | exact o_slBoth rfl rfl rfl (by omega) | exact o_arLo rfl rfl (by omega) | exact o_gt rfl rfl | exact o_build rfl | exact o_sub rfl rfl (by unfold I64; omega) | exact o_fld rfl | exact o_load rfl rfl | exact o_load rfl (by assumption) | exact o_eq rfl rfl | exact o_ptrNil rfl rfl | exact o_nilNil rfl rfl | exact o_pickT rfl rfl | exact o_pickF rfl rfl) rfl ?_ | refine L.gYes rfl rfl rfl ?_ | refine L.gNo rfl rfl rfl rfl rfl ?_ | refine L.gUnd rfl rfl rfl rfl ?_ | refine L.store rfl rfl (blt_iff.1 rfl) rfl ?_ | refine S.block ?_ | refine S.pop ?_ | refine S.skip ?_ | refine S.exit rfl ?_ | refine S.condT rfl ?_ | refine S.condF rfl ?_))
        refine S.anyH (id := 6) ([Atom.cells b9 111 [.int .u64 (tG l : Nat), .int .i64 ((tR l : Int) - 1), .int .u64 (tE l : Nat)]]) (by kernel_rfl) ?_
        refine BH.take 0 rfl (by kernel_rfl) (by decide +kernel) (by decide +kernel) rfl (o_loadE (vs := encS (tG l) (tR l) (tE l)) rfl (Nat.le_refl 3) rfl) rfl (by intro a; simp only [List.count_append, List.count_cons, List.count_nil] <;> omega) ?_
        refine BH.take 1 rfl (by kernel_rfl) (by decide +kernel) (by decide +kernel) rfl (o_move rfl) rfl (by intro a; simp only [List.count_append, List.count_cons, List.count_nil] <;> omega) ?_
        refine BH.take 2 rfl (by kernel_rfl) (by decide +kernel) (by decide +kernel) rfl (o_move rfl) rfl (by intro a; simp only [List.count_append, List.count_cons, List.count_nil] <;> omega) ?_
        refine BH.takeNo 3 rfl (by kernel_rfl) (by decide +kernel) (by decide +kernel) rfl rfl rfl rfl rfl rfl (by intro a; simp only [List.count_append, List.count_cons, List.count_nil] <;> omega) ?_
        refine BH.takeNo 4 rfl (by kernel_rfl) (by decide +kernel) (by decide +kernel) rfl rfl rfl rfl rfl rfl (by intro a; simp only [List.count_append, List.count_cons, List.count_nil] <;> omega) ?_
        refine BH.takeNo 5 rfl (by kernel_rfl) (by decide +kernel) (by decide +kernel) rfl rfl rfl rfl rfl rfl (by intro a; simp only [List.count_append, List.count_cons, List.count_nil] <;> omega) ?_
        refine BH.takeNo 6 rfl (by kernel_rfl) (by decide +kernel) (by decide +kernel) rfl rfl rfl rfl rfl rfl (by intro a; simp only [List.count_append, List.count_cons, List.count_nil] <;> omega) ?_
        refine BH.takeNo 7 rfl (by kernel_rfl) (by decide +kernel) (by decide +kernel) rfl rfl rfl rfl rfl rfl (by intro a; simp only [List.count_append, List.count_cons, List.count_nil] <;> omega) ?_
        refine BH.takeNo 8 rfl (by kernel_rfl) (by decide +kernel) (by decide +kernel) rfl rfl rfl rfl rfl rfl (by intro a; simp only [List.count_append, List.count_cons, List.count_nil] <;> omega) ?_
        (first | refine BH.take 9 rfl (by kernel_rfl) (by decide +kernel) (by decide +kernel) rfl (o_pickT rfl rfl) rfl (by intro a; simp only [List.count_append, List.count_cons, List.count_nil] <;> omega) ?_ | refine BH.take 9 rfl (by kernel_rfl) (by decide +kernel) (by decide +kernel) rfl (o_pickF rfl rfl) rfl (by intro a; simp only [List.count_append, List.count_cons, List.count_nil] <;> omega) ?_)
        refine BH.branch [10] (by kernel_rfl) (by simp) ?_
        refine BrH.cons rfl rfl ?_ BrH.nil
        refine L.storeW (vs := encS (tG l) (tR l) (tE l)) rfl rfl (by rfl) (by rfl) (by simp [encS, List.forall_mem_cons, Value.oneCell']) ?_
        refine L.nil ?_
        refine BH.go (by intro a; simp only [List.count_append, List.count_cons, List.count_nil] <;> omega) ?_
        refine BH.take 11 rfl (by kernel_rfl) (by decide +kernel) (by decide +kernel) rfl (o_assign rfl) rfl (by intro a; simp only [List.count_append, List.count_cons, List.count_nil] <;> omega) ?_
        refine BH.done (by decide +kernel) ?_
        (repeat (first | refine S.seq ?_ | refine S.region ?_ | refine L.nil ?_ | refine L.p (by first | exact o_assign rfl | exact o_move rfl | exact o_slAll rfl | exact o_arAll rfl | exact o_slHi rfl rfl (by omega) | exact o_slLo rfl rfl (by omega) | exact o_slBoth rfl rfl rfl (by omega) | exact o_arLo rfl rfl (by omega) | exact o_gt rfl rfl | exact o_build rfl | exact o_sub rfl rfl (by unfold I64; omega) | exact o_fld rfl | exact o_load rfl rfl | exact o_load rfl (by assumption) | exact o_eq rfl rfl | exact o_ptrNil rfl rfl | exact o_nilNil rfl rfl | exact o_pickT rfl rfl | exact o_pickF rfl rfl) rfl ?_ | refine L.gYes rfl rfl rfl ?_ | refine L.gNo rfl rfl rfl rfl rfl ?_ | refine L.gUnd rfl rfl rfl rfl ?_ | refine L.store rfl rfl (blt_iff.1 rfl) rfl ?_ | refine S.block ?_ | refine S.pop ?_ | refine S.skip ?_ | refine S.exit rfl ?_ | refine S.condT rfl ?_ | refine S.condF rfl ?_))
        refine S.fin (Fin.two rfl (RV.cellN rfl (Nat.le_refl 3)) (RV.tmp rfl)) (fun w hs => ?_)
        have hok : toldOk l n pages = false := decide_eq_false (fun h => by have h1 := h.2.1; have h2 := h.2.2.1; omega)
        have hs2 : Sat w (.cells b9 111 (encS (tG l) (tR l) (tE l)) :: .cells b6 111 (encS (tG l) (tR l) (tE l)) :: H) := hs
        exact ⟨tG l, tR l, tE l, [Atom.cells b9 111 (encS (tG l) (tR l) (tE l)), Atom.cells b6 111 (encS (tG l) (tR l) (tE l))], by rw [hok]; rfl, fun _ => ⟨rfl, rfl, rfl⟩, hs2⟩
end Go.Proofs.Ytlecgoebbjnnmaa

