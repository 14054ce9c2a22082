/- Check sums; numbers as bytes. -/
import Derived.Test.YtlecgoebbjnnmaaSpace2
set_option linter.unusedVariables false
set_option linter.unusedSimpArgs false
set_option linter.unusedSectionVars false
set_option linter.constructorNameAsVariable false
set_option maxRecDepth 100000
set_option maxHeartbeats 4000000
namespace Go.Proofs.Ytlecgoebbjnnmaa
open Go
variable [Ref]

def crcBit (s : BitVec 32) : BitVec 32 := if s &&& 1#32 = 0#32 then s >>> 1 else (s >>> 1) ^^^ 3988292384#32
def crcN : Nat → BitVec 32 → BitVec 32
  | 0, s => s
  | n + 1, s => crcN n (crcBit s)
def crcByte (s : BitVec 32) (c : UInt8) : BitVec 32 := crcN 8 (s ^^^ BitVec.ofNat 32 c.toNat)
def crcRun (s : BitVec 32) (l : List UInt8) : BitVec 32 := l.foldl crcByte s
def crcMore (s : BitVec 32) (l : List UInt8) : BitVec 32 := ~~~ crcRun (~~~ s) l
theorem crcN_succ : ∀ n s, crcN (n + 1) s = crcBit (crcN n s)
  | 0, s => rfl
  | n + 1, s => by rw [crcN, crcN_succ n]; rfl
theorem take_snocB {l : List UInt8} {i : Nat} (h : i < l.length) : l.take (i + 1) = l.take i ++ [l[i]] := List.take_succ_eq_append_getElem h
theorem crcRun_snoc (s : BitVec 32) (l : List UInt8) (c : UInt8) : crcRun s (l ++ [c]) = crcByte (crcRun s l) c := by simp [crcRun]
theorem v32_ne {p : BitVec 32} : ((p.toNat : Int) = 0) ↔ p = 0#32 := by
  constructor
  · intro h; apply BitVec.eq_of_toNat_eq; simp; omega
  · rintro rfl; rfl

/-- where a slice of bytes lies -/
inductive BytesAt (H : List Atom) (l : List UInt8) : Option Addr → Nat → Prop
  | none {a : Option Addr} {cap : Nat} (h : l = []) : BytesAt H l a cap
  | mk {b o cap : Nat} {cs : List Value} (hc : l.length ≤ cap) (hh : CellsAt H b cs) (ho : o + l.length ≤ cs.length) (he : (cs.drop o).take l.length = vbs l) : BytesAt H l (some ⟨b, o, Option.none⟩) cap
theorem BytesIn.at {H : List Atom} {v : Value} {l : List UInt8} (h : BytesIn H v l) : ∃ a cap, v = .slice a l.length cap ∧ BytesAt H l a cap := by
  cases h with
  | none => exact ⟨_, _, rfl, .none rfl⟩
  | mk hl hc hh ho he => subst hl; exact ⟨_, _, rfl, .mk hc hh ho he⟩

theorem more_calls {w : World} {H : List Atom} {v : Value} {l : List UInt8} {s : BitVec 32} (hb : BytesIn H v l) (hl : l.length ≤ 1000000000) (hs : Sat w H) :
    Calls Try.prog 101 [v32 s, v].toArray w (fun e w' => e = .returned (v32 (crcMore s l)) ∧ Sat w' H) := by
  obtain ⟨a, cap, rfl, hat⟩ := hb.at
  refine enter Try.func101 rfl Try.ntmps101 rfl hs ?_
  (repeat (first | refine L.p (o_not32 rfl) rfl ?_ | refine S.seq ?_ | refine S.region ?_ | refine L.nil ?_ | refine L.p (by first | exact o_assign rfl | exact o_move rfl | exact o_notT rfl | exact o_notF rfl | exact o_notD rfl | exact o_notB rfl | exact o_lenS rfl | exact o_lenStr rfl | exact o_lt rfl rfl | exact o_idx rfl rfl (by omega) | exact o_idxA rfl rfl (by omega) | exact o_load rfl rfl | exact o_load rfl (by assumption) | exact o_ne rfl rfl | exact o_ptrNilN rfl rfl | exact o_nilNilN rfl rfl | exact o_add rfl rfl (by unfold I64; omega)) rfl ?_ | refine S.block ?_ | refine S.pop ?_ | refine S.skip ?_ | refine S.exit rfl ?_ | refine S.condT rfl ?_ | refine S.condF rfl ?_))
  refine S.loop (G := Nat) (fun i => i ≤ l.length)
    (fun i => [(0, v32 (crcRun (~~~ s) (l.take i))), (10, .slice a l.length cap), (11, .int .i64 l.length), (12, .int .i64 i)])
    (fun i => H) (fun i => l.length - i) 0 (by simp) (by repeat (first | exact trivial | refine ⟨rfl, ?_⟩)) (fun w hs => hs) ?_
  intro i m h1 hm
  (repeat (first | refine S.seq ?_ | refine S.region ?_ | refine L.nil ?_ | refine L.p (by first | exact o_assign rfl | exact o_move rfl | exact o_notT rfl | exact o_notF rfl | exact o_notD rfl | exact o_notB rfl | exact o_lenS rfl | exact o_lenStr rfl | exact o_lt rfl rfl | exact o_idx rfl rfl (by omega) | exact o_idxA rfl rfl (by omega) | exact o_load rfl rfl | exact o_load rfl (by assumption) | exact o_ne rfl rfl | exact o_ptrNilN rfl rfl | exact o_nilNilN rfl rfl | exact o_add rfl rfl (by unfold I64; omega)) rfl ?_ | refine S.block ?_ | refine S.pop ?_ | refine S.skip ?_ | refine S.exit rfl ?_ | refine S.condT rfl ?_ | refine S.condF rfl ?_))
  refine S.condD rfl (fun hi => ?_) (fun hi => ?_)
  · have hi' : i < l.length := by omega
    cases hat with
    | none h => subst h; exact absurd hi' (by simp)
    | @mk b o _ cs hc hh ho he =>
    have g := get_of_part he hi'
    rw [vbs_get l i hi'] at g
    (repeat (first | refine L.p (o_loadA (cs := cs) rfl hh g) rfl ?_ | refine L.p (o_u8to32 (by first | exact Try.underlying5) rfl) rfl ?_ | refine L.p (o_xor32 rfl rfl) rfl ?_ | refine S.seq ?_ | refine S.region ?_ | refine L.nil ?_ | refine L.p (by first | exact o_assign rfl | exact o_move rfl | exact o_notT rfl | exact o_notF rfl | exact o_notD rfl | exact o_notB rfl | exact o_lenS rfl | exact o_lenStr rfl | exact o_lt rfl rfl | exact o_idx rfl rfl (by omega) | exact o_idxA rfl rfl (by omega) | exact o_load rfl rfl | exact o_load rfl (by assumption) | exact o_ne rfl rfl | exact o_ptrNilN rfl rfl | exact o_nilNilN rfl rfl | exact o_add rfl rfl (by unfold I64; omega)) rfl ?_ | refine S.block ?_ | refine S.pop ?_ | refine S.skip ?_ | refine S.exit rfl ?_ | refine S.condT rfl ?_ | refine S.condF rfl ?_))
    refine S.loop (G := Nat × BitVec 32) (fun q => q.1 ≤ 8 ∧ q.2 = crcN q.1 (crcRun (~~~ s) (l.take i) ^^^ BitVec.ofNat 32 l[i].toNat))
      (fun q => [(0, v32 q.2), (10, .slice (some ⟨b, o, none⟩) l.length cap), (11, .int .i64 l.length), (12, .int .i64 i), (20, .int .i64 q.1)])
      (fun q => H) (fun q => 8 - q.1) (0, crcRun (~~~ s) (l.take i) ^^^ BitVec.ofNat 32 l[i].toNat) ⟨by simp, rfl⟩ (by repeat (first | exact trivial | refine ⟨rfl, ?_⟩)) (fun w hs => hs) ?_
    rintro ⟨j, x⟩ m2 ⟨h2, h3⟩ hm2
    simp only at h2 h3 hm2
    dsimp only
    (repeat (first | refine S.seq ?_ | refine S.region ?_ | refine L.nil ?_ | refine L.p (by first | exact o_assign rfl | exact o_move rfl | exact o_notT rfl | exact o_notF rfl | exact o_notD rfl | exact o_notB rfl | exact o_lenS rfl | exact o_lenStr rfl | exact o_lt rfl rfl | exact o_idx rfl rfl (by omega) | exact o_idxA rfl rfl (by omega) | exact o_load rfl rfl | exact o_load rfl (by assumption) | exact o_ne rfl rfl | exact o_ptrNilN rfl rfl | exact o_nilNilN rfl rfl | exact o_add rfl rfl (by unfold I64; omega)) rfl ?_ | refine S.block ?_ | refine S.pop ?_ | refine S.skip ?_ | refine S.exit rfl ?_ | refine S.condT rfl ?_ | refine S.condF rfl ?_))
    refine S.condD rfl (fun hj => ?_) (fun hj => ?_)
    · (repeat (first | refine L.p (o_and32 (q := 1#32) rfl rfl) rfl ?_ | refine L.p (o_shr32 (j := 1) rfl rfl rfl (by decide)) rfl ?_ | refine L.p (o_xor32 (q := 3988292384#32) rfl rfl) rfl ?_ | refine S.seq ?_ | refine S.region ?_ | refine L.nil ?_ | refine L.p (by first | exact o_assign rfl | exact o_move rfl | exact o_notT rfl | exact o_notF rfl | exact o_notD rfl | exact o_notB rfl | exact o_lenS rfl | exact o_lenStr rfl | exact o_lt rfl rfl | exact o_idx rfl rfl (by omega) | exact o_idxA rfl rfl (by omega) | exact o_load rfl rfl | exact o_load rfl (by assumption) | exact o_ne rfl rfl | exact o_ptrNilN rfl rfl | exact o_nilNilN rfl rfl | exact o_add rfl rfl (by unfold I64; omega)) rfl ?_ | refine S.block ?_ | refine S.pop ?_ | refine S.skip ?_ | refine S.exit rfl ?_ | refine S.condT rfl ?_ | refine S.condF rfl ?_))
      refine S.condD rfl (fun hz => ?_) (fun hz => ?_)
      · have hz' : ¬ (x &&& 1#32 = 0#32) := fun e => hz (by rw [e]; rfl)
        (repeat (first | refine L.p (o_xor32 (q := 3988292384#32) rfl rfl) rfl ?_ | refine S.seq ?_ | refine S.region ?_ | refine L.nil ?_ | refine L.p (by first | exact o_assign rfl | exact o_move rfl | exact o_notT rfl | exact o_notF rfl | exact o_notD rfl | exact o_notB rfl | exact o_lenS rfl | exact o_lenStr rfl | exact o_lt rfl rfl | exact o_idx rfl rfl (by omega) | exact o_idxA rfl rfl (by omega) | exact o_load rfl rfl | exact o_load rfl (by assumption) | exact o_ne rfl rfl | exact o_ptrNilN rfl rfl | exact o_nilNilN rfl rfl | exact o_add rfl rfl (by unfold I64; omega)) rfl ?_ | refine S.block ?_ | refine S.pop ?_ | refine S.skip ?_ | refine S.exit rfl ?_ | refine S.condT rfl ?_ | refine S.condF rfl ?_))
        refine S.round (fun ac_ w hac_ hs => ⟨((j + 1, x >>> 1 ^^^ 3988292384#32)), ⟨?_, (by (try dsimp only); omega)⟩, hac_.weaken (look_sub (by repeat (first | exact trivial | refine ⟨rfl, ?_⟩))), (by (try dsimp only); exact hs)⟩)
        exact ⟨by omega, by rw [crcN_succ, ← h3, crcBit, if_neg hz']⟩
      · have hz' : x &&& 1#32 = 0#32 := v32_ne.1 (Decidable.not_not.1 hz)
        (repeat (first | refine S.seq ?_ | refine S.region ?_ | refine L.nil ?_ | refine L.p (by first | exact o_assign rfl | exact o_move rfl | exact o_notT rfl | exact o_notF rfl | exact o_notD rfl | exact o_notB rfl | exact o_lenS rfl | exact o_lenStr rfl | exact o_lt rfl rfl | exact o_idx rfl rfl (by omega) | exact o_idxA rfl rfl (by omega) | exact o_load rfl rfl | exact o_load rfl (by assumption) | exact o_ne rfl rfl | exact o_ptrNilN rfl rfl | exact o_nilNilN rfl rfl | exact o_add rfl rfl (by unfold I64; omega)) rfl ?_ | refine S.block ?_ | refine S.pop ?_ | refine S.skip ?_ | refine S.exit rfl ?_ | refine S.condT rfl ?_ | refine S.condF rfl ?_))
        refine S.round (fun ac_ w hac_ hs => ⟨((j + 1, x >>> 1)), ⟨?_, (by (try dsimp only); omega)⟩, hac_.weaken (look_sub (by repeat (first | exact trivial | refine ⟨rfl, ?_⟩))), (by (try dsimp only); exact hs)⟩)
        exact ⟨by omega, by rw [crcN_succ, ← h3, crcBit, if_pos hz']⟩
    · (repeat (first | refine S.seq ?_ | refine S.region ?_ | refine L.nil ?_ | refine L.p (by first | exact o_assign rfl | exact o_move rfl | exact o_notT rfl | exact o_notF rfl | exact o_notD rfl | exact o_notB rfl | exact o_lenS rfl | exact o_lenStr rfl | exact o_lt rfl rfl | exact o_idx rfl rfl (by omega) | exact o_idxA rfl rfl (by omega) | exact o_load rfl rfl | exact o_load rfl (by assumption) | exact o_ne rfl rfl | exact o_ptrNilN rfl rfl | exact o_nilNilN rfl rfl | exact o_add rfl rfl (by unfold I64; omega)) rfl ?_ | refine S.block ?_ | refine S.pop ?_ | refine S.skip ?_ | refine S.exit rfl ?_ | refine S.condT rfl ?_ | refine S.condF rfl ?_))
      have h8 : j = 8 := by omega
      have hx : x = crcRun (~~~ s) (l.take (i + 1)) := by rw [take_snocB hi', crcRun_snoc, h3, h8]; rfl
      subst hx
      refine S.round (fun ac_ w hac_ hs => ⟨((i + 1)), ⟨?_, (by (try dsimp only); omega)⟩, hac_.weaken (look_sub (by repeat (first | exact trivial | refine ⟨rfl, ?_⟩))), (by (try dsimp only); exact hs)⟩)
      omega
  · (repeat (first | refine L.p (o_not32 rfl) rfl ?_ | refine S.seq ?_ | refine S.region ?_ | refine L.nil ?_ | refine L.p (by first | exact o_assign rfl | exact o_move rfl | exact o_notT rfl | exact o_notF rfl | exact o_notD rfl | exact o_notB rfl | exact o_lenS rfl | exact o_lenStr rfl | exact o_lt rfl rfl | exact o_idx rfl rfl (by omega) | exact o_idxA rfl rfl (by omega) | exact o_load rfl rfl | exact o_load rfl (by assumption) | exact o_ne rfl rfl | exact o_ptrNilN rfl rfl | exact o_nilNilN rfl rfl | exact o_add rfl rfl (by unfold I64; omega)) rfl ?_ | refine S.block ?_ | refine S.pop ?_ | refine S.skip ?_ | refine S.exit rfl ?_ | refine S.condT rfl ?_ | refine S.condF rfl ?_))
    refine S.fin (Fin.one rfl (RV.tmp rfl)) (fun w hs => ?_)
    have : i = l.length := by omega
    subst this
    exact ⟨by rw [List.take_length]; rfl, hs⟩

theorem sum_calls {w : World} {H : List Atom} {v : Value} {l : List UInt8} (hb : BytesIn H v l) (hl : l.length ≤ 1000000000) (hs : Sat w H) :
    Calls Try.prog 91 [v].toArray w (fun e w' => e = .returned (v32 (crcMore 0#32 l)) ∧ Sat w' H) := by
  refine enter Try.func91 rfl Try.ntmps91 rfl hs ?_
  (repeat (first | refine S.seq ?_ | refine S.region ?_ | refine L.nil ?_ | refine L.p (by first | exact o_assign rfl | exact o_move rfl) rfl ?_ | refine S.block ?_ | refine S.pop ?_ | refine S.skip ?_ | refine S.exit rfl ?_ | refine S.condT rfl ?_ | refine S.condF rfl ?_))
  refine L.callR rfl (hc_func Try.func101 (by decide) rfl rfl) rfl (fun w hs => more_calls (s := 0#32) hb hl hs) ?_
  rintro e w' ⟨rfl, hs'⟩
  refine ⟨_, _, rfl, (by assumption), ?_⟩
  (repeat (first | refine S.seq ?_ | refine S.region ?_ | refine L.nil ?_ | refine L.p (by first | exact o_assign rfl | exact o_move rfl) rfl ?_ | refine S.block ?_ | refine S.pop ?_ | refine S.skip ?_ | refine S.exit rfl ?_ | refine S.condT rfl ?_ | refine S.condF rfl ?_))
  refine S.fin (Fin.one rfl (RV.tmp rfl)) (fun w hs => ?_)
  exact ⟨rfl, hs⟩

theorem beN_le {l : List UInt8} {i : Nat} (h : i < l.length) : beN (l.take (i + 1)) = beN (l.take i) * 256 + l[i].toNat := by rw [take_snocB h, beN_snoc]
theorem or256 {a c : Nat} (h : c < 256) : a * 2 ^ 8 ||| c = a * 256 + c := by
  have := Nat.two_pow_add_eq_or_of_lt (b := c) (i := 8) (by omega) a
  rw [Nat.mul_comm, ← this]

theorem number_calls {w : World} {H : List Atom} {v : Value} {l : List UInt8} (hb : BytesIn H v l) (hl : l.length ≤ 8) (hs : Sat w H) :
    Calls Try.prog 85 [v].toArray w (fun e w' => e = .returned (.int .u64 (beN l)) ∧ Sat w' H) := by
  obtain ⟨a, cap, rfl, hat⟩ := hb.at
  refine enter Try.func85 rfl Try.ntmps85 rfl hs ?_
  (repeat (first | refine S.seq ?_ | refine S.region ?_ | refine L.nil ?_ | refine L.p (by first | exact o_assign rfl | exact o_move rfl | exact o_lenS rfl | exact o_lenStr rfl | exact o_lt rfl rfl | exact o_idx rfl rfl (by omega) | exact o_idxA rfl rfl (by omega) | exact o_load rfl rfl | exact o_load rfl (by assumption) | exact o_add rfl rfl (by unfold I64; omega)) rfl ?_ | refine S.block ?_ | refine S.pop ?_ | refine S.skip ?_ | refine S.exit rfl ?_ | refine S.condT rfl ?_ | refine S.condF rfl ?_))
  refine S.loop (G := Nat × Nat) (fun q => q.1 ≤ l.length ∧ q.2 = beN (l.take q.1))
    (fun q => [(3, .int .u64 q.2), (6, .slice a l.length cap), (7, .int .i64 l.length), (8, .int .i64 q.1)])
    (fun q => H) (fun q => l.length - q.1) (0, 0) ⟨by simp, by simp [beN]⟩ (by repeat (first | exact trivial | refine ⟨rfl, ?_⟩)) (fun w hs => hs) ?_
  rintro ⟨i, x⟩ m ⟨h1, h2⟩ hm
  simp only at h1 h2 hm
  dsimp only
  (repeat (first | refine S.seq ?_ | refine S.region ?_ | refine L.nil ?_ | refine L.p (by first | exact o_assign rfl | exact o_move rfl | exact o_lenS rfl | exact o_lenStr rfl | exact o_lt rfl rfl | exact o_idx rfl rfl (by omega) | exact o_idxA rfl rfl (by omega) | exact o_load rfl rfl | exact o_load rfl (by assumption) | exact o_add rfl rfl (by unfold I64; omega)) rfl ?_ | refine S.block ?_ | refine S.pop ?_ | refine S.skip ?_ | refine S.exit rfl ?_ | refine S.condT rfl ?_ | refine S.condF rfl ?_))
  refine S.condD rfl (fun hi => ?_) (fun hi => ?_)
  · have hi' : i < l.length := by omega
    cases hat with
    | none h => subst h; exact absurd hi' (by simp)
    | @mk b o _ cs hc hh ho he =>
    have g := get_of_part he hi'
    rw [vbs_get l i hi'] at g
    have hlt : x < 256 ^ i := by rw [h2]; have := beN_lt (l.take i); rwa [List.length_take, Nat.min_eq_left h1] at this
    have hp : 256 ^ i ≤ 256 ^ 7 := Nat.pow_le_pow_right (by decide) (by omega)
    have hx7 : x < 72057594037927936 := by omega
    have hc8 := l[i].toNat_lt
    (repeat (first | refine L.p (o_loadA (cs := cs) rfl hh g) rfl ?_ | refine L.p (o_shl64 (j := 8) rfl rfl rfl (by decide) (by omega)) rfl ?_ | refine L.p (o_conv (kk := .u64) (k2 := .u8) (r := (l[i].toNat : Int)) rfl (wrap64u (by omega))) rfl ?_ | refine L.p (o_or64 (a := x * 2 ^ 8) (c := l[i].toNat) rfl rfl (by omega) (by omega)) rfl ?_ | refine S.seq ?_ | refine S.region ?_ | refine L.nil ?_ | refine L.p (by first | exact o_assign rfl | exact o_move rfl | exact o_lenS rfl | exact o_lenStr rfl | exact o_lt rfl rfl | exact o_idx rfl rfl (by omega) | exact o_idxA rfl rfl (by omega) | exact o_load rfl rfl | exact o_load rfl (by assumption) | exact o_add rfl rfl (by unfold I64; omega)) rfl ?_ | refine S.block ?_ | refine S.pop ?_ | refine S.skip ?_ | refine S.exit rfl ?_ | refine S.condT rfl ?_ | refine S.condF rfl ?_))
    refine S.round (fun ac_ w hac_ hs => ⟨((i + 1, x * 2 ^ 8 ||| l[i].toNat)), ⟨?_, (by (try dsimp only); omega)⟩, hac_.weaken (look_sub (by repeat (first | exact trivial | refine ⟨rfl, ?_⟩))), (by (try dsimp only); exact hs)⟩)
    exact ⟨by omega, by rw [or256 (by omega), beN_le hi', h2]⟩
  · (repeat (first | refine S.seq ?_ | refine S.region ?_ | refine L.nil ?_ | refine L.p (by first | exact o_assign rfl | exact o_move rfl | exact o_lenS rfl | exact o_lenStr rfl | exact o_lt rfl rfl | exact o_idx rfl rfl (by omega) | exact o_idxA rfl rfl (by omega) | exact o_load rfl rfl | exact o_load rfl (by assumption) | exact o_add rfl rfl (by unfold I64; omega)) rfl ?_ | refine S.block ?_ | refine S.pop ?_ | refine S.skip ?_ | refine S.exit rfl ?_ | refine S.condT rfl ?_ | refine S.condF rfl ?_))
    refine S.fin (Fin.one rfl (RV.tmp rfl)) (fun w hs => ?_)
    have : i = l.length := by omega
    subst this
    exact ⟨by rw [h2, List.take_length], hs⟩

theorem beB_cons : ∀ i n, beB (i + 1) n = UInt8.ofNat (n / 256 ^ i) :: beB i n
  | 0, n => by simp [beB]
  | i + 1, n => by
    rw [beB, beB_cons i, beB]
    simp only [List.cons_append, List.cons.injEq, and_true]
    rw [Nat.div_div_eq_div_mul, Nat.pow_succ, Nat.mul_comm]
theorem setB_cons {xs l : List UInt8} {p : Nat} {c : UInt8} (h : p + 1 + l.length ≤ xs.length) : (setB xs (p + 1) l).set p c = setB xs p (c :: l) := by
  simp only [setB, List.append_assoc, List.length_cons]
  rw [List.set_append, if_pos (by simp; omega)]
  rw [show xs.take (p + 1) = xs.take p ++ [xs[p]] from List.take_succ_eq_append_getElem (by omega)]
  rw [List.set_append, if_neg (by simp; omega)]
  simp only [List.length_take, Nat.min_eq_left (show p ≤ xs.length by omega), Nat.sub_self, List.set_cons_zero, List.append_assoc, List.cons_append, List.nil_append]
  rw [show p + 1 + l.length = p + (l.length + 1) by omega]
theorem vbs_set {xs : List UInt8} {k : Nat} {c : UInt8} : (vbs xs).set k (vb c) = vbs (xs.set k c) := by simp [vbs, List.map_set]

theorem put_calls {w : World} {H : List Atom} {b T o len cap n : Nat} {xs : List UInt8} (hc : len ≤ cap) (h : o + len ≤ xs.length) (hx : xs.length ≤ 1000000) (hn : n < 18446744073709551616) (hs : Sat w (.cells b T (vbs xs) :: H)) :
    Calls Try.prog 90 [.slice (some ⟨b, o, none⟩) len cap, .int .u64 n].toArray w (fun e w' => e = .returned (.tuple #[]) ∧ Sat w' (.cells b T (vbs (setB xs o (beB len n))) :: H)) := by
  refine enter Try.func90 rfl Try.ntmps90 rfl hs ?_
  (repeat (first | refine S.seq ?_ | refine S.region ?_ | refine L.nil ?_ | refine L.p (by first | exact o_move rfl | exact o_lenS rfl | exact o_lenStr rfl | exact o_lt rfl rfl | exact o_assign rfl | exact o_sub rfl rfl (by unfold I64; omega) | exact o_idx rfl rfl (by omega) | exact o_idxA rfl rfl (by omega) | exact o_add rfl rfl (by unfold I64; omega)) rfl ?_ | refine L.store rfl rfl (blt_iff.1 rfl) rfl ?_ | refine S.block ?_ | refine S.pop ?_ | refine S.skip ?_ | refine S.exit rfl ?_ | refine S.condT rfl ?_ | refine S.condF rfl ?_))
  refine S.loop (G := Nat × Nat) (fun q => q.1 ≤ len ∧ q.2 = n / 256 ^ q.1)
    (fun q => [(0, .slice (some ⟨b, o, none⟩) len cap), (1, .int .u64 q.2), (6, .int .i64 len), (7, .int .i64 q.1)])
    (fun q => .cells b T (vbs (setB xs (o + len - q.1) (beB q.1 n))) :: H) (fun q => len - q.1) (0, n) ⟨by simp, by simp⟩ (by repeat (first | exact trivial | refine ⟨rfl, ?_⟩)) (fun w hs => by simpa [beB, setB] using hs) ?_
  rintro ⟨i, y⟩ m ⟨h1, h2⟩ hm
  simp only at h1 h2 hm
  dsimp only
  (repeat (first | refine S.seq ?_ | refine S.region ?_ | refine L.nil ?_ | refine L.p (by first | exact o_move rfl | exact o_lenS rfl | exact o_lenStr rfl | exact o_lt rfl rfl | exact o_assign rfl | exact o_sub rfl rfl (by unfold I64; omega) | exact o_idx rfl rfl (by omega) | exact o_idxA rfl rfl (by omega) | exact o_add rfl rfl (by unfold I64; omega)) rfl ?_ | refine L.store rfl rfl (blt_iff.1 rfl) rfl ?_ | refine S.block ?_ | refine S.pop ?_ | refine S.skip ?_ | refine S.exit rfl ?_ | refine S.condT rfl ?_ | refine S.condF rfl ?_))
  refine S.condD rfl (fun hi => ?_) (fun hi => ?_)
  · have hdl : n / 256 ^ i ≤ n := Nat.div_le_self _ _
    have hlen : (setB xs (o + len - i) (beB i n)).length = xs.length := setB_length (by simp; omega)
    have hst : (vbs (setB xs (o + len - i) (beB i n))).set (o + (len - 1 - i)) (vb (UInt8.ofNat y)) = vbs (setB xs (o + len - (i + 1)) (beB (i + 1) n)) := by
      rw [vbs_set, show o + len - i = (o + (len - 1 - i)) + 1 by omega, setB_cons (by simp; omega), beB_cons, h2, show o + len - (i + 1) = o + (len - 1 - i) by omega]
    have hv8 : IntKind.u8.wrap (y : Int) = ((UInt8.ofNat y).toNat : Int) := by rw [wrap_u8]; simp
    have hvl : (vbs (setB xs (o + len - i) (beB i n))).length = xs.length := by rw [vbs_length, hlen]
    (repeat (first | refine L.p (o_conv (kk := .u8) (k2 := .u64) rfl hv8) rfl ?_ | refine L.p (o_shr64 (j := 8) rfl rfl rfl (by decide)) rfl ?_ | refine S.seq ?_ | refine S.region ?_ | refine L.nil ?_ | refine L.p (by first | exact o_move rfl | exact o_lenS rfl | exact o_lenStr rfl | exact o_lt rfl rfl | exact o_assign rfl | exact o_sub rfl rfl (by unfold I64; omega) | exact o_idx rfl rfl (by omega) | exact o_idxA rfl rfl (by omega) | exact o_add rfl rfl (by unfold I64; omega)) rfl ?_ | refine L.store rfl rfl (blt_iff.1 rfl) rfl ?_ | refine S.block ?_ | refine S.pop ?_ | refine S.skip ?_ | refine S.exit rfl ?_ | refine S.condT rfl ?_ | refine S.condF rfl ?_))
    refine L.store (v := vb (UInt8.ofNat y)) rfl rfl (by rw [hvl]; omega) rfl ?_
    rw [show o + ((len : Int) - 1 - i).toNat = o + (len - 1 - i) by omega, hst]
    (repeat (first | refine L.p (o_shr64 (j := 8) rfl rfl rfl (by decide)) rfl ?_ | refine S.seq ?_ | refine S.region ?_ | refine L.nil ?_ | refine L.p (by first | exact o_move rfl | exact o_lenS rfl | exact o_lenStr rfl | exact o_lt rfl rfl | exact o_assign rfl | exact o_sub rfl rfl (by unfold I64; omega) | exact o_idx rfl rfl (by omega) | exact o_idxA rfl rfl (by omega) | exact o_add rfl rfl (by unfold I64; omega)) rfl ?_ | refine L.store rfl rfl (blt_iff.1 rfl) rfl ?_ | refine S.block ?_ | refine S.pop ?_ | refine S.skip ?_ | refine S.exit rfl ?_ | refine S.condT rfl ?_ | refine S.condF rfl ?_))
    refine S.round (fun ac_ w hac_ hs => ⟨((i + 1, y / 2 ^ 8)), ⟨?_, (by (try dsimp only); omega)⟩, hac_.weaken (look_sub (by repeat (first | exact trivial | refine ⟨rfl, ?_⟩))), (by (try dsimp only); exact hs)⟩)
    exact ⟨by omega, by simp only [h2, Nat.div_div_eq_div_mul, Nat.pow_succ]⟩
  · (repeat (first | refine S.seq ?_ | refine S.region ?_ | refine L.nil ?_ | refine L.p (by first | exact o_move rfl | exact o_lenS rfl | exact o_lenStr rfl | exact o_lt rfl rfl | exact o_assign rfl | exact o_sub rfl rfl (by unfold I64; omega) | exact o_idx rfl rfl (by omega) | exact o_idxA rfl rfl (by omega) | exact o_add rfl rfl (by unfold I64; omega)) rfl ?_ | refine L.store rfl rfl (blt_iff.1 rfl) rfl ?_ | refine S.block ?_ | refine S.pop ?_ | refine S.skip ?_ | refine S.exit rfl ?_ | refine S.condT rfl ?_ | refine S.condF rfl ?_))
    refine S.end (Fin.zero rfl) (fun w hs => ?_)
    have : i = len := by omega
    subst this
    exact ⟨rfl, by simpa using hs⟩
end Go.Proofs.Ytlecgoebbjnnmaa

