/- A text of the proof: a verified executor of the program form, or the contracts of the functions that the law reaches. -/
import Derived.Test.YtpfdelgflppgnabDoorPA
import Derived.Test.YtpfdelgflppgnabDoorShT
import Derived.Test.YtpfdelgflppgnabDoorVP
set_option linter.all false
namespace Go.Vx
open Go Go.RowKit
theorem PartsOK.of {p : api_Param} (h1 : ZeS p = 0) (h2 : Zfn p = 0) : PartsOK p := by
  obtain ⟨hl, _, _⟩ := Zdf h1
  unfold Zfn at h2
  split at h2
  · split at h2
    · rename_i ha hb
      exact ⟨hl, ha, fun x hx => List.all_eq_true.1 hb x hx⟩
    · cases h2
  · cases h2
theorem Zmk {number : Int} {p : api_Param} {out : List api_Cell} {f : Int} {c : api_Cell} (h : c ∈ Zdn number p out f) : c ∈ out ∨ ∃ (i : Int) (j : Nat), j < p.Times.toNat ∧ c = ZhS number p i f j := by
  unfold Zdn at h
  rcases List.mem_append.1 h with h | h
  · exact .inl h
  · obtain ⟨j, hj, rfl⟩ := List.mem_map.1 h
    exact .inr ⟨_, j, by simpa using hj, rfl⟩
theorem ZjT {number : Int} {p : api_Param} {c : api_Cell} : ∀ (fs : List Int) (out : List api_Cell), c ∈ fs.foldl (Zdn number p) out → c ∈ out ∨ ∃ (i f : Int) (j : Nat), f ∈ fs ∧ j < p.Times.toNat ∧ c = ZhS number p i f j
  | [], out, h => .inl h
  | f :: fs, out, h => by
    rcases ZjT fs _ h with h | ⟨i, g, j, h1, h2, h3⟩
    · rcases Zmk h with h | ⟨i, j, h1, h2⟩
      · exact .inl h
      · exact .inr ⟨i, f, j, List.mem_cons_self, h1, h2⟩
    · exact .inr ⟨i, g, j, List.mem_cons_of_mem _ h1, h2, h3⟩
theorem Zhk {number : Int} {p : api_Param} {c : api_Cell} (h : c ∈ cellsN number p) : ∃ (i f : Int) (j : Nat), f ∈ JN p ∧ j < p.Times.toNat ∧ c = ZhS number p i f j := by
  rcases ZjT _ _ h with h | h
  · cases h
  · exact h
theorem Zfi {number : Int} {p : api_Param} (h : PartsOK p) : (cellsN number p).length ≤ 969 := by
  obtain ⟨_, _, hT, _⟩ := Jt h.tim
  have h1 := ZjJ (number := number) (p := p) hT.2 (JN p) []
  have h2 : (JN p).length ≤ 17 := Zi4 p 17 _
  unfold cellsN
  simp only [List.length_nil] at h1
  omega
theorem Zlz {p : api_Param} (h : PartsOK p) {x : api_Part} (hx : x ∈ p.Parts) (f j : Int) : ZcS (Zaw p f j x) := by
  have := JY.1 (h.len.2 x hx)
  unfold ZcS Zaw
  simp only
  omega
theorem ZeI {number : Int} {p : api_Param} (h : PartsOK p) : Zg8 (cellsN number p) := by
  have h0 := Zfi (number := number) h
  refine ⟨by omega, fun c hc => ?_⟩
  obtain ⟨i, f, j, _, _, rfl⟩ := Zhk hc
  have h8 := h.len.1
  refine ⟨by simp [ZhS]; omega, fun x hx => ?_⟩
  obtain ⟨y, hy, rfl⟩ := List.mem_map.1 hx
  exact Zlz h hy _ _
theorem Zmx {l : List api_Cell} (hl : Zg8 l) : loop (t2 (Z6 l)) (([] : List (layout_bit × Int)), 0) = some (cond (okB [] (bitsC l)) (.inr ()) (.inl 5)) := by
  have hl0 := hl.1
  have key : ∀ (n k : Nat) (o : List (layout_bit × Int)), k + n = l.length → loop (t2 (Z6 l)) (o, (k : Int)) = some (cond (okB (mkeys o) (bitsC (l.drop k))) (.inr ()) (.inl 5)) := by
    intro n
    induction n with
    | zero =>
      intro k o hk
      have : k = l.length := by omega
      subst this
      rw [ZG]
      simp [Z6, okB, bitsC]
    | succ n ih =>
      intro k o hk
      obtain ⟨c, hc⟩ := Qm (xs := l) (k := k) (by omega)
      have hlt := Xm hc
      obtain ⟨hp1, hp2⟩ := hl.2 c (List.mem_of_getElem? hc)
      obtain ⟨q, h1, h2⟩ := Zmq 0 hp1 hp2 o
      have e : bitsC (l.drop k) = Q0 c.Places ++ bitsC (l.drop (k + 1)) := by rw [ZP hc]; simp [bitsC]
      have e2 : ((k : Nat) : Int) + 1 = ((k + 1 : Nat) : Int) := by push_cast; rfl
      rw [e, Zcx, ZG]
      simp only [ZbA, Z6, hlt, decide_true, if_true, Z8 hc, Option.bind_some, h1]
      rw [ZN (by omega) (by omega), e2]
      cases hok : okB (mkeys o) (Q0 c.Places) with
      | false => rfl
      | true =>
        have h3 := h2 hok
        have := ih (k + 1) q (by omega)
        have e3 : mkeys q = mkeys o ++ Q0 c.Places := by rw [h3]; simp [mkeys, Function.comp_def]
        rw [e3] at this
        exact this
  have := key l.length 0 [] (by omega)
  exact this
def Zhx (p : api_Param) : Int := if nmL p.Name = true then (if wiL p.Kind 1 6 = true then (if ZeS p = 0 then (if Zfn p = 0 then (if Zjx p = 0 then (if okB [] (bitsC (cellsN 0 p)) = true then (if (cellsN 0 p).length = 0 then 13 else 0) else 5) else Zjx p) else Zfn p) else ZeS p) else 7) else 8
theorem ZiD (p : api_Param) : QJ p = some (Zhx p) := by
  unfold QJ Zhx
  rw [Zhj, Option.bind_some]
  cases h1 : nmL p.Name
  · rfl
  simp only [Bool.not_true, Bool.false_eq_true, if_false, if_true, ZcA, Option.bind_some]
  cases h2 : wiL p.Kind 1 6
  · rfl
  simp only [Bool.not_true, Bool.false_eq_true, if_false, if_true, ZmT, Option.bind_some]
  by_cases h3 : ZeS p = 0
  · by_cases h4 : Zfn p = 0
    · simp only [h3, h4, if_true, decide_true, Bool.not_true, Bool.false_eq_true, if_false, Zm8 h3, Option.bind_some]
      by_cases h5 : Zjx p = 0
      · have hP := PartsOK.of h3 h4
        simp only [h5, if_true, decide_true, Bool.not_true, Bool.false_eq_true, if_false, ZiH hP, Option.bind_some, Zmx (ZeI hP)]
        cases okB [] (bitsC (cellsN 0 p))
        · rfl
        · by_cases h6 : (cellsN 0 p).length = 0
          · simp [h6]
          · have : ¬ (((cellsN 0 p).length : Nat) : Int) = 0 := by omega
            simp only [if_true, if_neg h6, Option.bind_some, cond_true, Sum.elim_inr, t0, this, decide_false, Bool.false_eq_true, if_false]
      · simp [h5]
    · simp [h3, h4]
  · simp [h3]
theorem Zh4 (p : api_Param) (hs : Zbj p) : Jz p = some (Zhx p) := by
  obtain ⟨w1, _, _, _, _, _, _, w2, _⟩ := hs
  unfold Jz Zhx
  rw [ZkT _ w1, Option.bind_some]
  cases h1 : nmL p.Name
  · rfl
  simp only [Bool.not_true, Bool.false_eq_true, if_false, if_true, ZcO, Option.bind_some]
  cases h2 : wiL p.Kind 1 6
  · rfl
  simp only [Bool.not_true, Bool.false_eq_true, if_false, if_true, ZlT, Option.bind_some]
  by_cases h3 : ZeS p = 0
  · simp only [h3, if_true, decide_true, Bool.not_true, Bool.false_eq_true, if_false, Zl4 h3, Option.bind_some]
    by_cases h4 : Zfn p = 0
    · simp only [h4, if_true, decide_true, Bool.not_true, Bool.false_eq_true, if_false, Znt h3 (fun x hx => w2.2 x hx), Option.bind_some]
      by_cases h5 : Zjx p = 0
      · have hP := PartsOK.of h3 h4
        obtain ⟨o', ok', g1, g2⟩ := Zhf (ZeI (number := 0) hP) []
        obtain ⟨g3, _⟩ := g2 [] ⟨rfl, fun p hp => by cases hp⟩
        simp only [h5, if_true, decide_true, Bool.not_true, Bool.false_eq_true, if_false, Zf3 hP, Option.bind_some, g1, g3]
        cases okB [] (bitsC (cellsN 0 p))
        · rfl
        · by_cases h6 : (cellsN 0 p).length = 0
          · simp [h6]
          · have : ¬ (((cellsN 0 p).length : Nat) : Int) = 0 := by omega
            simp only [if_true, if_neg h6, this, decide_false, Bool.false_eq_true, if_false, Bool.not_true]
      · simp [h5]
    · simp [h4]
  · simp [h3]
structure ParOK (p : api_Param) : Prop extends PartsOK p where
  kind : 1 ≤ p.Kind ∧ p.Kind ≤ 6
  bits : 1 ≤ bitsN p ∧ bitsN p ≤ 40
  k4 : p.Kind = 4 → (bitsN p).tmod 4 = 0
  k5 : p.Kind = 5 → bitsN p = 1
  k23 : p.Kind = 2 ∨ p.Kind = 3 → 2 ≤ bitsN p
  k6 : p.Kind = 6 → 1 ≤ p.Names.length ∧ p.Names.length ≤ 64 ∧ (p.Names.length : Int) ≤ 2 ^ (bitsN p).toNat
  uniq : okB [] (bitsC (cellsN 0 p)) = true
theorem ZnU {p : api_Param} (h : Zhx p = 0) : ParOK p := by
  unfold Zhx at h
  by_cases h1 : nmL p.Name = true
  case neg => rw [if_neg h1] at h; cases h
  rw [if_pos h1] at h
  by_cases h2 : wiL p.Kind 1 6 = true
  case neg => rw [if_neg h2] at h; cases h
  rw [if_pos h2] at h
  by_cases h3 : ZeS p = 0
  case neg => rw [if_neg h3] at h; exact absurd h h3
  rw [if_pos h3] at h
  by_cases h4 : Zfn p = 0
  case neg => rw [if_neg h4] at h; exact absurd h h4
  rw [if_pos h4] at h
  by_cases h5 : Zjx p = 0
  case neg => rw [if_neg h5] at h; exact absurd h h5
  rw [if_pos h5] at h
  by_cases h6 : okB [] (bitsC (cellsN 0 p)) = true
  case neg => rw [if_neg h6] at h; cases h
  obtain ⟨hl, hl1, hl40⟩ := Zdf h3
  have hb1 : 1 ≤ bitsN p := by
    have := (Zmu hl.2).1
    unfold bitsN; omega
  have h5' := h5
  unfold Zjx at h5'
  have hk : ZdM p = false := by
    cases hk : ZdM p
    · rfl
    · rw [hk] at h5'; cases h5'
  rw [hk] at h5'
  simp only [ZdM, Bool.or_eq_false_iff, Bool.and_eq_false_iff] at hk
  refine { toPartsOK := PartsOK.of h3 h4, kind := ZdL.1 h2, bits := ⟨hb1, hl40⟩, k4 := ?_, k5 := ?_, k23 := ?_, k6 := ?_, uniq := h6 }
  · intro e; simp [e] at hk; exact hk
  · intro e; simp [e] at hk; exact hk
  · intro e
    have : bitsN p ≠ 1 := by
      intro eb
      rcases e with e | e <;> simp [e, eb] at hk
    omega
  · intro e
    simp only [e, Bool.false_eq_true, if_false, if_true] at h5'
    split at h5'
    · cases h5'
    · split at h5'
      · cases h5'
      · rename_i a b
        simp only [Bool.or_eq_true, decide_eq_true_eq, not_or] at b
        exact ⟨by omega, by omega, by omega⟩
end Go.Vx

namespace Go.Vx
open Go Go.RowKit
theorem ZoH (v : Int) : Jq .i64 v 15 = v % 16 := ZcK (n := 4) (by decide)
theorem Zo8 {b : Int} (h : 1 ≤ b) : (2 : Int) ^ b.toNat = 2 * (2 : Int) ^ (b - 1).toNat := by
  have : b.toNat = (b - 1).toNat + 1 := by omega
  rw [this, Int.pow_succ, Int.mul_comm]
def HH (p : api_Param) : Int := (2 : Int) ^ (bitsN p - 1).toNat
theorem ZhC {p : api_Param} (h : ParOK p) : 1 ≤ HH p ∧ HH p ≤ 549755813888 ∧ (2 : Int) ^ (bitsN p).toNat = 2 * HH p := by
  have hb := h.bits
  have e : ((2 ^ (bitsN p - 1).toNat : Nat) : Int) = HH p := by unfold HH; push_cast; rfl
  have h1 : 1 ≤ 2 ^ (bitsN p - 1).toNat := Nat.one_le_two_pow
  have h2 : 2 ^ (bitsN p - 1).toNat ≤ 2 ^ 39 := Nat.pow_le_pow_right (by decide) (by omega)
  rw [show (2 : Nat) ^ 39 = 549755813888 by decide] at h2
  refine ⟨by omega, by omega, Zo8 hb.1⟩
def NN (p : api_Param) : Nat := ((bitsN p).tdiv 4).toNat
theorem Zlk {p : api_Param} (h : ParOK p) (h4 : p.Kind = 4) : bitsN p = 4 * (NN p : Int) ∧ 1 ≤ NN p ∧ NN p ≤ 10 := by
  have hb := h.bits
  have hk := h.k4 h4
  have e1 : (bitsN p).tmod 4 = bitsN p % 4 := Int.tmod_eq_emod_of_nonneg (by omega)
  have e2 : (bitsN p).tdiv 4 = bitsN p / 4 := Int.tdiv_eq_ediv_of_nonneg (by omega)
  rw [e1] at hk
  unfold NN
  rw [e2]
  omega
def lims (p : api_Param) : Int × Int := if p.Kind = 1 then (0, 2 * HH p - 1) else if p.Kind = 5 then (0, 1) else if p.Kind = 6 then (0, (p.Names.length : Int) - 1) else if p.Kind = 2 then (-HH p, HH p - 1) else if p.Kind = 3 then (1 - HH p, HH p - 1) else (0, 10 ^ NN p - 1)
def bcd : Nat → Nat → Nat
  | 0, _ => 0
  | n + 1, v => v % 10 + 16 * bcd n (v / 10)
def enc (p : api_Param) (v : Int) : Int := if p.Kind = 2 then (if v < 0 then 2 * HH p + v else v) else if p.Kind = 3 then (if v < 0 then HH p - v else v) else if p.Kind = 4 then (bcd (NN p) v.toNat : Int) else v
def dig (raw : Int) (m : Nat) : Int := Jq .i64 (raw.fdiv (2 ^ (4 * m))) 15
def ZeP (raw : Int) : Nat → Int → Bool → Int × Bool
  | 0, v, ok => (v, ok)
  | m + 1, v, ok => ZeP raw m (i64 (i64 (v * 10) + dig raw m)) (ok && decide (dig raw m < 10))
def clr (x : Int × Bool) : Int × Bool := if x.2 = true then (x.1, true) else (0, false)
def dec (p : api_Param) (raw : Int) : Int × Bool := if p.Kind = 1 then (raw, true) else if p.Kind = 5 then (raw, true) else if p.Kind = 6 then (if (p.Names.length : Int) ≤ raw then (0, false) else (raw, true)) else if p.Kind = 2 then (if HH p ≤ raw then (raw - 2 * HH p, true) else (raw, true))
  else if p.Kind = 3 then (if raw = HH p then (0, false) else if HH p < raw then (HH p - raw, true) else (raw, true)) else clr (ZeP raw (NN p) 0 true)
theorem ZfT {n : Nat} (h : n ≤ 10) : (1 : Int) ≤ 10 ^ n ∧ (10 : Int) ^ n ≤ 10000000000 := by
  have e : ((10 ^ n : Nat) : Int) = (10 : Int) ^ n := by push_cast; rfl
  have h1 : 1 ≤ 10 ^ n := Nat.one_le_pow _ _ (by decide)
  have h2 : 10 ^ n ≤ 10 ^ 10 := Nat.pow_le_pow_right (by decide) h
  rw [show (10 : Nat) ^ 10 = 10000000000 by decide] at h2
  omega
theorem ZjF {n : Nat} (hn : n ≤ 10) {body : Int → Int → Option ((Int × Int) ⊕ Int)} (hb : ∀ a i, body a i = if decide (i < (n : Int)) = true then some (.inl (i64 (a * 10), i64 (i + 1))) else some (.inr a)) :
    loop (t2 body) (1, 0) = some ((10 : Int) ^ n) := by
  have := ZcR (body := t2 body) (fun s => ∃ k : Nat, s.2 = k ∧ k ≤ n ∧ s.1 = 10 ^ k) (fun s => n - s.2.toNat) (fun _ => (10 : Int) ^ n) (by
    rintro ⟨a, i⟩ ⟨k, hi, hk, ha⟩
    simp only at hi ha
    subst hi ha
    simp only [ZbA, hb]
    rcases Nat.lt_or_ge k n with h | h
    · left
      have h1 : ((k : Nat) : Int) < (n : Int) := by omega
      have hp := ZfT (n := k) (by omega)
      simp only [h1, decide_true, if_true]
      rw [ZN (by omega) (by omega), ZN (by omega) (by omega)]
      exact ⟨_, rfl, ⟨k + 1, by push_cast; rfl, h, by simp only; rw [Int.pow_succ]⟩, by simp only; omega, trivial⟩
    · have : k = n := by omega
      subst this
      right
      simp) (1, 0) ⟨0, rfl, Nat.zero_le _, rfl⟩
  exact this
theorem Zjw : ∀ n, bcd n 0 = 0
  | 0 => rfl
  | n + 1 => by simp [bcd, Zjw n]
theorem Zkb : ∀ n v, bcd n v < 16 ^ n
  | 0, _ => by simp [bcd]
  | n + 1, v => by
    have := Zkb n (v / 10)
    have h2 := Nat.mod_lt v (show 0 < 10 by decide)
    rw [bcd, Nat.pow_succ]; omega
theorem p16 (k : Nat) : (16 : Nat) ^ k = 2 ^ (4 * k) := by rw [Nat.pow_mul]
theorem ZhH {v k : Nat} (hk : k ≤ 10) : rem (v : Int) 10 = some ((v % 10 : Nat) : Int) ∧ shl .i64 ((v % 10 : Nat) : Int) ((4 * k : Nat) : Int) = some ((2 ^ (4 * k) * (v % 10) : Nat) : Int) ∧ (v < 2 ^ 62 → quo .i64 (v : Int) 10 = some ((v / 10 : Nat) : Int)) := by
  refine ⟨?_, ?_, ?_⟩
  · simp only [rem]
    rw [if_neg (by decide)]
    rw [Int.tmod_eq_emod_of_nonneg (by omega)]; rfl
  · have h1 : v % 10 < 10 := Nat.mod_lt _ (by decide)
    have h2 : 2 ^ (4 * k) ≤ 2 ^ 40 := Nat.pow_le_pow_right (by decide) (by omega)
    have h3 : 2 ^ (4 * k) * (v % 10) ≤ 2 ^ 40 * 10 := Nat.mul_le_mul h2 (by omega)
    have h4 : (2 : Nat) ^ 40 * 10 = 10995116277760 := by decide
    have hm : min (((4 * k : Nat) : Int)).toNat IntKind.i64.bits = 4 * k := by
      have : IntKind.i64.bits = 64 := rfl
      rw [Int.toNat_natCast]; omega
    unfold shl
    rw [if_neg (by omega), hm]
    have e : (((v % 10 : Nat) : Int) * 2 ^ (4 * k)) = ((2 ^ (4 * k) * (v % 10) : Nat) : Int) := by push_cast; rw [Int.mul_comm]
    rw [e]
    congr 1
    exact ZN (by omega) (by omega)
  · intro hv
    have h62 : (2 : Nat) ^ 62 = 4611686018427387904 := by decide
    simp only [quo]
    rw [if_neg (by decide), Int.tdiv_eq_ediv_of_nonneg (by omega)]
    congr 1
    exact ZN (by omega) (by omega)
theorem ZmD {raw k n v : Nat} (hr : raw < 2 ^ (4 * k)) (hkn : k + n ≤ 10) : raw + 2 ^ (4 * k) * bcd n v < 2 ^ 62 := by
  have h1 := Zkb n v
  rw [p16] at h1
  have h2 : 2 ^ (4 * k) * bcd n v ≤ 2 ^ (4 * k) * (2 ^ (4 * n) - 1) := Nat.mul_le_mul_left _ (by omega)
  have h3 : 2 ^ (4 * k) * (2 ^ (4 * n) - 1) = 2 ^ (4 * k + 4 * n) - 2 ^ (4 * k) := by rw [Nat.mul_sub, Nat.mul_one, Nat.pow_add]
  have h4 : 2 ^ (4 * k + 4 * n) ≤ 2 ^ 40 := Nat.pow_le_pow_right (by decide) (by omega)
  have h5 : (2 : Nat) ^ 40 < 2 ^ 62 := by decide
  have h6 : 2 ^ (4 * k) ≤ 2 ^ (4 * k + 4 * n) := Nat.pow_le_pow_right (by decide) (by omega)
  omega
theorem t10 : (10 : Nat) ^ 10 = 10000000000 := by decide
theorem t62 : (2 : Nat) ^ 62 = 4611686018427387904 := by decide
theorem ZoI {k v : Nat} (hv : v < 10000000000) (hk : k ≤ 10) : quo .i64 (v : Int) 10 = some ((v / 10 : Nat) : Int) := by
  obtain ⟨e1, e2, e3⟩ := ZhH (v := v) (k := k) hk
  exact e3 (by rw [t62]; omega)
theorem Zoa {k v raw : Nat} (hr : raw < 2 ^ (4 * k)) (hk : k + 1 ≤ 10) : raw + 2 ^ (4 * k) * (v % 10) < 2 ^ 62 := by
  have hb := ZmD (v := v) (n := 1) hr hk
  simp only [bcd, Nat.mul_zero, Nat.add_zero] at hb
  exact hb
theorem Zly {n k v raw : Nat} (h0 : v ≠ 0) (hv : v < 10000000000) (hr : raw < 2 ^ (4 * k)) (hkn : k + (n + 1) ≤ 10) : ZV (v : Int) (raw : Int) ((4 * k : Nat) : Int) = some (.inl (((v / 10 : Nat) : Int), ((raw + 2 ^ (4 * k) * (v % 10) : Nat) : Int), ((4 * (k + 1) : Nat) : Int))) := by
  have hpos : decide ((0 : Int) < (v : Int)) = true := by rw [decide_eq_true_eq]; omega
  obtain ⟨e1, e2, _⟩ := ZhH (v := v) (k := k) (by omega)
  have e3 := ZoI (k := k) hv (by omega)
  have hb := Zoa (v := v) hr (by omega)
  have hb2 := ZnD hr hb
  have e4 : i64 (((4 * k : Nat) : Int) + 4) = ((4 * (k + 1) : Nat) : Int) := by rw [ZN (by omega) (by omega)]; push_cast; omega
  unfold ZV
  rw [if_pos hpos, e1, Option.bind_some, e2, Option.bind_some, e3, Option.bind_some, hb2, e4]
theorem ZmP {k v raw : Nat} (hr : raw < 2 ^ (4 * k)) : raw + 2 ^ (4 * k) * (v % 10) < 2 ^ (4 * (k + 1)) := by
  have h1 : v % 10 < 10 := Nat.mod_lt _ (by decide)
  have h2 : 2 ^ (4 * (k + 1)) = 2 ^ (4 * k) * 16 := by rw [show 4 * (k + 1) = 4 * k + 4 by omega, Nat.pow_add]
  have h3 : 2 ^ (4 * k) * (v % 10) ≤ 2 ^ (4 * k) * 9 := Nat.mul_le_mul_left _ (by omega)
  omega
theorem ZmR (n k v raw : Nat) : raw + 2 ^ (4 * k) * (v % 10) + 2 ^ (4 * (k + 1)) * bcd n (v / 10) = raw + 2 ^ (4 * k) * bcd (n + 1) v := by
  have h2 : 2 ^ (4 * (k + 1)) = 2 ^ (4 * k) * 16 := by rw [show 4 * (k + 1) = 4 * k + 4 by omega, Nat.pow_add]
  rw [h2, bcd, Nat.mul_add, ← Nat.mul_assoc, Nat.add_assoc]
theorem Zjs (n : Nat) : 10 ^ (n + 1) = 10 ^ n * 10 := Nat.pow_succ ..
theorem Zlm : ∀ (n k v raw : Nat), v < 10 ^ n → raw < 2 ^ (4 * k) → k + n ≤ 10 → loop (t3 ZV) ((v : Int), (raw : Int), ((4 * k : Nat) : Int)) = some ((raw + 2 ^ (4 * k) * bcd n v : Nat) : Int) := by
  intro n
  induction n with
  | zero =>
    intro k v raw hv hr hkn
    have : v = 0 := by simpa using hv
    subst this
    rw [ZG]
    simp [ZV, bcd]
  | succ n ih =>
    intro k v raw hv hr hkn
    by_cases h0 : v = 0
    · subst h0
      rw [ZG]
      simp [ZV, Zjw]
    · have h10 : v < 10000000000 := Nat.lt_of_lt_of_le hv (Nat.le_trans (Nat.pow_le_pow_right (by decide) (by omega : n + 1 ≤ 10)) (Nat.le_of_eq t10))
      have hv2 : v / 10 < 10 ^ n := by
        rw [Zjs] at hv
        exact Nat.div_lt_of_lt_mul (by rw [Nat.mul_comm]; exact hv)
      rw [ZG, Ze0, Zly (n := n) h0 h10 hr hkn]
      have := ih (k + 1) (v / 10) _ hv2 (ZmP (v := v) hr) (by omega)
      rw [ZmR] at this
      exact this
theorem Zir (N : Nat) (hN : N ≤ 10) : ∀ (n k v raw : Nat), v < 2 ^ 62 → raw < 2 ^ (4 * k) → k + n = N → loop (t3 (Xx ((4 * N : Nat) : Int))) ((v : Int), (raw : Int), ((4 * k : Nat) : Int)) = some ((raw + 2 ^ (4 * k) * bcd n v : Nat) : Int)
  | 0, k, v, raw, hv, hr, hkn => by
    have h1 : ¬ ((4 * k : Nat) : Int) < ((4 * N : Nat) : Int) := by omega
    rw [ZG]
    simp only [Ze0, Xx, h1, decide_false, Bool.false_eq_true, if_false, bcd]
    simp
  | n + 1, k, v, raw, hv, hr, hkn => by
    rw [ZG]
    have h1 : ((4 * k : Nat) : Int) < ((4 * N : Nat) : Int) := by omega
    obtain ⟨e1, e2, e3⟩ := ZhH (v := v) (k := k) (by omega)
    have e3 := e3 hv
    have hb := ZmD (v := v) (n := 1) hr (by omega)
    simp only [bcd, Nat.mul_zero, Nat.add_zero] at hb
    have h62 : (2 : Nat) ^ 62 = 4611686018427387904 := by decide
    have h2 : 2 ^ (4 * (k + 1)) = 2 ^ (4 * k) * 16 := by rw [show 4 * (k + 1) = 4 * k + 4 by omega, Nat.pow_add]
    have hr2 : raw + 2 ^ (4 * k) * (v % 10) < 2 ^ (4 * (k + 1)) := by
      have h1 : v % 10 < 10 := Nat.mod_lt _ (by decide)
      have h3 : 2 ^ (4 * k) * (v % 10) ≤ 2 ^ (4 * k) * 9 := Nat.mul_le_mul_left _ (by omega)
      omega
    simp only [Ze0, Xx, h1, decide_true, if_true, e1, e2, e3, Option.bind_some]
    have e5 : i64 ((raw : Int) + ((2 ^ (4 * k) * (v % 10) : Nat) : Int)) = ((raw + 2 ^ (4 * k) * (v % 10) : Nat) : Int) := by rw [ZN (by omega) (by omega)]; push_cast; rfl
    have e4 : i64 (((4 * k : Nat) : Int) + 4) = ((4 * (k + 1) : Nat) : Int) := by rw [ZN (by omega) (by omega)]; push_cast; omega
    rw [e4, e5]
    show loop (t3 (Xx ((4 * N : Nat) : Int))) (((v / 10 : Nat) : Int), ((raw + 2 ^ (4 * k) * (v % 10) : Nat) : Int), ((4 * (k + 1) : Nat) : Int)) = _
    rw [Zir N hN n (k + 1) (v / 10) _ (by omega) hr2 (by omega)]
    rw [h2, bcd, Nat.mul_add, ← Nat.mul_assoc, Nat.add_assoc]
end Go.Vx

namespace Go.Vx
open Go Go.RowKit
theorem ZoY {raw : Int} {m : Nat} (hm : m ≤ 15) : shr .i64 raw ((4 * m : Nat) : Int) = some (raw.fdiv (2 ^ (4 * m))) := by
  have e : min (((4 * m : Nat) : Int)).toNat IntKind.i64.bits = 4 * m := by
    have : IntKind.i64.bits = 64 := rfl
    rw [Int.toNat_natCast]; omega
  unfold shr
  rw [if_neg (by omega), e]
theorem Zli (raw : Int) : ∀ (m : Nat) (v : Int) (ok : Bool), m ≤ 16 → loop (t3 (XR raw)) (v, ok, ((4 * m : Nat) : Int) - 4) = some (ZeP raw m v ok) := by
  intro m
  induction m with
  | zero =>
    intro v ok _
    rw [ZG]
    simp [XR, ZeP]
  | succ m ih =>
    intro v ok hm
    have h1 : ((4 * (m + 1) : Nat) : Int) - 4 = ((4 * m : Nat) : Int) := by push_cast; omega
    have h2 : decide ((0 : Int) ≤ ((4 * m : Nat) : Int)) = true := by rw [decide_eq_true_eq]; omega
    have h3 : i64 (((4 * m : Nat) : Int) - 4) = ((4 * m : Nat) : Int) - 4 := ZN (by omega) (by omega)
    rw [h1, ZG, Ze0]
    unfold XR
    rw [if_pos h2, ZoY (by omega), Option.bind_some, h3]
    exact ih _ _ (by omega)
theorem Zn3 (raw : Int) : JZ raw = some (ZeP raw 16 0 true) := by
  unfold JZ
  have := Zli raw 16 0 true (by omega)
  have e : ((4 * 16 : Nat) : Int) - 4 = 60 := by decide
  rw [e] at this
  rw [this]; generalize ZeP raw 16 0 true = x; rfl
theorem Zhl (raw : Int) : ∀ m v, (ZeP raw m v false).2 = false
  | 0, _ => rfl
  | m + 1, v => by simp only [ZeP, Bool.false_and]; exact Zhl raw m _
theorem ZnL (raw : Int) (m : Nat) : dig raw m = raw.fdiv (2 ^ (4 * m)) % 16 := by unfold dig; rw [ZoH]
theorem Zoj {raw : Int} {n m : Nat} (h0 : 0 ≤ raw) (h1 : raw < 2 ^ (4 * n)) (hm : n ≤ m) : dig raw m = 0 := by
  rw [ZnL]
  have hle : (2 : Nat) ^ (4 * n) ≤ 2 ^ (4 * m) := Nat.pow_le_pow_right (by decide) (by omega)
  have e1 : ((2 ^ (4 * n) : Nat) : Int) = (2 : Int) ^ (4 * n) := by push_cast; rfl
  have e2 : ((2 ^ (4 * m) : Nat) : Int) = (2 : Int) ^ (4 * m) := by push_cast; rfl
  have hlt : raw < (2 : Int) ^ (4 * m) := by omega
  rw [Int.fdiv_eq_ediv_of_nonneg _ (by omega), Int.ediv_eq_zero_of_lt h0 hlt]
  rfl
theorem ZkH {raw : Int} {n : Nat} (h0 : 0 ≤ raw) (h1 : raw < 2 ^ (4 * n)) : ∀ d, ZeP raw (n + d) 0 true = ZeP raw n 0 true
  | 0 => rfl
  | d + 1 => by
    have e : n + (d + 1) = (n + d) + 1 := by omega
    rw [e, ZeP, Zoj h0 h1 (by omega)]
    have : i64 (i64 (0 * 10) + 0) = 0 := by decide
    rw [this]
    simpa using ZkH h0 h1 d
theorem ZoS {b : Int} (h : 1 ≤ b ∧ b ≤ 40) : quo .i64 b 4 = some (b.tdiv 4) := by
  simp only [quo]
  rw [if_neg (by decide)]
  congr 1
  rw [Int.tdiv_eq_ediv_of_nonneg (by omega)]
  exact ZN (by omega) (by omega)
structure NumOK (p : api_Param) (n : layout_number) : Prop where
  low : n.low = (lims p).1
  high : n.high = (lims p).2
  encode : ∀ v, (lims p).1 ≤ v → v ≤ (lims p).2 → n.encode.fn v = some (enc p v)
  decode : ∀ raw, 0 ≤ raw → raw < 2 * HH p → ∃ y, n.decode.fn raw = some y ∧ clr y = dec p raw
theorem ZiG {p : api_Param} (h : ParOK p) (h4 : p.Kind = 4) {v : Int} (h0 : 0 ≤ v) (h1 : v ≤ 10 ^ NN p - 1) : v = (v.toNat : Int) ∧ v.toNat < 10 ^ NN p ∧ v.toNat < 2 ^ 62 := by
  obtain ⟨_, _, hN⟩ := Zlk h h4
  have e : ((10 ^ NN p : Nat) : Int) = (10 : Int) ^ NN p := by push_cast; rfl
  have hp := ZfT hN
  rw [t62]
  omega
theorem HH4 {p : api_Param} (h : ParOK p) (h4 : p.Kind = 4) : 2 * HH p = 2 ^ (4 * NN p) := by
  obtain ⟨e, _, _⟩ := Zlk h h4
  rw [← (ZhC h).2.2, e]
  congr 1
theorem Zj8 {p : api_Param} (h : ParOK p) : ∃ n, Qb p = some n ∧ NumOK p n := by
  obtain ⟨hH1, hH2, hH3⟩ := ZhC h
  have hb := h.bits
  have hk := h.kind
  unfold Qb
  rw [ZdG h.len, Option.bind_some, ZN (by omega) (by omega), Zj0 (by omega) (by omega), Option.bind_some]
  have eH : (2 : Int) ^ (bitsN p - 1).toNat = HH p := rfl
  rw [eH]
  by_cases k1 : p.Kind = 1
  · have e2 : i64 (i64 (2 * HH p) - 1) = 2 * HH p - 1 := by rw [ZN (z := 2 * HH p) (by omega) (by omega), ZN (by omega) (by omega)]
    rw [if_pos (by simpa using k1)]
    refine ⟨_, rfl, ?_, ?_, ?_, ?_⟩
    · simp [lims, k1]
    · simp only [lims, k1, if_true]; exact e2
    · intro v _ _; simp [enc, k1, Q8]
    · intro raw r0 r1
      refine ⟨_, rfl, ?_⟩
      rw [e2]
      have : raw ≤ 2 * HH p - 1 := by omega
      simp [clr, dec, k1, this]
  rw [if_neg (by simpa using k1)]
  by_cases k5 : p.Kind = 5
  · have hb1 := h.k5 k5
    have hHv : HH p = 1 := by unfold HH; rw [hb1]; rfl
    rw [if_pos (by simpa using k5)]
    refine ⟨_, rfl, ?_, ?_, ?_, ?_⟩
    · simp [lims, k5]
    · simp [lims, k5]
    · intro v _ _; simp [enc, k5, Q8]
    · intro raw r0 r1
      refine ⟨_, rfl, ?_⟩
      have : raw ≤ 1 := by omega
      simp [clr, dec, k5, this]
  rw [if_neg (by simpa using k5)]
  by_cases k6 : p.Kind = 6
  · obtain ⟨n1, n2, n3⟩ := h.k6 k6
    have e2 : i64 ((p.Names.length : Int) - 1) = (p.Names.length : Int) - 1 := ZN (by omega) (by omega)
    rw [if_pos (by simpa using k6)]
    refine ⟨_, rfl, ?_, ?_, ?_, ?_⟩
    · simp [lims, k6]
    · simp only [lims, k6]; exact e2
    · intro v _ _; simp [enc, k6, Q8]
    · intro raw r0 r1
      refine ⟨_, rfl, ?_⟩
      rw [e2]
      by_cases hr : (p.Names.length : Int) ≤ raw
      · have : ¬ raw ≤ (p.Names.length : Int) - 1 := by omega
        simp [clr, dec, k6, this, hr]
      · have : raw ≤ (p.Names.length : Int) - 1 := by omega
        simp [clr, dec, k6, this, hr]
  rw [if_neg (by simpa using k6)]
  by_cases k2 : p.Kind = 2
  · rw [if_pos (by simpa using k2)]
    refine ⟨_, rfl, ?_, ?_, ?_, ?_⟩
    · simp only [lims, k2]; exact ZN (by omega) (by omega)
    · simp only [lims, k2]; exact ZN (by omega) (by omega)
    · intro v v0 v1
      have l1 : (lims p).1 = -HH p := by simp [lims, k2]
      have l2 : (lims p).2 = HH p - 1 := by simp [lims, k2]
      rw [l1] at v0; rw [l2] at v1
      show some (Jq .i64 v (i64 (i64 (2 * HH p) - 1))) = _
      rw [ZN (z := 2 * HH p) (by omega) (by omega), ZN (z := 2 * HH p - 1) (by omega) (by omega), ← hH3, ZcK (by omega), hH3]
      congr 1
      by_cases hv : v < 0
      · have : v % (2 * HH p) = 2 * HH p + v := by
          rw [← Int.add_emod_left, Int.emod_eq_of_lt (by omega) (by omega)]
        simp [enc, k2, hv, this]
      · rw [Int.emod_eq_of_lt (by omega) (by omega)]
        simp [enc, k2, hv]
    · intro raw r0 r1
      show ∃ y, Xf raw (HH p) = some y ∧ _
      unfold Xf
      by_cases hr : HH p ≤ raw
      · rw [if_pos (by simpa using hr)]
        refine ⟨_, rfl, ?_⟩
        rw [ZN (z := 2 * HH p) (by omega) (by omega), ZN (by omega) (by omega)]
        simp [clr, dec, k2, hr]
      · rw [if_neg (by simpa using hr)]
        exact ⟨_, rfl, by simp [clr, dec, k2, hr]⟩
  rw [if_neg (by simpa using k2)]
  by_cases k3 : p.Kind = 3
  · rw [if_pos (by simpa using k3)]
    refine ⟨_, rfl, ?_, ?_, ?_, ?_⟩
    · simp only [lims, k3]; exact ZN (by omega) (by omega)
    · simp only [lims, k3]; exact ZN (by omega) (by omega)
    · intro v v0 v1
      have l1 : (lims p).1 = 1 - HH p := by simp [lims, k3]
      have l2 : (lims p).2 = HH p - 1 := by simp [lims, k3]
      rw [l1] at v0; rw [l2] at v1
      show Xh v (HH p) = _
      unfold Xh
      by_cases hv : v < 0
      · rw [if_pos (by simpa using hv), ZN (by omega) (by omega)]; simp [enc, k3, hv]
      · rw [if_neg (by simpa using hv)]; simp [enc, k3, hv]
    · intro raw r0 r1
      show ∃ y, Xe raw (HH p) = some y ∧ _
      unfold Xe
      by_cases hr : HH p ≤ raw
      · rw [if_pos (by simpa using hr)]
        refine ⟨_, rfl, ?_⟩
        rw [ZN (by omega) (by omega)]
        by_cases he : raw = HH p
        · simp [clr, dec, k3, he]
        · have : HH p < raw := by omega
          simp [clr, dec, k3, he, this]
      · have h1 : ¬ raw = HH p := by omega
        have h2 : ¬ HH p < raw := by omega
        rw [if_neg (by simpa using hr)]
        exact ⟨_, rfl, by simp [clr, dec, k3, h1, h2]⟩
  rw [if_neg (by simpa using k3)]
  have k4 : p.Kind = 4 := by omega
  rw [if_pos (by simpa using k4)]
  obtain ⟨hN1, hN2, hN3⟩ := Zlk h k4
  have hNt : (bitsN p).tdiv 4 = (NN p : Int) := by
    rw [Int.tdiv_eq_ediv_of_nonneg (by omega)]; omega
  have hp10 := ZfT hN3
  unfold QI
  rw [ZoS hb, hNt]
  have hL := ZjF hN3 (body := J3 (NN p : Int)) (fun a i => rfl)
  simp only [Option.bind_some]
  rw [hL]
  refine ⟨_, rfl, ?_, ?_, ?_, ?_⟩
  · simp [lims, k4]
  · simp only [lims, k4]; exact ZN (by omega) (by omega)
  · intro v v0 v1
    have l1 : (lims p).1 = 0 := by simp [lims, k4]
    have l2 : (lims p).2 = 10 ^ NN p - 1 := by simp [lims, k4]
    rw [l1] at v0; rw [l2] at v1
    show Xg v = _
    obtain ⟨ev, hv, _⟩ := ZiG h k4 v0 v1
    have := Zlm (NN p) 0 v.toNat 0 hv (by simp) (by omega)
    unfold Xg
    rw [← ev] at this
    have this' : loop (t3 ZV) (v, 0, 0) = _ := this
    rw [this']
    simp [enc, k4, t1]
  · intro raw r0 r1
    refine ⟨_, Zn3 raw, ?_⟩
    have hlt : raw < 2 ^ (4 * NN p) := by rw [← HH4 h k4]; exact r1
    have := ZkH r0 hlt (16 - NN p)
    rw [show NN p + (16 - NN p) = 16 by omega] at this
    rw [this]
    simp [dec, k4]
theorem ZlK {p : api_Param} (h : ParOK p) : Zci p = some (lims p) := by
  obtain ⟨hH1, hH2, hH3⟩ := ZhC h
  have hb := h.bits
  have hk := h.kind
  have eH : shl .i64 1 (i64 (bitsN p - 1)) = some (HH p) := by rw [ZN (by omega) (by omega), Zj0 (by omega) (by omega)]; rfl
  have eH2 : shl .i64 1 (bitsN p) = some (2 * HH p) := by rw [Zj0 (by omega) (by omega), hH3]
  unfold Zci
  rw [ZfD, ZdG h.len, Option.bind_some, eH, eH2]
  have c1 : i64 (-HH p) = -HH p := ZN (by omega) (by omega)
  have c2 : i64 (HH p - 1) = HH p - 1 := ZN (by omega) (by omega)
  have c3 : i64 (-(HH p - 1)) = 1 - HH p := by rw [ZN (by omega) (by omega)]; omega
  have c4 : i64 (2 * HH p - 1) = 2 * HH p - 1 := ZN (by omega) (by omega)
  simp only [Option.bind_some, c1, c2, c3, c4]
  by_cases k2 : p.Kind = 2
  · simp [lims, k2]
  by_cases k3 : p.Kind = 3
  · simp [lims, k3]
  by_cases k4 : p.Kind = 4
  · obtain ⟨hN1, hN2, hN3⟩ := Zlk h k4
    have hNt : (bitsN p).tdiv 4 = (NN p : Int) := by
      rw [Int.tdiv_eq_ediv_of_nonneg (by omega)]; omega
    have hp10 := ZfT hN3
    have hL := ZjF hN3 (body := Zcp (NN p : Int)) (fun a i => rfl)
    rw [if_neg (by simpa using k2), if_neg (by simpa using k3), if_pos (by simpa using k4), ZoS hb, Option.bind_some, hNt]
    unfold Zct
    rw [hL]
    simp only [Option.bind_some, t1]
    rw [ZN (by omega) (by omega)]
    simp [lims, k4]
  by_cases k6 : p.Kind = 6
  · obtain ⟨n1, n2, n3⟩ := h.k6 k6
    rw [if_neg (by simpa using k2), if_neg (by simpa using k3), if_neg (by simpa using k4), if_pos (by simpa using k6), ZN (by omega) (by omega)]
    simp [lims, k6]
  rw [if_neg (by simpa using k2), if_neg (by simpa using k3), if_neg (by simpa using k4), if_neg (by simpa using k6)]
  by_cases k5 : p.Kind = 5
  · have hb1 := h.k5 k5
    have hHv : HH p = 1 := by unfold HH; rw [hb1]; rfl
    simp [lims, k5, hHv]
  · have k1 : p.Kind = 1 := by omega
    simp [lims, k1]
theorem Zlv {p : api_Param} (h : ParOK p) {v : Int} (v0 : (lims p).1 ≤ v) (v1 : v ≤ (lims p).2) : Zcc p v = some (enc p v) := by
  obtain ⟨hH1, hH2, hH3⟩ := ZhC h
  have hb := h.bits
  have hk := h.kind
  have eH : shl .i64 1 (i64 (bitsN p - 1)) = some (HH p) := by rw [ZN (by omega) (by omega), Zj0 (by omega) (by omega)]; rfl
  have eH2 : shl .i64 1 (bitsN p) = some (2 * HH p) := by rw [Zj0 (by omega) (by omega), hH3]
  unfold Zcc
  rw [ZfD, ZdG h.len, Option.bind_some, eH, eH2]
  simp only [Option.bind_some]
  by_cases k2 : p.Kind = 2
  · have l1 : (lims p).1 = -HH p := by simp [lims, k2]
    have l2 : (lims p).2 = HH p - 1 := by simp [lims, k2]
    rw [l1] at v0; rw [l2] at v1
    rw [if_pos (by simpa using k2)]
    by_cases hv : v < 0
    · rw [if_pos (by simpa using hv), ZN (by omega) (by omega)]; simp [enc, k2, hv]
    · rw [if_neg (by simpa using hv)]; simp [enc, k2, hv]
  rw [if_neg (by simpa using k2)]
  by_cases k3 : p.Kind = 3
  · have l1 : (lims p).1 = 1 - HH p := by simp [lims, k3]
    have l2 : (lims p).2 = HH p - 1 := by simp [lims, k3]
    rw [l1] at v0; rw [l2] at v1
    rw [if_pos (by simpa using k3)]
    by_cases hv : v < 0
    · rw [if_pos (by simpa using hv), ZN (by omega) (by omega)]; simp [enc, k3, hv]
    · rw [if_neg (by simpa using hv)]; simp [enc, k3, hv]
  rw [if_neg (by simpa using k3)]
  by_cases k4 : p.Kind = 4
  · have l1 : (lims p).1 = 0 := by simp [lims, k4]
    have l2 : (lims p).2 = 10 ^ NN p - 1 := by simp [lims, k4]
    rw [l1] at v0; rw [l2] at v1
    obtain ⟨hN1, hN2, hN3⟩ := Zlk h k4
    obtain ⟨ev, hv, hv2⟩ := ZiG h k4 v0 v1
    have := Zir (NN p) hN3 (NN p) 0 v.toNat 0 hv2 (by simp) (by omega)
    have eb : ((4 * NN p : Nat) : Int) = bitsN p := by rw [hN1]; push_cast; rfl
    rw [eb, ← ev] at this
    rw [if_pos (by simpa using k4)]
    have this' : loop (t3 (Xx (bitsN p))) (v, 0, 0) = _ := this
    rw [this']
    simp [enc, k4, t1]
  rw [if_neg (by simpa using k4)]
  simp [enc, k2, k3, k4]
end Go.Vx

namespace Go.Vx
open Go Go.RowKit
theorem ZkN {x : Int} (h : x ≠ 0) : (!decide (x = 0)) = true := by simp [h]
end Go.Vx

namespace Go.Vx
open Go Go.RowKit
def allC : Nat → List api_Param → List api_Cell
  | _, [] => []
  | k, x :: tl => cellsN (k : Int) x ++ allC (k + 1) tl
theorem Zk9 {l : List api_Param} {f : api_Param → Option Bool} {g : api_Param → Bool} (hf : ∀ x, f x = some (g x)) (hl : l.length ≤ 1000) : Zw l f = some (l.any g) := by
  have key : loop (t1 (Zv l f)) 0 = some (JQ Sum.inl (Sum.inr ()) (ZW (fun k (x : api_Param) => if g x = true then some (k : Int) else none) 0 l)) := by
    refine Jh (xs := l) _ _ _ (fun k x hx => ?_) (by simp [Zv])
    have hlt := Xm hx
    have hk : i64 ((k : Int) + 1) = (k : Int) + 1 := ZN (by omega) (by omega)
    simp only [Zv, hlt, decide_true, if_true, Z8 hx, Option.bind_some, hk, hf]
    by_cases hg : g x = true <;> simp [hg]
  have fnd : ∀ (k : Nat) (l : List api_Param), (l.any g = false ∧ ZW (fun k (x : api_Param) => if g x = true then some (k : Int) else none) k l = none) ∨ (l.any g = true ∧ ∃ j : Nat, ZW (fun k (x : api_Param) => if g x = true then some (k : Int) else none) k l = some (j : Int)) := by
    intro k l
    induction l generalizing k with
    | nil => left; exact ⟨rfl, rfl⟩
    | cons x l ih =>
      by_cases hx : g x = true
      · right; exact ⟨by simp [hx], k, by simp [ZW, hx]⟩
      · have hx' : g x = false := by simpa using hx
        rcases ih (k + 1) with ⟨h1, h2⟩ | ⟨h1, j, h2⟩
        · left; exact ⟨by rw [List.any_cons, hx', Bool.false_or]; exact h1, by simp only [ZW, hx', Bool.false_eq_true, if_false]; exact h2⟩
        · right; exact ⟨by rw [List.any_cons, hx', Bool.false_or]; exact h1, j, by simp only [ZW, hx', Bool.false_eq_true, if_false]; exact h2⟩
  unfold Zw ZF
  rw [key]
  rcases fnd 0 l with ⟨h1, h2⟩ | ⟨h1, j, h2⟩
  · rw [h2, h1]; rfl
  · rw [h2, h1]; simp [JQ]
def g1M (l : List api_Param) (k : Nat) (x : api_Param) : Option (Int × Int) := if Zhx x = 0 then (if ((l.take k).any fun q => decide (q.Name = x.Name)) = true then some ((k : Int), 5) else none) else some ((k : Int), Zhx x)
theorem ZoT {m : api_Map} (hl : m.Params.length ≤ 200) : loop (t1 (Xc m)) 0 = some (JQ Sum.inl (Sum.inr ()) (ZW (g1M m.Params) 0 m.Params)) := by
  refine Jh (xs := m.Params) _ _ _ (fun k x hx => ?_) (by simp [Xc])
  have hlt := Xm hx
  have hk : i64 ((k : Int) + 1) = (k : Int) + 1 := ZN (by omega) (by omega)
  simp only [Xc, hlt, decide_true, if_true, Z8 hx, Option.bind_some, hk, ZiD, g1M]
  by_cases h : Zhx x = 0
  · rw [if_neg (by simp [h]), if_pos h, ZmY (by omega), Option.bind_some, Zk9 (l := m.Params.take k) (f := fun z0 => X9 z0 x) (g := fun q => decide (q.Name = x.Name)) (fun q => rfl) (by rw [List.length_take]; omega), Option.bind_some]
    by_cases ha : ((m.Params.take k).any fun q => decide (q.Name = x.Name)) = true
    · rw [if_pos ha, if_pos ha]; rfl
    · rw [if_neg ha, if_neg ha]; rfl
  · rw [if_pos (ZkN h), if_neg h]; rfl
theorem Zol {m : api_Map} (hl : m.Params.length ≤ 200) (hs : ZbS m) : loop (t1 (ZaD m)) 0 = some (JQ Sum.inl (Sum.inr ()) (ZW (g1M m.Params) 0 m.Params)) := by
  refine Jh (xs := m.Params) _ _ _ (fun k x hx => ?_) (by simp [ZaD])
  have hlt := Xm hx
  have hk : i64 ((k : Int) + 1) = (k : Int) + 1 := ZN (by omega) (by omega)
  have hw : Zbj x := hs.2.1.2 x (List.mem_of_getElem? hx)
  simp only [ZaD, hlt, decide_true, if_true, Z8 hx, Option.bind_some, hk, Zh4 x hw, g1M]
  by_cases h : Zhx x = 0
  · rw [if_neg (by simp [h]), if_pos h, ZmY (by omega), Option.bind_some]
    have hL := Zix (xs := m.Params.take k) (fun y : api_Param => if y.Name = x.Name then some () else none) (fun _ => (Sum.inl ((k : Int), 5) : (Int × Int) ⊕ Unit)) (Sum.inr ()) (body := ZaE (k : Int) x (m.Params.take k)) (fun j y hy => by
      have hj := Xm hy
      have hj2 : j < 200 := by have := (List.getElem?_eq_some_iff.1 hy).1; rw [List.length_take] at this; omega
      simp only [ZaE, hj, decide_true, if_true, Z8 hy, Option.bind_some]
      rw [ZN (by omega) (by omega)]
      by_cases hxy : y.Name = x.Name <;> simp [hxy]) (by simp [ZaE])
    rw [hL]
    have fnd : ∀ l : List api_Param, Ze4 (fun y : api_Param => if y.Name = x.Name then some () else none) l = if (l.any fun q => decide (q.Name = x.Name)) = true then some () else none := by
      intro l
      induction l with
      | nil => rfl
      | cons y l ih => 
        by_cases hy : y.Name = x.Name
        · simp [Ze4, hy]
        · simp [Ze4, hy, ih]
    rw [fnd]
    by_cases ha : ((m.Params.take k).any fun q => decide (q.Name = x.Name)) = true
    · rw [if_pos ha, if_pos ha]; rfl
    · rw [if_neg ha, if_neg ha]; rfl
  · rw [if_pos (ZkN h), if_neg h]; rfl
theorem ZlA {l : List api_Param} (h : ZW (g1M l) 0 l = none) : ∀ x ∈ l, ParOK x := by
  intro x hx
  obtain ⟨k, hk⟩ := List.getElem?_of_mem hx
  have := Zha 0 l h k x hk
  unfold g1M at this
  by_cases hc : Zhx x = 0
  · exact ZnU hc
  · rw [if_neg hc] at this; cases this
theorem Zmc {number : Int} {p : api_Param} {out : List api_Cell} {f : Int} : (Zdn number p out f).length = out.length + p.Times.toNat := by simp [Zdn]
theorem Zia {number : Int} {p : api_Param} : ∀ (fs : List Int) (out : List api_Cell), (fs.foldl (Zdn number p) out).length = out.length + fs.length * p.Times.toNat
  | [], out => by simp
  | f :: fs, out => by
    rw [List.foldl_cons, Zia fs, Zmc, List.length_cons, Nat.add_mul]; omega
theorem ZjQ (number : Int) (p : api_Param) : (cellsN number p).length = (JN p).length * p.Times.toNat := by
  unfold cellsN
  rw [Zia]; simp
theorem ZlV {m : api_Map} (hl : m.Params.length ≤ 200) (hP : ∀ x ∈ m.Params, ParOK x) : ∃ j, loop (t2 (QP m)) (0, 0) = some (cond (decide ((allC 0 m.Params).length ≤ 4000)) (.inr ()) (.inl (j, 3))) := by
  have key : ∀ (n k : Nat) (c : Nat), k + n = m.Params.length → c ≤ 4000 → ∃ j, loop (t2 (QP m)) ((c : Int), (k : Int)) = some (cond (decide (c + (allC k (m.Params.drop k)).length ≤ 4000)) (.inr ()) (.inl (j, 3))) := by
    intro n
    induction n with
    | zero =>
      intro k c hk hc
      have : k = m.Params.length := by omega
      subst this
      refine ⟨0, ?_⟩
      rw [ZG]
      simp [QP, allC, hc]
    | succ n ih =>
      intro k c hk hc
      obtain ⟨x, hx⟩ := Qm (xs := m.Params) (k := k) (by omega)
      have hlt := Xm hx
      have hp := hP x (List.mem_of_getElem? hx)
      have hlen := Zfi (number := (k : Int)) hp.toPartsOK
      have hE := ZjQ (k : Int) x
      obtain ⟨_, _, hT, _⟩ := Jt hp.tim
      have hT' : (x.Times.toNat : Int) = x.Times := by omega
      have e1 : ((JN x).length : Int) * x.Times = ((cellsN (k : Int) x).length : Int) := by rw [hE]; push_cast; rw [hT']
      rw [ZP hx, ZG]
      simp only [ZbA, QP, hlt, decide_true, if_true, Z8 hx, Option.bind_some, Zje hp.toPartsOK, e1, allC, List.length_append]
      rw [ZN (z := ((cellsN (k : Int) x).length : Int)) (by omega) (by omega), ZN (z := (c : Int) + ((cellsN (k : Int) x).length : Int)) (by omega) (by omega), ZN (z := (k : Int) + 1) (by omega) (by omega)]
      by_cases h4 : (4000 : Int) < (c : Int) + ((cellsN (k : Int) x).length : Int)
      · refine ⟨(k : Int), ?_⟩
        have : decide (c + ((cellsN (k : Int) x).length + (allC (k + 1) (m.Params.drop (k + 1))).length) ≤ 4000) = false := by rw [decide_eq_false_iff_not]; omega
        rw [this, if_pos (by simpa using h4)]; rfl
      · obtain ⟨j, hj⟩ := ih (k + 1) (c + (cellsN (k : Int) x).length) (by omega) (by omega)
        refine ⟨j, ?_⟩
        rw [if_neg (by simpa using h4)]
        rw [Nat.add_assoc] at hj
        rw [← hj]
        rfl
  have := key m.Params.length 0 0 (by omega) (by omega)
  simpa using this
theorem Zlw {m : api_Map} (hl : m.Params.length ≤ 200) (hP : ∀ x ∈ m.Params, ParOK x) : ∃ j, loop (t2 (JA m)) (0, 0) = some (cond (decide ((allC 0 m.Params).length ≤ 4000)) (.inr ()) (.inl (j, 3))) := by
  have key : ∀ (n k : Nat) (c : Nat), k + n = m.Params.length → c ≤ 4000 → ∃ j, loop (t2 (JA m)) ((c : Int), (k : Int)) = some (cond (decide (c + (allC k (m.Params.drop k)).length ≤ 4000)) (.inr ()) (.inl (j, 3))) := by
    intro n
    induction n with
    | zero =>
      intro k c hk hc
      have : k = m.Params.length := by omega
      subst this
      refine ⟨0, ?_⟩
      rw [ZG]
      simp [JA, allC, hc]
    | succ n ih =>
      intro k c hk hc
      obtain ⟨x, hx⟩ := Qm (xs := m.Params) (k := k) (by omega)
      have hlt := Xm hx
      have hp := hP x (List.mem_of_getElem? hx)
      have hlen := Zfi (number := (k : Int)) hp.toPartsOK
      rw [ZP hx, ZG]
      simp only [ZbA, JA, hlt, decide_true, if_true, Z8 hx, Option.bind_some, Zf3 hp.toPartsOK, allC, List.length_append]
      rw [ZN (z := (c : Int) + ((cellsN (k : Int) x).length : Int)) (by omega) (by omega), ZN (z := (k : Int) + 1) (by omega) (by omega)]
      by_cases h4 : (4000 : Int) < (c : Int) + ((cellsN (k : Int) x).length : Int)
      · refine ⟨(k : Int), ?_⟩
        have : decide (c + ((cellsN (k : Int) x).length + (allC (k + 1) (m.Params.drop (k + 1))).length) ≤ 4000) = false := by rw [decide_eq_false_iff_not]; omega
        rw [this, if_pos (by simpa using h4)]; rfl
      · obtain ⟨j, hj⟩ := ih (k + 1) (c + (cellsN (k : Int) x).length) (by omega) (by omega)
        refine ⟨j, ?_⟩
        rw [if_neg (by simpa using h4)]
        rw [Nat.add_assoc] at hj
        rw [← hj]
        rfl
  have := key m.Params.length 0 0 (by omega) (by omega)
  simpa using this
theorem Zpy (i3 : Int) {l : List api_Cell} (hl : Zg8 l) (o : List (layout_bit × Int)) : ∃ q, loop (t2 (QM i3 l)) (o, 0) = some (cond (okB (mkeys o) (bitsC l)) (.inr q) (.inl (i3, 5))) ∧ (okB (mkeys o) (bitsC l) = true → mkeys q = mkeys o ++ bitsC l) := by
  have hl0 := hl.1
  have key : ∀ (n k : Nat) (o : List (layout_bit × Int)), k + n = l.length → ∃ q, loop (t2 (QM i3 l)) (o, (k : Int)) = some (cond (okB (mkeys o) (bitsC (l.drop k))) (.inr q) (.inl (i3, 5))) ∧ (okB (mkeys o) (bitsC (l.drop k)) = true → mkeys q = mkeys o ++ bitsC (l.drop k)) := by
    intro n
    induction n with
    | zero =>
      intro k o hk
      have : k = l.length := by omega
      subst this
      refine ⟨o, ?_, by simp [bitsC]⟩
      rw [ZG]
      simp [QM, okB, bitsC]
    | succ n ih =>
      intro k o hk
      obtain ⟨c, hc⟩ := Qm (xs := l) (k := k) (by omega)
      have hlt := Xm hc
      obtain ⟨hp1, hp2⟩ := hl.2 c (List.mem_of_getElem? hc)
      obtain ⟨q, h1, h2⟩ := Zmq i3 hp1 hp2 o
      have e : bitsC (l.drop k) = Q0 c.Places ++ bitsC (l.drop (k + 1)) := by rw [ZP hc]; simp [bitsC]
      have e2 : ((k : Nat) : Int) + 1 = ((k + 1 : Nat) : Int) := by push_cast; rfl
      rw [e, Zcx, ZG]
      simp only [ZbA, QM, hlt, decide_true, if_true, Z8 hc, Option.bind_some, h1]
      rw [ZN (by omega) (by omega), e2]
      cases hok : okB (mkeys o) (Q0 c.Places) with
      | false => exact ⟨[], rfl, fun h => by cases h⟩
      | true =>
        have h3 := h2 hok
        obtain ⟨q', g1, g2⟩ := ih (k + 1) q (by omega)
        have e3 : mkeys q = mkeys o ++ Q0 c.Places := by rw [h3]; simp [mkeys, Function.comp_def]
        rw [e3] at g1 g2
        refine ⟨q', g1, fun h => ?_⟩
        rw [g2 (by simpa using h)]; simp
  exact key l.length 0 o (by omega)
theorem Zng {m : api_Map} (hl : m.Params.length ≤ 200) (hP : ∀ x ∈ m.Params, ParOK x) : ∃ j, loop (t2 (QN m)) (([] : List (layout_bit × Int)), 0) = some (cond (okB [] (bitsC (allC 0 m.Params))) (.inr ()) (.inl (j, 5))) := by
  have key : ∀ (n k : Nat) (o : List (layout_bit × Int)), k + n = m.Params.length → ∃ j, loop (t2 (QN m)) (o, (k : Int)) = some (cond (okB (mkeys o) (bitsC (allC k (m.Params.drop k)))) (.inr ()) (.inl (j, 5))) := by
    intro n
    induction n with
    | zero =>
      intro k o hk
      have : k = m.Params.length := by omega
      subst this
      refine ⟨0, ?_⟩
      rw [ZG]
      simp [QN, allC, okB, bitsC]
    | succ n ih =>
      intro k o hk
      obtain ⟨x, hx⟩ := Qm (xs := m.Params) (k := k) (by omega)
      have hlt := Xm hx
      have hp := hP x (List.mem_of_getElem? hx)
      obtain ⟨q, h1, h2⟩ := Zpy (k : Int) (ZeI (number := (k : Int)) hp.toPartsOK) o
      have e : bitsC (allC k (m.Params.drop k)) = bitsC (cellsN (k : Int) x) ++ bitsC (allC (k + 1) (m.Params.drop (k + 1))) := by rw [ZP hx]; simp [bitsC, allC]
      rw [e, Zcx, ZG]
      simp only [ZbA, QN, hlt, decide_true, if_true, Z8 hx, Option.bind_some, ZiH hp.toPartsOK, h1]
      rw [ZN (z := (k : Int) + 1) (by omega) (by omega)]
      cases hok : okB (mkeys o) (bitsC (cellsN (k : Int) x)) with
      | false => exact ⟨(k : Int), rfl⟩
      | true =>
        obtain ⟨j, hj⟩ := ih (k + 1) q (by omega)
        rw [h2 hok] at hj
        exact ⟨j, hj⟩
  exact key m.Params.length 0 [] (by omega)
theorem ZlS {m : api_Map} (hl : m.Params.length ≤ 200) (hP : ∀ x ∈ m.Params, ParOK x) : ∃ j, loop (t2 (JB m)) (([] : RT), 0) = some (cond (okB [] (bitsC (allC 0 m.Params))) (.inr ()) (.inl (j, 5))) := by
  have key : ∀ (n k : Nat) (o : RT) (K : List layout_bit), RK o K → k + n = m.Params.length → ∃ j, loop (t2 (JB m)) (o, (k : Int)) = some (cond (okB K (bitsC (allC k (m.Params.drop k)))) (.inr ()) (.inl (j, 5))) := by
    intro n
    induction n with
    | zero =>
      intro k o K hK hk
      have : k = m.Params.length := by omega
      subst this
      refine ⟨0, ?_⟩
      rw [ZG]
      simp [JB, allC, okB, bitsC]
    | succ n ih =>
      intro k o K hK hk
      obtain ⟨x, hx⟩ := Qm (xs := m.Params) (k := k) (by omega)
      have hlt := Xm hx
      have hp := hP x (List.mem_of_getElem? hx)
      obtain ⟨o', ok', h1, h2⟩ := Zhf (ZeI (number := (k : Int)) hp.toPartsOK) o
      obtain ⟨h3, h4⟩ := h2 K hK
      have e : bitsC (allC k (m.Params.drop k)) = bitsC (cellsN (k : Int) x) ++ bitsC (allC (k + 1) (m.Params.drop (k + 1))) := by rw [ZP hx]; simp [bitsC, allC]
      rw [e, Zcx, ZG]
      simp only [ZbA, JB, hlt, decide_true, if_true, Z8 hx, Option.bind_some, Zf3 hp.toPartsOK, h1]
      rw [ZN (z := (k : Int) + 1) (by omega) (by omega), ← h3]
      cases hok : ok' with
      | false => exact ⟨(k : Int), rfl⟩
      | true =>
        obtain ⟨j, hj⟩ := ih (k + 1) o' _ (h4 hok) (by omega)
        exact ⟨j, hj⟩
  exact key m.Params.length 0 [] [] ⟨rfl, fun p hp => by cases hp⟩ (by omega)
def ZhR (m : api_Map) : Int := if wiL m.Version 0 2047 = true then (if m.Params.length ≤ 200 then JQ (fun e => e.2) (if (allC 0 m.Params).length ≤ 4000 then (if okB [] (bitsC (allC 0 m.Params)) = true then 0 else 5) else 3) (ZW (g1M m.Params) 0 m.Params) else 3) else 9
theorem ZmK (m : api_Map) : ∃ a, XQ m = some (a, ZhR m) := by
  unfold XQ ZhR
  rw [ZcA, Option.bind_some]
  cases hw : wiL m.Version 0 2047
  · exact ⟨_, rfl⟩
  by_cases h2 : m.Params.length ≤ 200
  · have h2' : ¬ (200 : Int) < (m.Params.length : Int) := by omega
    rw [if_neg (by simp), if_neg (by simpa using h2'), if_pos rfl, if_pos h2, ZoT h2]
    cases hf : ZW (g1M m.Params) 0 m.Params with
    | some e => exact ⟨e.1, rfl⟩
    | none =>
      have hP := ZlA hf
      obtain ⟨j, hj⟩ := ZlV h2 hP
      obtain ⟨i, hi⟩ := Zng h2 hP
      simp only [Ze5, Option.bind_some, Sum.elim_inr, t0]
      rw [hj]
      by_cases h4 : (allC 0 m.Params).length ≤ 4000
      · rw [decide_eq_true h4, if_pos h4]
        simp only [cond_true, Option.bind_some, Sum.elim_inr]
        rw [hi]
        cases okB [] (bitsC (allC 0 m.Params))
        · exact ⟨i, rfl⟩
        · exact ⟨-1, rfl⟩
      · rw [decide_eq_false h4, if_neg h4]
        exact ⟨j, rfl⟩
  · have h2' : (200 : Int) < (m.Params.length : Int) := by omega
    rw [if_neg (by simp), if_pos (by simpa using h2'), if_pos rfl, if_neg h2]
    exact ⟨_, rfl⟩
theorem Zl1 (m : api_Map) (hs : ZbS m) : ∃ a, ZcM m = some (a, ZhR m) := by
  unfold ZcM ZhR
  rw [ZcO, Option.bind_some]
  cases hw : wiL m.Version 0 2047
  · exact ⟨_, rfl⟩
  by_cases h2 : m.Params.length ≤ 200
  · have h2' : ¬ (200 : Int) < (m.Params.length : Int) := by omega
    rw [if_neg (by simp), if_neg (by simpa using h2'), if_pos rfl, if_pos h2, Zol h2 hs]
    cases hf : ZW (g1M m.Params) 0 m.Params with
    | some e => exact ⟨e.1, rfl⟩
    | none =>
      have hP := ZlA hf
      obtain ⟨j, hj⟩ := Zlw h2 hP
      obtain ⟨i, hi⟩ := ZlS h2 hP
      simp only [Ze5, Option.bind_some, Sum.elim_inr, t0]
      rw [hj]
      by_cases h4 : (allC 0 m.Params).length ≤ 4000
      · rw [decide_eq_true h4, if_pos h4]
        simp only [cond_true, Option.bind_some, Sum.elim_inr]
        rw [hi]
        cases okB [] (bitsC (allC 0 m.Params))
        · exact ⟨i, rfl⟩
        · exact ⟨0, rfl⟩
      · rw [decide_eq_false h4, if_neg h4]
        exact ⟨j, rfl⟩
  · have h2' : (200 : Int) < (m.Params.length : Int) := by omega
    rw [if_neg (by simp), if_pos (by simpa using h2'), if_pos rfl, if_neg h2]
    exact ⟨_, rfl⟩
structure MapOK (m : api_Map) : Prop where
  ver : 0 ≤ m.Version ∧ m.Version ≤ 2047
  len : m.Params.length ≤ 200
  par : ∀ x ∈ m.Params, ParOK x
  cnt : (allC 0 m.Params).length ≤ 4000
  uniq : okB [] (bitsC (allC 0 m.Params)) = true
theorem Zkm {m : api_Map} (h : ZhR m = 0) : MapOK m := by
  unfold ZhR at h
  by_cases h1 : wiL m.Version 0 2047 = true
  case neg => rw [if_neg h1] at h; cases h
  rw [if_pos h1] at h
  by_cases h2 : m.Params.length ≤ 200
  case neg => rw [if_neg h2] at h; cases h
  rw [if_pos h2] at h
  cases hf : ZW (g1M m.Params) 0 m.Params with
  | some e =>
    exfalso
    rw [hf] at h
    have key : ∀ (l : List api_Param) (k : Nat) (tl : List api_Param) (e : Int × Int), ZW (g1M l) k tl = some e → e.2 ≠ 0 := by
      intro l k tl
      induction tl generalizing k with
      | nil => intro e h; cases h
      | cons x tl ih =>
        intro e h
        simp only [ZW] at h
        cases hg : g1M l k x with
        | some e' =>
          rw [hg] at h
          cases h
          unfold g1M at hg
          split at hg
          · split at hg
            · cases hg; exact (by decide : (5 : Int) ≠ 0)
            · cases hg
          · rename_i hne; cases hg; exact hne
        | none => rw [hg] at h; exact ih _ _ h
    exact key _ _ _ _ hf h
  | none =>
    rw [hf] at h
    simp only [Ze5] at h
    by_cases h3 : (allC 0 m.Params).length ≤ 4000
    case neg => rw [if_neg h3] at h; cases h
    rw [if_pos h3] at h
    by_cases h4 : okB [] (bitsC (allC 0 m.Params)) = true
    case neg => rw [if_neg h4] at h; cases h
    exact ⟨ZdL.1 h1, h2, ZlA hf, h3, h4⟩
theorem Ze2 {m : api_Map} (h : MapOK m) {body : List api_Cell → Int → Option ((List api_Cell × Int) ⊕ List api_Cell)} {f : Int → api_Param → Option (List api_Cell)} (hf : ∀ k x, PartsOK x → f k x = some (cellsN k x))
    (hb : ∀ out i, body out i = if decide (i < (m.Params.length : Int)) = true then (idx m.Params i).bind fun x => (f i x).bind fun y => (app out y).bind fun l => some (.inl (l, (i64 (i + 1)))) else some (.inr out)) : loop (t2 body) ([], 0) = some (allC 0 m.Params) := by
  have hl := h.len
  have := Zf5 (xs := m.Params) (body := body) (I := fun out k => out.length + (allC k (m.Params.drop k)).length ≤ 4000) (F := fun out k => out ++ allC k (m.Params.drop k))
    (fun out k x hI hx => by
      have hlt := Xm hx
      have hp := h.par x (List.mem_of_getElem? hx)
      rw [ZP hx] at hI ⊢
      simp only [allC, List.length_append] at hI ⊢
      left
      refine ⟨out ++ cellsN (k : Int) x, ?_, by rw [List.length_append]; omega, by rw [List.append_assoc]⟩
      rw [hb, if_pos (by simpa using hlt), Z8 hx, Option.bind_some, hf _ _ hp.toPartsOK, Option.bind_some, Zhp (by omega), ZN (by omega) (by omega)]
      rfl)
    (fun out hI => by rw [hb, if_neg (by simp)]; simp [allC]) (a0 := []) (by simpa using h.cnt)
  simpa using this
theorem Zma {m : api_Map} (h : MapOK m) : XN m = some (allC 0 m.Params) := by
  unfold XN
  rw [Ze2 h (body := Jv m) (f := Qx) (fun k x hx => ZiH hx k) (fun out i => rfl)]; rfl
theorem Zlt {m : api_Map} (h : MapOK m) : ZaA m = some (allC 0 m.Params) := by
  unfold ZaA
  rw [Ze2 h (body := ZbW m) (f := fun k x => Jn x k) (fun k x hx => Zf3 hx k) (fun out i => rfl)]; rfl
theorem ZkO : ∀ (k : Nat) (l : List api_Param), (∀ x ∈ l, ParOK x) → ∀ c ∈ allC k l, ∃ (j : Nat) (x : api_Param), l[j]? = some x ∧ c ∈ cellsN ((k + j : Nat) : Int) x
  | _, [], _, c, hc => by cases hc
  | k, x :: tl, h, c, hc => by
    rcases List.mem_append.1 hc with hc | hc
    · exact ⟨0, x, rfl, hc⟩
    · obtain ⟨j, y, h1, h2⟩ := ZkO (k + 1) tl (fun z hz => h z (List.mem_cons_of_mem _ hz)) c hc
      exact ⟨j + 1, y, by simpa using h1, by rwa [show k + (j + 1) = k + 1 + j by omega]⟩
theorem ZiY {m : api_Map} (h : MapOK m) {c : api_Cell} (hc : c ∈ allC 0 m.Params) : ∃ (j : Nat) (x : api_Param), m.Params[j]? = some x ∧ ParOK x ∧ c.Param = (j : Int) ∧ ∃ (f : Int) (t : Nat), f ∈ JN x ∧ t < x.Times.toNat ∧ c.Frame = f ∧ c.Places = x.Parts.map (Zaw x f t) := by
  obtain ⟨j, x, h1, h2⟩ := ZkO 0 _ h.par c hc
  have hx := h.par x (List.mem_of_getElem? h1)
  obtain ⟨i, f, t, h3, h4, rfl⟩ := Zhk h2
  exact ⟨j, x, h1, hx, by simp [ZhS], f, t, h3, h4, rfl, rfl⟩
theorem ZmJ {x : api_Param} (h : ParOK x) {f : Int} (hf : f ∈ JN x) {t : Nat} (ht : t < x.Times.toNat) {q : api_Place} (hq : q ∈ x.Parts.map (Zaw x f t)) :
    (0 ≤ q.Frame ∧ q.Frame ≤ 15) ∧ (4 ≤ q.Word ∧ q.Word ≤ 60) ∧ (0 ≤ q.Low ∧ q.Low ≤ 10) ∧ 1 ≤ q.Bits ∧ q.Bits ≤ 11 - q.Low := by
  obtain ⟨hE, hF, hT, hS, _⟩ := Jt h.tim
  obtain ⟨p, hp, rfl⟩ := List.mem_map.1 hq
  have h1 := JY.1 (h.len.2 p hp)
  obtain ⟨f0, _, f2⟩ := Zg5 (p := x) (by omega) 17 x.First f hF.1 hf
  have h2 := of_decide_eq_true (List.all_eq_true.1 f2 p hp)
  have h3 := h.stp p hp
  simp only [stepOK, Bool.and_eq_true, decide_eq_true_eq] at h3
  have h4 : (t : Int) * x.Step ≤ (x.Times - 1) * x.Step := Int.mul_le_mul_of_nonneg_right (by omega) hS
  have h5 : 0 ≤ (t : Int) * x.Step := Int.mul_nonneg (by omega) hS
  unfold Zaw
  simp only
  omega
end Go.Vx

namespace Go.Vx
open Go Go.RowKit
set_option linter.unusedVariables false

noncomputable def ZaX (p : api_Param) (n2 : Int) (i : Int) : Option ((Int × Int) ⊕ (Int)) :=
  if (decide (i < (p.Parts.length : Int))) = true then
  (idx p.Parts i).bind fun x =>
  some (.inl ((i64 (n2 + x.Bits)), (i64 (i + 1))))
  else
  some (.inr n2)
theorem ZeV (p : api_Param) (n2 : Int) (i : Int) : Le (ZaX p n2 i) (QA p n2 i) := by
  unfold ZaX QA
  with_reducible repeat' (first | exact Le.refl _ | apply Le.bind | apply Le.ite | intro _)

noncomputable def XL (p : api_Param) : Option Int :=
  ((Xy (t2 (ZaX p)) (0, 0)) : Option ((Int))).bind (t1 fun (n : Int) =>
  some n)
theorem Zam (p : api_Param) : Le (XL p) (Qv p) := by
  unfold XL Qv
  with_reducible repeat' (first | exact Le.refl _ | apply Le.bind | apply Le.loop | apply Le.t1 | apply Le.t2 | apply ZeV | intro _)
end Go.Vx

namespace Go.Vx
open Go Go.RowKit
def nmC (s : Str) : Option Bool := some (nmL s)
theorem ZlX (s : Str) : Le (nmC s) (XY s) := by rw [Zhj]; exact Le.refl _
noncomputable def Zne (p : api_Param) : Option layout_number :=
  (XL p).bind fun y =>
  (shl .i64 1 (i64 (y - 1))).bind fun q => if p.Kind = 2 then Qq q else none
theorem Zkz (p : api_Param) : Le (Zne p) (Qb p) := by
  unfold Zne Qb
  refine Le.bind (Zam p) fun y => Le.bind (Le.refl _) fun q => ?_
  intro r hr
  split at hr
  · rename_i h
    have e : Qq q = some r := hr
    rw [if_neg (by rw [h]; decide), if_neg (by rw [h]; decide), if_neg (by rw [h]; decide), if_pos (by rw [h]; decide), e]
    rfl
  · cases hr
end Go.Vx

namespace Go.Vx
open Go Go.RowKit
set_option linter.unusedVariables false

noncomputable def Z1 (n : Int) (low : Int) (high : Int) : Option Bool :=
  some ((decide (low ≤ n)) && (decide (n ≤ high)))
theorem Xr (n : Int) (low : Int) (high : Int) : Le (Z1 n low high) (ZO n low high) := by
  unfold Z1 ZO
  with_reducible repeat' (first | exact Le.refl _ | apply Le.bind | intro _)

noncomputable def Jr (p : api_Param) (i : Int) : Option ((Int) ⊕ (Int) ⊕ (Unit)) :=
  if (decide (i < (p.Parts.length : Int))) = true then
  (idx p.Parts i).bind fun x =>
  (Z1 x.Frame 0 15).bind fun y =>
  (gd ((!y) == false) false (Z1 x.Word 4 60)).bind fun y2 =>
  (gd (((!y) || (!y2)) == false) false (Z1 x.Low 0 10)).bind fun y3 =>
  (gd ((((!y) || (!y2)) || (!y3)) == false) false (Z1 x.Bits 1 (i64 (11 - x.Low)))).bind fun y4 =>
  if ((((!y) || (!y2)) || (!y3)) || (!y4)) = true then
  some (.inr (.inl 9))
  else
  some (.inl (i64 (i + 1)))
  else
  some (.inr (.inr ()))
theorem Zdw (p : api_Param) (i : Int) : Le (Jr p i) (ZX p i) := by
  unfold Jr ZX
  with_reducible repeat' (first | exact Le.refl _ | apply Le.bind | apply Le.ite | apply Le.gd | apply Xr | intro _)

noncomputable def XG (s : List Int) (v : Int) (i : Int) : Option ((Int) ⊕ (Int) ⊕ (Unit)) :=
  if (decide (i < (s.length : Int))) = true then
  (idx s i).bind fun x =>
  if (decide (v = x)) = true then
  some (.inr (.inl i))
  else
  some (.inl (i64 (i + 1)))
  else
  some (.inr (.inr ()))
theorem ZcJ (s : List Int) (v : Int) (i : Int) : Le (XG s v i) (ZQ s v i) := by
  unfold XG ZQ
  with_reducible repeat' (first | exact Le.refl _ | apply Le.bind | apply Le.ite | intro _)

noncomputable def Jj (s : List Int) (v : Int) : Option Int :=
  ((Xy (t1 (XG s v)) 0) : Option ((Int) ⊕ (Unit))).bind (Sum.elim (fun q' => some q') (t0 (some (-1))))
theorem Zdp (s : List Int) (v : Int) : Le (Jj s v) (Qy s v) := by
  unfold Jj Qy
  with_reducible repeat' (first | exact Le.refl _ | apply Le.bind | apply Le.loop | apply Le.t0 | apply Le.t1 | apply Le.elim | apply ZcJ | intro _)

noncomputable def XI (s : List Int) (v : Int) : Option Bool :=
  (Jj s v).bind fun y =>
  some (decide (0 ≤ y))
theorem ZcN (s : List Int) (v : Int) : Le (XI s v) (Z3 s v) := by
  unfold XI Z3
  with_reducible repeat' (first | exact Le.refl _ | apply Le.bind | apply Zdp | intro _)

noncomputable def Jm (p : api_Param) (i2 : Int) : Option ((Int) ⊕ (Int) ⊕ (Unit)) :=
  if (decide (i2 < (p.Parts.length : Int))) = true then
  (idx p.Parts i2).bind fun x2 =>
  if ((decide (60 < p.Step)) || (decide (60 < (i64 (x2.Word + (i64 ((i64 (p.Times - 1)) * p.Step))))))) = true then
  some (.inr (.inl 9))
  else
  some (.inl (i64 (i2 + 1)))
  else
  some (.inr (.inr ()))
theorem Zdo (p : api_Param) (i2 : Int) : Le (Jm p i2) (Qi p i2) := by
  unfold Jm Qi
  with_reducible repeat' (first | exact Le.refl _ | apply Le.bind | apply Le.ite | intro _)

noncomputable def Zau (p : api_Param) : Option Int :=
  if (decide ((p.Parts.length : Int) = 0)) = true then
  some 13
  else
  if (decide (8 < (p.Parts.length : Int))) = true then
  some 3
  else
  ((Xy (t1 (Jr p)) 0) : Option ((Int) ⊕ (Unit))).bind (Sum.elim (fun q' => some q') (t0 ((XL p).bind fun y5 =>
  if (decide (40 < y5)) = true then
  some 3
  else
  (XI ([1, 2, 4, 8, 16] : List Int) p.Every).bind fun y6 =>
  (gd ((!y6) == false) false (Z1 p.First 0 (i64 (p.Every - 1)))).bind fun y7 =>
  (gd (((!y6) || (!y7)) == false) false (Z1 p.Times 1 57)).bind fun y8 =>
  if (((((!y6) || (!y7)) || (!y8)) || (decide (p.Step < 0))) || (!((decide (p.Step = 0)) == (decide (p.Times = 1))))) = true then
  some 9
  else
  ((Xy (t1 (Jm p)) 0) : Option ((Int) ⊕ (Unit))).bind (Sum.elim (fun q' => some q') (t0 (some 0))))))
theorem ZeC (p : api_Param) : Le (Zau p) (QE p) := by
  unfold Zau QE
  with_reducible repeat' (first | exact Le.refl _ | apply Le.bind | apply Le.ite | apply Le.gd | apply Le.loop | apply Le.t0 | apply Le.t1 | apply Le.elim | apply Zdw | apply ZcN | apply Xr | apply Zdo | apply Zam | intro _)

noncomputable def QR (s : List Str) (v : Str) (i : Int) : Option ((Int) ⊕ (Int) ⊕ (Unit)) :=
  if (decide (i < (s.length : Int))) = true then
  (idx s i).bind fun x =>
  if (decide (v = x)) = true then
  some (.inr (.inl i))
  else
  some (.inl (i64 (i + 1)))
  else
  some (.inr (.inr ()))
theorem Zbd (s : List Str) (v : Str) (i : Int) : Le (QR s v i) (ZD s v i) := by
  unfold QR ZD
  with_reducible repeat' (first | exact Le.refl _ | apply Le.bind | apply Le.ite | intro _)

noncomputable def Xd (s : List Str) (v : Str) : Option Int :=
  ((Xy (t1 (QR s v)) 0) : Option ((Int) ⊕ (Unit))).bind (Sum.elim (fun q' => some q') (t0 (some (-1))))
theorem Zcg (s : List Str) (v : Str) : Le (Xd s v) (Z2 s v) := by
  unfold Xd Z2
  with_reducible repeat' (first | exact Le.refl _ | apply Le.bind | apply Le.loop | apply Le.t0 | apply Le.t1 | apply Le.elim | apply Zbd | intro _)

noncomputable def QQ (s : List Str) (v : Str) : Option Bool :=
  (Xd s v).bind fun y =>
  some (decide (0 ≤ y))
theorem ZbD (s : List Str) (v : Str) : Le (QQ s v) (ZL s v) := by
  unfold QQ ZL
  with_reducible repeat' (first | exact Le.refl _ | apply Le.bind | apply Zcg | intro _)

noncomputable def Jf (p : api_Param) (i : Int) : Option ((Int) ⊕ (Int) ⊕ (Unit)) :=
  if (decide (i < (p.Names.length : Int))) = true then
  (idx p.Names i).bind fun x =>
  (nmC x).bind fun y2 =>
  if (!y2) = true then
  some (.inr (.inl 8))
  else
  (slc p.Names 0 i).bind fun l =>
  (QQ l x).bind fun y3 =>
  if y3 = true then
  some (.inr (.inl 5))
  else
  some (.inl (i64 (i + 1)))
  else
  some (.inr (.inr ()))
theorem Zdv (p : api_Param) (i : Int) : Le (Jf p i) (Qj p i) := by
  unfold Jf Qj
  with_reducible repeat' (first | exact Le.refl _ | apply Le.bind | apply Le.ite | apply ZbD | apply ZlX | intro _)

noncomputable def Zaq (p : api_Param) : Option Int :=
  (XL p).bind fun y =>
  (gd ((decide (p.Kind = 4)) == true) 0 (rem y 4)).bind fun q =>
  if ((((decide (p.Kind = 4)) && (!decide (q = 0))) || ((decide (p.Kind = 5)) && (!decide (y = 1)))) || (((decide (p.Kind = 2)) || (decide (p.Kind = 3))) && (decide (y = 1)))) = true then
  some 2
  else
  if (!decide (p.Kind = 6)) = true then
  if (decide (0 < (p.Names.length : Int))) = true then
  some 2
  else
  some 0
  else
  if (decide ((p.Names.length : Int) = 0)) = true then
  some 13
  else
  (gd ((decide (64 < (p.Names.length : Int))) == false) 0 (shl .i64 1 y)).bind fun q2 =>
  if ((decide (64 < (p.Names.length : Int))) || (decide (q2 < (p.Names.length : Int)))) = true then
  some 3
  else
  ((Xy (t1 (Jf p)) 0) : Option ((Int) ⊕ (Unit))).bind (Sum.elim (fun q' => some q') (t0 (some 0)))
theorem Zes (p : api_Param) : Le (Zaq p) (QL p) := by
  unfold Zaq QL
  with_reducible repeat' (first | exact Le.refl _ | apply Le.bind | apply Le.ite | apply Le.gd | apply Le.loop | apply Le.t0 | apply Le.t1 | apply Le.elim | apply Zdv | apply Zam | intro _)

noncomputable def Qh (s : List api_Part) (f : api_Part → Option Bool) (i : Int) : Option ((Int) ⊕ (Int) ⊕ (Unit)) :=
  if (decide (i < (s.length : Int))) = true then
  (idx s i).bind fun x =>
  (f x).bind fun y =>
  if y = true then
  some (.inr (.inl i))
  else
  some (.inl (i64 (i + 1)))
  else
  some (.inr (.inr ()))
theorem JI (s : List api_Part) (f : api_Part → Option Bool) (i : Int) (f' : api_Part → Option Bool) (h_f : ∀ z0, Le (f z0) (f' z0)) : Le (Qh s f i) (Zx s f' i) := by
  unfold Qh Zx
  with_reducible repeat' (first | exact Le.refl _ | apply Le.bind | apply Le.ite | apply h_f | intro _)

noncomputable def Qp (s : List api_Part) (f : api_Part → Option Bool) : Option Int :=
  ((Xy (t1 (Qh s f)) 0) : Option ((Int) ⊕ (Unit))).bind (Sum.elim (fun q' => some q') (t0 (some (-1))))
theorem Zak (s : List api_Part) (f : api_Part → Option Bool) (f' : api_Part → Option Bool) (h_f : ∀ z0, Le (f z0) (f' z0)) : Le (Qp s f) (ZI s f') := by
  unfold Qp ZI
  with_reducible repeat' (first | exact Le.refl _ | apply Le.bind | apply Le.loop | apply Le.t0 | apply Le.t1 | apply Le.elim | apply JI | apply h_f | intro _)

noncomputable def Qg (s : List api_Part) (f : api_Part → Option Bool) : Option Bool :=
  (Qp s f).bind fun y =>
  some (decide (0 ≤ y))
theorem JG (s : List api_Part) (f : api_Part → Option Bool) (f' : api_Part → Option Bool) (h_f : ∀ z0, Le (f z0) (f' z0)) : Le (Qg s f) (Zy s f') := by
  unfold Qg Zy
  with_reducible repeat' (first | exact Le.refl _ | apply Le.bind | apply Zak | apply h_f | intro _)

noncomputable def ZbE (x : api_Part) (c0 : Int) : Option Bool :=
  some (decide (16 ≤ (i64 (c0 + x.Frame))))
theorem Ze9 (x : api_Part) (c0 : Int) : Le (ZbE x c0) (QO x c0) := by
  unfold ZbE QO
  with_reducible repeat' (first | exact Le.refl _ | apply Le.bind | intro _)

noncomputable def ZaQ (p : api_Param) (out2 : List Int) (f : Int) : Option (((List Int) × Int) ⊕ ((List Int))) :=
  if (decide (f < 16)) = true then
  (((Qg p.Parts (fun z0 => ZbE z0 f)).bind fun y =>
  if (!y) = true then
  (app out2 ([f] : List Int)).bind fun l =>
  some l
  else
  some out2) : Option (((List Int)))).bind (t1 fun (out3 : List Int) =>
  some (.inl (out3, (i64 (f + p.Every)))))
  else
  some (.inr out2)
theorem ZeW (p : api_Param) (out2 : List Int) (f : Int) : Le (ZaQ p out2 f) (Qd p out2 f) := by
  unfold ZaQ Qd
  with_reducible repeat' (first | exact Le.refl _ | apply Le.bind | apply Le.ite | apply Le.t1 | apply JG | apply Ze9 | intro _)

noncomputable def ZaM (p : api_Param) : Option (List Int) :=
  ((Xy (t2 (ZaQ p)) ([], p.First)) : Option (((List Int)))).bind (t1 fun (out : List Int) =>
  some out)
theorem Zds (p : api_Param) : Le (ZaM p) (Xk p) := by
  unfold ZaM Xk
  with_reducible repeat' (first | exact Le.refl _ | apply Le.bind | apply Le.loop | apply Le.t1 | apply Le.t2 | apply ZeW | intro _)

noncomputable def Zb4 (p : api_Param) (x : api_Part) (f : Int) (j : Int) : Option api_Place :=
  some (api_Place.mk (i64 (f + x.Frame)) (i64 (x.Word + (i64 (j * p.Step)))) x.Low x.Bits)
theorem Zfv (p : api_Param) (x : api_Part) (f : Int) (j : Int) : Le (Zb4 p x f j) (Xt p x f j) := by
  unfold Zb4 Xt
  with_reducible repeat' (first | exact Le.refl _ | apply Le.bind | intro _)

noncomputable def Zav (p : api_Param) (x : Int) (i2 : Int) (Places2 : List api_Place) (i3 : Int) : Option (((List api_Place) × Int) ⊕ ((List api_Place))) :=
  if (decide (i3 < (p.Parts.length : Int))) = true then
  (idx p.Parts i3).bind fun x2 =>
  (Zb4 p x2 x i2).bind fun y2 =>
  (app Places2 ([y2] : List api_Place)).bind fun l =>
  some (.inl (l, (i64 (i3 + 1))))
  else
  some (.inr Places2)
theorem Zeq (p : api_Param) (x : Int) (i2 : Int) (Places2 : List api_Place) (i3 : Int) : Le (Zav p x i2 Places2 i3) (Z5 p x i2 Places2 i3) := by
  unfold Zav Z5
  with_reducible repeat' (first | exact Le.refl _ | apply Le.bind | apply Le.ite | apply Zfv | intro _)

noncomputable def Zat (number : Int) (p : api_Param) (x : Int) (out4 : List api_Cell) (i2 : Int) : Option (((List api_Cell) × Int) ⊕ ((List api_Cell))) :=
  if (decide (i2 < p.Times)) = true then
  ((Xy (t2 (Zav p x i2)) ([], 0)) : Option (((List api_Place)))).bind (t1 fun (Places : List api_Place) =>
  (app out4 ([(api_Cell.mk number (out4.length : Int) x Places)] : List api_Cell)).bind fun l2 =>
  some (.inl (l2, (i64 (i2 + 1)))))
  else
  some (.inr out4)
theorem Zer (number : Int) (p : api_Param) (x : Int) (out4 : List api_Cell) (i2 : Int) : Le (Zat number p x out4 i2) (XS number p x out4 i2) := by
  unfold Zat XS
  with_reducible repeat' (first | exact Le.refl _ | apply Le.bind | apply Le.ite | apply Le.loop | apply Le.t1 | apply Le.t2 | apply Zeq | intro _)

noncomputable def Zar (number : Int) (p : api_Param) (y : (List Int)) (out2 : List api_Cell) (i : Int) : Option (((List api_Cell) × Int) ⊕ ((List api_Cell))) :=
  if (decide (i < (y.length : Int))) = true then
  (((idx y i).bind fun x =>
  Xy (t2 (Zat number p x)) (out2, 0)) : Option (((List api_Cell)))).bind (t1 fun (out3 : List api_Cell) =>
  some (.inl (out3, (i64 (i + 1)))))
  else
  some (.inr out2)
theorem Zen (number : Int) (p : api_Param) (y : (List Int)) (out2 : List api_Cell) (i : Int) : Le (Zar number p y out2 i) (Qs number p y out2 i) := by
  unfold Zar Qs
  with_reducible repeat' (first | exact Le.refl _ | apply Le.bind | apply Le.ite | apply Le.loop | apply Le.t1 | apply Le.t2 | apply Zer | intro _)

noncomputable def X7 (number : Int) (p : api_Param) : Option (List api_Cell) :=
  (((ZaM p).bind fun y =>
  Xy (t2 (Zar number p y)) ([], 0)) : Option (((List api_Cell)))).bind (t1 fun (out : List api_Cell) =>
  some out)
theorem Zbm (number : Int) (p : api_Param) : Le (X7 number p) (Qx number p) := by
  unfold X7 Qx
  with_reducible repeat' (first | exact Le.refl _ | apply Le.bind | apply Le.loop | apply Le.t1 | apply Le.t2 | apply Zds | apply Zen | intro _)

noncomputable def ZaT (x : api_Place) (out2 : List layout_bit) (i : Int) : Option (((List layout_bit) × Int) ⊕ ((List layout_bit))) :=
  if (decide (i < x.Bits)) = true then
  (app out2 ([(layout_bit.mk x.Frame x.Word (i64 (x.Low + i)))] : List layout_bit)).bind fun l =>
  some (.inl (l, (i64 (i + 1))))
  else
  some (.inr out2)
theorem ZeR (x : api_Place) (out2 : List layout_bit) (i : Int) : Le (ZaT x out2 i) (QT x out2 i) := by
  unfold ZaT QT
  with_reducible repeat' (first | exact Le.refl _ | apply Le.bind | apply Le.ite | intro _)

noncomputable def Zcl (x : api_Place) : Option (List layout_bit) :=
  ((Xy (t2 (ZaT x)) ([], 0)) : Option (((List layout_bit)))).bind (t1 fun (out : List layout_bit) =>
  some out)
theorem Zga (x : api_Place) : Le (Zcl x) (XU x) := by
  unfold Zcl XU
  with_reducible repeat' (first | exact Le.refl _ | apply Le.bind | apply Le.loop | apply Le.t1 | apply Le.t2 | apply ZeR | intro _)

noncomputable def Zb1 (owner : Int) (y : (List layout_bit)) (o4 : List (layout_bit × Int)) (i2 : Int) : Option (((List (layout_bit × Int)) × Int) ⊕ (Bool × (List (layout_bit × Int))) ⊕ ((List (layout_bit × Int)))) :=
  if (decide (i2 < (y.length : Int))) = true then
  (idx y i2).bind fun x2 =>
  (some (Zce kq_layout_bit o4 x2)).bind fun o5 =>
  if o5.isSome = true then
  some (.inr (.inl (false, o4)))
  else
  some (.inl ((ZeO kq_layout_bit o4 x2 owner), (i64 (i2 + 1))))
  else
  some (.inr (.inr o4))
theorem ZfW (owner : Int) (y : (List layout_bit)) (o4 : List (layout_bit × Int)) (i2 : Int) : Le (Zb1 owner y o4 i2) (QG owner y o4 i2) := by
  unfold Zb1 QG
  with_reducible repeat' (first | exact Le.refl _ | apply Le.bind | apply Le.ite | intro _)

noncomputable def ZbU (owner : Int) (l : List api_Place) (o2 : List (layout_bit × Int)) (i : Int) : Option (((List (layout_bit × Int)) × Int) ⊕ (Bool × (List (layout_bit × Int))) ⊕ ((List (layout_bit × Int)))) :=
  if (decide (i < (l.length : Int))) = true then
  (((idx l i).bind fun x =>
  (Zcl x).bind fun y =>
  Xy (t2 (Zb1 owner y)) (o2, 0)) : Option ((Bool × (List (layout_bit × Int))) ⊕ ((List (layout_bit × Int))))).bind (Sum.elim (fun q' => some (.inr (.inl q'))) (t1 fun (o3 : List (layout_bit × Int)) =>
  some (.inl (o3, (i64 (i + 1))))))
  else
  some (.inr (.inr o2))
theorem Zfy (owner : Int) (l : List api_Place) (o2 : List (layout_bit × Int)) (i : Int) : Le (ZbU owner l o2 i) (QH owner l o2 i) := by
  unfold ZbU QH
  with_reducible repeat' (first | exact Le.refl _ | apply Le.bind | apply Le.ite | apply Le.loop | apply Le.t1 | apply Le.t2 | apply Le.elim | apply Zga | apply ZfW | intro _)

noncomputable def Zb7 (taken : List (layout_bit × Int)) (owner : Int) (l : List api_Place) : Option (Bool × (List (layout_bit × Int))) :=
  ((Xy (t2 (ZbU owner l)) (taken, 0)) : Option ((Bool × (List (layout_bit × Int))) ⊕ ((List (layout_bit × Int))))).bind (Sum.elim (fun q' => some q') (t1 fun (o : List (layout_bit × Int)) =>
  some (true, o)))
theorem Zd8 (taken : List (layout_bit × Int)) (owner : Int) (l : List api_Place) : Le (Zb7 taken owner l) (Jc taken owner l) := by
  unfold Zb7 Jc
  with_reducible repeat' (first | exact Le.refl _ | apply Le.bind | apply Le.loop | apply Le.t1 | apply Le.t2 | apply Le.elim | apply Zfy | intro _)

noncomputable def Jp (y5 : (List api_Cell)) (taken : List (layout_bit × Int)) (i : Int) : Option (((List (layout_bit × Int)) × Int) ⊕ (Int) ⊕ (Unit)) :=
  if (decide (i < (y5.length : Int))) = true then
  (idx y5 i).bind fun x =>
  (Zb7 taken 0 x.Places).bind fun y6 =>
  if (!y6.1) = true then
  some (.inr (.inl 5))
  else
  some (.inl (y6.2, (i64 (i + 1))))
  else
  some (.inr (.inr ()))
theorem Zdh (y5 : (List api_Cell)) (taken : List (layout_bit × Int)) (i : Int) : Le (Jp y5 taken i) (Z6 y5 taken i) := by
  unfold Jp Z6
  with_reducible repeat' (first | exact Le.refl _ | apply Le.bind | apply Le.ite | apply Zd8 | intro _)

noncomputable def Zax (p : api_Param) : Option Int :=
  (nmC p.Name).bind fun y =>
  if (!y) = true then
  some 8
  else
  (Z1 p.Kind 1 6).bind fun y2 =>
  if (!y2) = true then
  some 7
  else
  (Zau p).bind fun y3 =>
  if (!decide (y3 = 0)) = true then
  some y3
  else
  (Zaq p).bind fun y4 =>
  if (!decide (y4 = 0)) = true then
  some y4
  else
  (X7 0 p).bind fun y5 =>
  ((Xy (t2 (Jp y5)) (([] : List (layout_bit × Int)), 0)) : Option ((Int) ⊕ (Unit))).bind (Sum.elim (fun q' => some q') (t0 (if (decide ((y5.length : Int) = 0)) = true then
  some 13
  else
  some 0)))
theorem Zd0 (p : api_Param) : Le (Zax p) (QJ p) := by
  unfold Zax QJ
  with_reducible repeat' (first | exact Le.refl _ | apply Le.bind | apply Le.ite | apply Le.loop | apply Le.t0 | apply Le.t2 | apply Le.elim | apply Xr | apply ZeC | apply Zes | apply Zbm | apply Zdh | apply ZlX | intro _)

noncomputable def Qc (s : List api_Param) (f : api_Param → Option Bool) (i : Int) : Option ((Int) ⊕ (Int) ⊕ (Unit)) :=
  if (decide (i < (s.length : Int))) = true then
  (idx s i).bind fun x =>
  (f x).bind fun y =>
  if y = true then
  some (.inr (.inl i))
  else
  some (.inl (i64 (i + 1)))
  else
  some (.inr (.inr ()))
theorem Jl (s : List api_Param) (f : api_Param → Option Bool) (i : Int) (f' : api_Param → Option Bool) (h_f : ∀ z0, Le (f z0) (f' z0)) : Le (Qc s f i) (Zv s f' i) := by
  unfold Qc Zv
  with_reducible repeat' (first | exact Le.refl _ | apply Le.bind | apply Le.ite | apply h_f | intro _)

noncomputable def Qk (s : List api_Param) (f : api_Param → Option Bool) : Option Int :=
  ((Xy (t1 (Qc s f)) 0) : Option ((Int) ⊕ (Unit))).bind (Sum.elim (fun q' => some q') (t0 (some (-1))))
theorem JS (s : List api_Param) (f : api_Param → Option Bool) (f' : api_Param → Option Bool) (h_f : ∀ z0, Le (f z0) (f' z0)) : Le (Qk s f) (ZF s f') := by
  unfold Qk ZF
  with_reducible repeat' (first | exact Le.refl _ | apply Le.bind | apply Le.loop | apply Le.t0 | apply Le.t1 | apply Le.elim | apply Jl | apply h_f | intro _)

noncomputable def Z9 (s : List api_Param) (f : api_Param → Option Bool) : Option Bool :=
  (Qk s f).bind fun y =>
  some (decide (0 ≤ y))
theorem Jg (s : List api_Param) (f : api_Param → Option Bool) (f' : api_Param → Option Bool) (h_f : ∀ z0, Le (f z0) (f' z0)) : Le (Z9 s f) (Zw s f') := by
  unfold Z9 Zw
  with_reducible repeat' (first | exact Le.refl _ | apply Le.bind | apply JS | apply h_f | intro _)

noncomputable def Zb3 (q : api_Param) (c0 : api_Param) : Option Bool :=
  some (decide (q.Name = c0.Name))
theorem ZfY (q : api_Param) (c0 : api_Param) : Le (Zb3 q c0) (X9 q c0) := by
  unfold Zb3 X9
  with_reducible repeat' (first | exact Le.refl _ | apply Le.bind | intro _)

noncomputable def Zbv (m : api_Map) (i : Int) : Option ((Int) ⊕ (Int × Int) ⊕ (Unit)) :=
  if (decide (i < (m.Params.length : Int))) = true then
  (idx m.Params i).bind fun x =>
  (Zax x).bind fun y2 =>
  if (!decide (y2 = 0)) = true then
  some (.inr (.inl (i, y2)))
  else
  (slc m.Params 0 i).bind fun l =>
  (Z9 l (fun z0 => Zb3 z0 x)).bind fun y3 =>
  if y3 = true then
  some (.inr (.inl (i, 5)))
  else
  some (.inl (i64 (i + 1)))
  else
  some (.inr (.inr ()))
theorem Zfo (m : api_Map) (i : Int) : Le (Zbv m i) (Xc m i) := by
  unfold Zbv Xc
  with_reducible repeat' (first | exact Le.refl _ | apply Le.bind | apply Le.ite | apply Zd0 | apply Jg | apply ZfY | intro _)

noncomputable def Zbq (m : api_Map) (cells : Int) (i2 : Int) : Option ((Int × Int) ⊕ (Int × Int) ⊕ (Unit)) :=
  if (decide (i2 < (m.Params.length : Int))) = true then
  (idx m.Params i2).bind fun x2 =>
  (ZaM x2).bind fun y4 =>
  if (decide (4000 < (i64 (cells + (i64 ((y4.length : Int) * x2.Times)))))) = true then
  some (.inr (.inl (i2, 3)))
  else
  some (.inl ((i64 (cells + (i64 ((y4.length : Int) * x2.Times)))), (i64 (i2 + 1))))
  else
  some (.inr (.inr ()))
theorem Ze6 (m : api_Map) (cells : Int) (i2 : Int) : Le (Zbq m cells i2) (QP m cells i2) := by
  unfold Zbq QP
  with_reducible repeat' (first | exact Le.refl _ | apply Le.bind | apply Le.ite | apply Zds | intro _)

noncomputable def Zbk (i3 : Int) (y5 : (List api_Cell)) (taken3 : List (layout_bit × Int)) (i4 : Int) : Option (((List (layout_bit × Int)) × Int) ⊕ (Int × Int) ⊕ ((List (layout_bit × Int)))) :=
  if (decide (i4 < (y5.length : Int))) = true then
  (idx y5 i4).bind fun x4 =>
  (Zb7 taken3 i3 x4.Places).bind fun y6 =>
  if (!y6.1) = true then
  some (.inr (.inl (i3, 5)))
  else
  some (.inl (y6.2, (i64 (i4 + 1))))
  else
  some (.inr (.inr taken3))
theorem Ze8 (i3 : Int) (y5 : (List api_Cell)) (taken3 : List (layout_bit × Int)) (i4 : Int) : Le (Zbk i3 y5 taken3 i4) (QM i3 y5 taken3 i4) := by
  unfold Zbk QM
  with_reducible repeat' (first | exact Le.refl _ | apply Le.bind | apply Le.ite | apply Zd8 | intro _)

noncomputable def ZbC (m : api_Map) (taken : List (layout_bit × Int)) (i3 : Int) : Option (((List (layout_bit × Int)) × Int) ⊕ (Int × Int) ⊕ (Unit)) :=
  if (decide (i3 < (m.Params.length : Int))) = true then
  (((idx m.Params i3).bind fun x3 =>
  (X7 i3 x3).bind fun y5 =>
  Xy (t2 (Zbk i3 y5)) (taken, 0)) : Option ((Int × Int) ⊕ ((List (layout_bit × Int))))).bind (Sum.elim (fun q' => some (.inr (.inl q'))) (t1 fun (taken2 : List (layout_bit × Int)) =>
  some (.inl (taken2, (i64 (i3 + 1))))))
  else
  some (.inr (.inr ()))
theorem Zfg (m : api_Map) (taken : List (layout_bit × Int)) (i3 : Int) : Le (ZbC m taken i3) (QN m taken i3) := by
  unfold ZbC QN
  with_reducible repeat' (first | exact Le.refl _ | apply Le.bind | apply Le.ite | apply Le.loop | apply Le.t1 | apply Le.t2 | apply Le.elim | apply Zbm | apply Ze8 | intro _)

noncomputable def Zbs (m : api_Map) : Option (Int × Int) :=
  (Z1 m.Version 0 2047).bind fun y =>
  if (!y) = true then
  some ((-1), 9)
  else
  if (decide (200 < (m.Params.length : Int))) = true then
  some ((-1), 3)
  else
  ((Xy (t1 (Zbv m)) 0) : Option ((Int × Int) ⊕ (Unit))).bind (Sum.elim (fun q' => some q') (t0 (((Xy (t2 (Zbq m)) (0, 0)) : Option ((Int × Int) ⊕ (Unit))).bind (Sum.elim (fun q' => some q') (t0 (((Xy (t2 (ZbC m)) (([] : List (layout_bit × Int)), 0)) : Option ((Int × Int) ⊕ (Unit))).bind (Sum.elim (fun q' => some q') (t0 (some ((-1), 0))))))))))
theorem ZdT (m : api_Map) : Le (Zbs m) (XQ m) := by
  unfold Zbs XQ
  with_reducible repeat' (first | exact Le.refl _ | apply Le.bind | apply Le.ite | apply Le.loop | apply Le.t0 | apply Le.t1 | apply Le.t2 | apply Le.elim | apply Xr | apply Zfo | apply Ze6 | apply Zfg | intro _)

noncomputable def Zba (m : api_Map) (out2 : List api_Cell) (i : Int) : Option (((List api_Cell) × Int) ⊕ ((List api_Cell))) :=
  if (decide (i < (m.Params.length : Int))) = true then
  (idx m.Params i).bind fun x =>
  (X7 i x).bind fun y =>
  (app out2 y).bind fun l =>
  some (.inl (l, (i64 (i + 1))))
  else
  some (.inr out2)
theorem Zfj (m : api_Map) (out2 : List api_Cell) (i : Int) : Le (Zba m out2 i) (Jv m out2 i) := by
  unfold Zba Jv
  with_reducible repeat' (first | exact Le.refl _ | apply Le.bind | apply Le.ite | apply Zbm | intro _)

noncomputable def Zbx (m : api_Map) : Option (List api_Cell) :=
  ((Xy (t2 (Zba m)) ([], 0)) : Option (((List api_Cell)))).bind (t1 fun (out : List api_Cell) =>
  some out)
theorem ZdU (m : api_Map) : Le (Zbx m) (XN m) := by
  unfold Zbx XN
  with_reducible repeat' (first | exact Le.refl _ | apply Le.bind | apply Le.loop | apply Le.t1 | apply Le.t2 | apply Zfj | intro _)

noncomputable def ZbL (m : api_Map) (out2 : Vector (List Int) 16) (i : Int) : Option (((Vector (List Int) 16) × Int) ⊕ ((Vector (List Int) 16))) :=
  if (decide (i < 16)) = true then
  (mks 58 0).bind fun l2 =>
  (ZJ out2 i).bind fun x =>
  (ZJ (ZU out2 i l2) i).bind fun l3 =>
  (ZJ (ZU out2 i l2) i).bind fun x2 =>
  (idx l3 0).bind fun x3 =>
  some (.inl ((ZU (ZU out2 i l2) i (l3.set (Int.toNat 0) m.Version)), (i64 (i + 1))))
  else
  some (.inr out2)
theorem ZfS (m : api_Map) (out2 : Vector (List Int) 16) (i : Int) : Le (ZbL m out2 i) (Q3 m out2 i) := by
  unfold ZbL Q3
  with_reducible repeat' (first | exact Le.refl _ | apply Le.bind | apply Le.ite | intro _)

noncomputable def ZbT (x4 : api_Cell) (y5 : Int) (out6 : Vector (List Int) 16) (left : Int) (i3 : Int) : Option (((Vector (List Int) 16) × Int × Int) ⊕ ((Vector (List Int) 16))) :=
  if (decide (i3 < (x4.Places.length : Int))) = true then
  (idx x4.Places i3).bind fun x9 =>
  (ZJ out6 x9.Frame).bind fun l4 =>
  (ZJ out6 x9.Frame).bind fun x10 =>
  (idx l4 (i64 (x9.Word - 3))).bind fun x11 =>
  (shr .i64 y5 (i64 (left - x9.Bits))).bind fun q =>
  (shl .i64 1 x9.Bits).bind fun q2 =>
  (shl .i64 (Jq .i64 q (i64 (q2 - 1))) x9.Low).bind fun q3 =>
  (idx l4 (i64 (x9.Word - 3))).bind fun x12 =>
  some (.inl ((ZU out6 x9.Frame (l4.set (i64 (x9.Word - 3)).toNat (bor .i64 x11 q3))), (i64 (left - x9.Bits)), (i64 (i3 + 1))))
  else
  some (.inr out6)
theorem ZfB (x4 : api_Cell) (y5 : Int) (out6 : Vector (List Int) 16) (left : Int) (i3 : Int) : Le (ZbT x4 y5 out6 left i3) (Xu x4 y5 out6 left i3) := by
  unfold ZbT Xu
  with_reducible repeat' (first | exact Le.refl _ | apply Le.bind | apply Le.ite | intro _)

noncomputable def ZbP (m : api_Map) (l : List Int) (y2 : (List api_Cell)) (out4 : Vector (List Int) 16) (i2 : Int) : Option (((Vector (List Int) 16) × Int) ⊕ ((Vector (List Int) 16) × Int) ⊕ ((Vector (List Int) 16))) :=
  if (decide (i2 < (y2.length : Int))) = true then
  (((idx y2 i2).bind fun x4 =>
  (idx m.Params x4.Param).bind fun x5 =>
  (Zne x5).bind fun y3 =>
  (idx l i2).bind fun x6 =>
  (Z1 x6 y3.low y3.high).bind fun y4 =>
  if (!y4) = true then
  some (.inl ((Vector.replicate 16 []), 9))
  else
  (idx l i2).bind fun x7 =>
  (y3.encode.fn x7).bind fun y5 =>
  (idx m.Params x4.Param).bind fun x8 =>
  (XL x8).bind fun y6 =>
  (Xy (t3 (ZbT x4 y5)) (out4, y6, 0)).bind (fun q' => some (.inr q'))) : Option (((Vector (List Int) 16) × Int) ⊕ ((Vector (List Int) 16)))).bind (Sum.elim (fun q' => some (.inr (.inl q'))) (t1 fun (out5 : Vector (List Int) 16) =>
  some (.inl (out5, (i64 (i2 + 1))))))
  else
  some (.inr (.inr out4))
theorem ZfC (m : api_Map) (l : List Int) (y2 : (List api_Cell)) (out4 : Vector (List Int) 16) (i2 : Int) : Le (ZbP m l y2 out4 i2) (Q4 m l y2 out4 i2) := by
  unfold ZbP Q4
  with_reducible repeat' (first | exact Le.refl _ | apply Le.bind | apply Le.ite | apply Le.loop | apply Le.t1 | apply Le.t3 | apply Le.elim | apply Xr | apply ZfB | apply Zkz | apply Zam | intro _)

noncomputable def Zc8 (m : api_Map) (l : List Int) : Option ((Vector (List Int) 16) × Int) :=
  (Zbs m).bind fun y =>
  if (!decide (y.2 = 0)) = true then
  some ((Vector.replicate 16 []), y.2)
  else
  (Zbx m).bind fun y2 =>
  if (!decide ((l.length : Int) = (y2.length : Int))) = true then
  some ((Vector.replicate 16 []), 3)
  else
  ((Xy (t2 (ZbL m)) ((Vector.replicate 16 []), 0)) : Option (((Vector (List Int) 16)))).bind (t1 fun (out : Vector (List Int) 16) =>
  ((Xy (t2 (ZbP m l y2)) (out, 0)) : Option (((Vector (List Int) 16) × Int) ⊕ ((Vector (List Int) 16)))).bind (Sum.elim (fun q' => some q') (t1 fun (out3 : Vector (List Int) 16) =>
  some (out3, 0))))
theorem Zhu (m : api_Map) (l : List Int) : Le (Zc8 m l) (Jd m l) := by
  unfold Zc8 Jd
  with_reducible repeat' (first | exact Le.refl _ | apply Le.bind | apply Le.ite | apply Le.loop | apply Le.t1 | apply Le.t2 | apply Le.elim | apply ZdT | apply ZdU | apply ZfS | apply ZfC | intro _)

noncomputable def Q2 (s : List Int) (f : Int → Option Bool) (i : Int) : Option ((Int) ⊕ (Int) ⊕ (Unit)) :=
  if (decide (i < (s.length : Int))) = true then
  (idx s i).bind fun x =>
  (f x).bind fun y =>
  if y = true then
  some (.inr (.inl i))
  else
  some (.inl (i64 (i + 1)))
  else
  some (.inr (.inr ()))
theorem ZbR (s : List Int) (f : Int → Option Bool) (i : Int) (f' : Int → Option Bool) (h_f : ∀ z0, Le (f z0) (f' z0)) : Le (Q2 s f i) (QB s f' i) := by
  unfold Q2 QB
  with_reducible repeat' (first | exact Le.refl _ | apply Le.bind | apply Le.ite | apply h_f | intro _)

noncomputable def Xw (s : List Int) (f : Int → Option Bool) : Option Int :=
  ((Xy (t1 (Q2 s f)) 0) : Option ((Int) ⊕ (Unit))).bind (Sum.elim (fun q' => some q') (t0 (some (-1))))
theorem Zcz (s : List Int) (f : Int → Option Bool) (f' : Int → Option Bool) (h_f : ∀ z0, Le (f z0) (f' z0)) : Le (Xw s f) (Qw s f') := by
  unfold Xw Qw
  with_reducible repeat' (first | exact Le.refl _ | apply Le.bind | apply Le.loop | apply Le.t0 | apply Le.t1 | apply Le.elim | apply ZbR | apply h_f | intro _)

noncomputable def Q1 (s : List Int) (f : Int → Option Bool) : Option Bool :=
  (Xw s f).bind fun y =>
  some (decide (0 ≤ y))
theorem ZbQ (s : List Int) (f : Int → Option Bool) (f' : Int → Option Bool) (h_f : ∀ z0, Le (f z0) (f' z0)) : Le (Q1 s f) (Qf s f') := by
  unfold Q1 Qf
  with_reducible repeat' (first | exact Le.refl _ | apply Le.bind | apply Zcz | apply h_f | intro _)

noncomputable def Zbi (d : Int) : Option Bool :=
  (Z1 d 0 2047).bind fun y =>
  some (!y)
theorem Zfd (d : Int) : Le (Zbi d) (Jw d) := by
  unfold Zbi Jw
  with_reducible repeat' (first | exact Le.refl _ | apply Le.bind | apply Xr | intro _)

noncomputable def ZaV (l : Vector (List Int) 16) (i : Int) : Option ((Int) ⊕ ((List api_Reading) × Int) ⊕ (Unit)) :=
  if (decide (i < 16)) = true then
  (ZJ l i).bind fun x =>
  if (!decide ((x.length : Int) = 58)) = true then
  some (.inr (.inl ([], 3)))
  else
  (Q1 x (fun z0 => Zbi z0)).bind fun y2 =>
  if y2 = true then
  some (.inr (.inl ([], 9)))
  else
  some (.inl (i64 (i + 1)))
  else
  some (.inr (.inr ()))
theorem ZeT (l : Vector (List Int) 16) (i : Int) : Le (ZaV l i) (Zag l i) := by
  unfold ZaV Zag
  with_reducible repeat' (first | exact Le.refl _ | apply Le.bind | apply Le.ite | apply ZbQ | apply Zfd | intro _)

noncomputable def ZaW (m : api_Map) (l : Vector (List Int) 16) (i2 : Int) : Option ((Int) ⊕ ((List api_Reading) × Int) ⊕ (Unit)) :=
  if (decide (i2 < 16)) = true then
  (ZJ l i2).bind fun x2 =>
  (idx x2 0).bind fun x3 =>
  if (!decide (x3 = m.Version)) = true then
  some (.inr (.inl ([], 11)))
  else
  some (.inl (i64 (i2 + 1)))
  else
  some (.inr (.inr ()))
theorem ZeY (m : api_Map) (l : Vector (List Int) 16) (i2 : Int) : Le (ZaW m l i2) (Zaa m l i2) := by
  unfold ZaW Zaa
  with_reducible repeat' (first | exact Le.refl _ | apply Le.bind | apply Le.ite | intro _)

noncomputable def Zbc (c_ : api_Cell) (l : Vector (List Int) 16) (raw2 : Int) (i : Int) : Option ((Int × Int) ⊕ (Int)) :=
  if (decide (i < (c_.Places.length : Int))) = true then
  (idx c_.Places i).bind fun x =>
  (shl .i64 raw2 x.Bits).bind fun q =>
  (ZJ l x.Frame).bind fun x2 =>
  (idx x2 (i64 (x.Word - 3))).bind fun x3 =>
  (shr .i64 x3 x.Low).bind fun q2 =>
  (shl .i64 1 x.Bits).bind fun q3 =>
  some (.inl ((bor .i64 q (Jq .i64 q2 (i64 (q3 - 1)))), (i64 (i + 1))))
  else
  some (.inr raw2)
theorem Zfl (c_ : api_Cell) (l : Vector (List Int) 16) (raw2 : Int) (i : Int) : Le (Zbc c_ l raw2 i) (ZaP c_ l raw2 i) := by
  unfold Zbc ZaP
  with_reducible repeat' (first | exact Le.refl _ | apply Le.bind | apply Le.ite | intro _)

noncomputable def ZcH (c_ : api_Cell) (l : Vector (List Int) 16) : Option Int :=
  ((Xy (t2 (Zbc c_ l)) (0, 0)) : Option ((Int))).bind (t1 fun (raw : Int) =>
  some raw)
theorem ZgU (c_ : api_Cell) (l : Vector (List Int) 16) : Le (ZcH c_ l) (Zbo c_ l) := by
  unfold ZcH Zbo
  with_reducible repeat' (first | exact Le.refl _ | apply Le.bind | apply Le.loop | apply Le.t1 | apply Le.t2 | apply Zfl | intro _)

noncomputable def ZbV (p : api_Param) (raw : Int) : Option (Int × Bool) :=
  (Zne p).bind fun y =>
  (y.decode.fn raw).bind fun y2 =>
  if (!y2.2) = true then
  some (0, false)
  else
  some (y2.1, true)
theorem ZfI (p : api_Param) (raw : Int) : Le (ZbV p raw) (J2 p raw) := by
  unfold ZbV J2
  with_reducible repeat' (first | exact Le.refl _ | apply Le.bind | apply Le.ite | apply Zkz | intro _)

noncomputable def ZaZ (m : api_Map) (l : Vector (List Int) 16) (y3 : (List api_Cell)) (out2 : List api_Reading) (i3 : Int) : Option (((List api_Reading) × Int) ⊕ ((List api_Reading))) :=
  if (decide (i3 < (y3.length : Int))) = true then
  (idx y3 i3).bind fun x4 =>
  (idx m.Params x4.Param).bind fun x5 =>
  (ZcH x4 l).bind fun y4 =>
  (ZbV x5 y4).bind fun y5 =>
  (app out2 ([(api_Reading.mk x4.Param x4.Index y5.1 y5.2)] : List api_Reading)).bind fun l2 =>
  some (.inl (l2, (i64 (i3 + 1))))
  else
  some (.inr out2)
theorem ZeQ (m : api_Map) (l : Vector (List Int) 16) (y3 : (List api_Cell)) (out2 : List api_Reading) (i3 : Int) : Le (ZaZ m l y3 out2 i3) (Zan m l y3 out2 i3) := by
  unfold ZaZ Zan
  with_reducible repeat' (first | exact Le.refl _ | apply Le.bind | apply Le.ite | apply ZgU | apply ZfI | intro _)

noncomputable def Zcm (m : api_Map) (l : Vector (List Int) 16) : Option ((List api_Reading) × Int) :=
  (Zbs m).bind fun y =>
  if (!decide (y.2 = 0)) = true then
  some ([], y.2)
  else
  ((Xy (t1 (ZaV l)) 0) : Option (((List api_Reading) × Int) ⊕ (Unit))).bind (Sum.elim (fun q' => some q') (t0 (((Xy (t1 (ZaW m l)) 0) : Option (((List api_Reading) × Int) ⊕ (Unit))).bind (Sum.elim (fun q' => some q') (t0 ((((Zbx m).bind fun y3 =>
  Xy (t2 (ZaZ m l y3)) ([], 0)) : Option (((List api_Reading)))).bind (t1 fun (out : List api_Reading) =>
  some (out, 0))))))))
theorem ZgB (m : api_Map) (l : Vector (List Int) 16) : Le (Zcm m l) (ZaH m l) := by
  unfold Zcm ZaH
  with_reducible repeat' (first | exact Le.refl _ | apply Le.bind | apply Le.ite | apply Le.loop | apply Le.t0 | apply Le.t1 | apply Le.t2 | apply Le.elim | apply ZdT | apply ZeT | apply ZeY | apply ZdU | apply ZeQ | intro _)

noncomputable def Zc5 : Option Bool :=
  (Zc8 (api_Map.mk 3 ([(api_Param.mk [97] 2 ([(api_Part.mk 0 9 2 3)] : List api_Part) 2 8 2 1 [])] : List api_Param)) ([(-1), 3, 0, (-4)] : List Int)).bind fun y =>
  (gd ((!decide (y.2 = 0)) == false) [] (ZJ y.1 2)).bind fun x =>
  (gd (((!decide (y.2 = 0)) || (!decide ((x.length : Int) = 58))) == false) [] (ZJ y.1 5)).bind fun x2 =>
  (gd ((((!decide (y.2 = 0)) || (!decide ((x.length : Int) = 58))) || (!decide ((x2.length : Int) = 58))) == false) [] (ZJ y.1 10)).bind fun x3 =>
  (gd (((((!decide (y.2 = 0)) || (!decide ((x.length : Int) = 58))) || (!decide ((x2.length : Int) = 58))) || (!decide ((x3.length : Int) = 58))) == false) [] (ZJ y.1 2)).bind fun x4 =>
  (gd (((((!decide (y.2 = 0)) || (!decide ((x.length : Int) = 58))) || (!decide ((x2.length : Int) = 58))) || (!decide ((x3.length : Int) = 58))) == false) 0 (idx x4 6)).bind fun x5 =>
  (gd ((((((!decide (y.2 = 0)) || (!decide ((x.length : Int) = 58))) || (!decide ((x2.length : Int) = 58))) || (!decide ((x3.length : Int) = 58))) || (!decide (x5 = 28))) == false) [] (ZJ y.1 2)).bind fun x6 =>
  (gd ((((((!decide (y.2 = 0)) || (!decide ((x.length : Int) = 58))) || (!decide ((x2.length : Int) = 58))) || (!decide ((x3.length : Int) = 58))) || (!decide (x5 = 28))) == false) 0 (idx x6 7)).bind fun x7 =>
  (gd (((((((!decide (y.2 = 0)) || (!decide ((x.length : Int) = 58))) || (!decide ((x2.length : Int) = 58))) || (!decide ((x3.length : Int) = 58))) || (!decide (x5 = 28))) || (!decide (x7 = 12))) == false) [] (ZJ y.1 10)).bind fun x8 =>
  (gd (((((((!decide (y.2 = 0)) || (!decide ((x.length : Int) = 58))) || (!decide ((x2.length : Int) = 58))) || (!decide ((x3.length : Int) = 58))) || (!decide (x5 = 28))) || (!decide (x7 = 12))) == false) 0 (idx x8 6)).bind fun x9 =>
  (gd ((((((((!decide (y.2 = 0)) || (!decide ((x.length : Int) = 58))) || (!decide ((x2.length : Int) = 58))) || (!decide ((x3.length : Int) = 58))) || (!decide (x5 = 28))) || (!decide (x7 = 12))) || (!decide (x9 = 0))) == false) [] (ZJ y.1 10)).bind fun x10 =>
  (gd ((((((((!decide (y.2 = 0)) || (!decide ((x.length : Int) = 58))) || (!decide ((x2.length : Int) = 58))) || (!decide ((x3.length : Int) = 58))) || (!decide (x5 = 28))) || (!decide (x7 = 12))) || (!decide (x9 = 0))) == false) 0 (idx x10 7)).bind fun x11 =>
  (gd (((((((((!decide (y.2 = 0)) || (!decide ((x.length : Int) = 58))) || (!decide ((x2.length : Int) = 58))) || (!decide ((x3.length : Int) = 58))) || (!decide (x5 = 28))) || (!decide (x7 = 12))) || (!decide (x9 = 0))) || (!decide (x11 = 16))) == false) [] (ZJ y.1 5)).bind fun x12 =>
  (gd (((((((((!decide (y.2 = 0)) || (!decide ((x.length : Int) = 58))) || (!decide ((x2.length : Int) = 58))) || (!decide ((x3.length : Int) = 58))) || (!decide (x5 = 28))) || (!decide (x7 = 12))) || (!decide (x9 = 0))) || (!decide (x11 = 16))) == false) 0 (idx x12 0)).bind fun x13 =>
  if (((((((((!decide (y.2 = 0)) || (!decide ((x.length : Int) = 58))) || (!decide ((x2.length : Int) = 58))) || (!decide ((x3.length : Int) = 58))) || (!decide (x5 = 28))) || (!decide (x7 = 12))) || (!decide (x9 = 0))) || (!decide (x11 = 16))) || (!decide (x13 = 3))) = true then
  some false
  else
  (Zcm (api_Map.mk 3 ([(api_Param.mk [97] 2 ([(api_Part.mk 0 9 2 3)] : List api_Part) 2 8 2 1 [])] : List api_Param)) y.1).bind fun y2 =>
  (gd (((decide (y2.2 = 0)) && (decide ((y2.1.length : Int) = 4))) == true) (api_Reading.mk 0 0 0 false) (idx y2.1 3)).bind fun x14 =>
  some (((decide (y2.2 = 0)) && (decide ((y2.1.length : Int) = 4))) && (decide (x14.Param = 0) && (decide (x14.Index = 3) && (decide (x14.Value = (-4)) && ((x14.Good == true) && true)))))
theorem ZhY : Le (Zc5 ) (Za2 ) := by
  unfold Zc5 Za2
  with_reducible repeat' (first | exact Le.refl _ | apply Le.bind | apply Le.ite | apply Le.gd | apply Zhu | apply ZgB | intro _)
end Go.Vx

namespace Go.Vx
open Go Go.RowKit
theorem Zl6 : Zc5 = some true := by decide +kernel
theorem Zmn : Za2 = some true := ZhY true Zl6
end Go.Vx

namespace Go.Vx
open Go Go.RowKit
end Go.Vx

namespace Go.Vx
open Go Go.RowKit
def dcd : Nat → Nat → Nat
  | 0, _ => 0
  | n + 1, raw => raw % 16 + 10 * dcd n (raw / 16)
def okD : Nat → Nat → Prop
  | 0, _ => True
  | n + 1, raw => raw % 16 < 10 ∧ okD n (raw / 16)
theorem Zku : ∀ n v, v < 10 ^ n → okD n (bcd n v) ∧ dcd n (bcd n v) = v
  | 0, v, h => by simp at h; simp [bcd, dcd, okD, h]
  | n + 1, v, h => by
    have hm := Nat.mod_lt v (show 0 < 10 by decide)
    obtain ⟨h1, h2⟩ := Zku n (v / 10) (by rw [Zjs] at h; omega)
    have e1 : bcd (n + 1) v % 16 = v % 10 := by rw [bcd]; omega
    have e2 : bcd (n + 1) v / 16 = bcd n (v / 10) := by rw [bcd]; omega
    refine ⟨⟨by omega, by rw [e2]; exact h1⟩, ?_⟩
    rw [dcd, e1, e2, h2]; omega
theorem ZmZ (raw m : Nat) : dig (raw : Int) m = ((raw / 16 ^ m % 16 : Nat) : Int) := by
  have e : ((16 ^ m : Nat) : Int) = (2 : Int) ^ (4 * m) := by rw [p16]; push_cast; rfl
  have hp : 0 < 16 ^ m := Nat.pow_pos (by decide)
  rw [ZnL, ← e, Int.fdiv_eq_ediv_of_nonneg _ (by omega)]
  push_cast; rfl
theorem ZnM (raw m : Nat) : raw / 16 / 16 ^ m = raw / 16 ^ (m + 1) := by
  rw [Nat.div_div_eq_div_mul, Nat.pow_succ, Nat.mul_comm]
theorem ZkR : ∀ m raw, dcd (m + 1) raw = dcd m raw + 10 ^ m * (raw / 16 ^ m % 16)
  | 0, raw => by simp [dcd]
  | m + 1, raw => by
    have ih := ZkR m (raw / 16)
    rw [dcd, ih, ZnM, dcd, Zjs, Nat.mul_add, Nat.add_assoc]
    congr 2
    rw [← Nat.mul_assoc, Nat.mul_comm 10]
theorem ZgZ : ∀ m raw, okD (m + 1) raw ↔ okD m raw ∧ raw / 16 ^ m % 16 < 10
  | 0, raw => by simp [okD]
  | m + 1, raw => by
    have ih := ZgZ m (raw / 16)
    rw [okD, ih, ZnM, okD, and_assoc]
theorem ZjC (raw : Nat) : ∀ (m a : Nat), m ≤ 10 → a < 10 ^ (10 - m) →
    ((ZeP raw m a true).2 = true ↔ okD m raw) ∧ (okD m raw → (ZeP raw m a true).1 = ((a * 10 ^ m + dcd m raw : Nat) : Int))
  | 0, a, _, _ => by simp [ZeP, okD, dcd]
  | m + 1, a, hm, ha => by
    have hle : 10 ^ (10 - (m + 1)) ≤ 10 ^ 10 := Nat.pow_le_pow_right (by decide) (by omega)
    rw [t10] at hle
    have hp : 10 ^ (10 - m) = 10 ^ (10 - (m + 1)) * 10 := by rw [show 10 - m = (10 - (m + 1)) + 1 by omega, Zjs]
    have hd := Nat.mod_lt (raw / 16 ^ m) (show 0 < 16 by decide)
    rw [ZeP, ZmZ]
    by_cases h9 : raw / 16 ^ m % 16 < 10
    · have e : i64 (i64 ((a : Int) * 10) + ((raw / 16 ^ m % 16 : Nat) : Int)) = ((a * 10 + raw / 16 ^ m % 16 : Nat) : Int) := by
        rw [ZN (z := (a : Int) * 10) (by omega) (by omega), ZN (by omega) (by omega)]; push_cast; rfl
      have e2 : (true && decide (((raw / 16 ^ m % 16 : Nat) : Int) < 10)) = true := by
        rw [Bool.true_and, decide_eq_true_eq]; omega
      rw [e, e2]
      obtain ⟨g1, g2⟩ := ZjC raw m (a * 10 + raw / 16 ^ m % 16) (by omega) (by rw [hp]; omega)
      refine ⟨by rw [g1, ZgZ]; simp [h9], fun hok => ?_⟩
      rw [g2 ((ZgZ m raw).1 hok).1, ZkR, Zjs]
      congr 1
      rw [Nat.add_mul, Nat.mul_assoc, Nat.mul_comm 10 (10 ^ m), Nat.mul_comm (raw / 16 ^ m % 16)]
      omega
    · have e2 : (true && decide (((raw / 16 ^ m % 16 : Nat) : Int) < 10)) = false := by
        rw [Bool.true_and, decide_eq_false_iff_not]; omega
      rw [e2, Zhl]
      have hn : ¬ okD (m + 1) raw := fun h => h9 ((ZgZ m raw).1 h).2
      exact ⟨by simp [hn], fun h => absurd h hn⟩
theorem ZnY {p : api_Param} (h : ParOK p) (h4 : p.Kind = 4) {raw : Nat} (hr : (raw : Int) < 2 * HH p) : (okD (NN p) raw → dec p raw = (((dcd (NN p) raw : Nat) : Int), true)) ∧ (¬ okD (NN p) raw → dec p raw = (0, false)) := by
  obtain ⟨_, _, hN⟩ := Zlk h h4
  have e : dec p raw = clr (ZeP raw (NN p) 0 true) := by simp [dec, h4]
  obtain ⟨g1, g2⟩ := ZjC raw (NN p) 0 hN (Nat.pow_pos (by decide))
  rw [Int.ofNat_zero] at g1 g2
  rw [e]
  unfold clr
  constructor
  · intro hok
    have := g2 hok
    rw [Nat.zero_mul, Nat.zero_add] at this
    rw [if_pos (g1.2 hok)]
    rw [← this]
  · intro hok
    rw [if_neg (fun hh => hok (g1.1 hh))]
theorem Zk6 {p : api_Param} (h : ParOK p) {v : Int} (v0 : (lims p).1 ≤ v) (v1 : v ≤ (lims p).2) : 0 ≤ enc p v ∧ enc p v < 2 * HH p ∧ dec p (enc p v) = (v, true) := by
  obtain ⟨hH1, hH2, hH3⟩ := ZhC h
  have hk := h.kind
  by_cases k2 : p.Kind = 2
  · have l1 : (lims p).1 = -HH p := by simp [lims, k2]
    have l2 : (lims p).2 = HH p - 1 := by simp [lims, k2]
    rw [l1] at v0; rw [l2] at v1
    by_cases hv : v < 0
    · have e : enc p v = 2 * HH p + v := by simp [enc, k2, hv]
      rw [e]
      refine ⟨by omega, by omega, ?_⟩
      have h1 : HH p ≤ 2 * HH p + v := by omega
      have h2 : 2 * HH p + v - 2 * HH p = v := by omega
      simp [dec, k2, h1, h2]
    · have e : enc p v = v := by simp [enc, k2, hv]
      have h1 : ¬ HH p ≤ v := by omega
      rw [e]
      exact ⟨by omega, by omega, by simp [dec, k2, h1]⟩
  by_cases k3 : p.Kind = 3
  · have l1 : (lims p).1 = 1 - HH p := by simp [lims, k3]
    have l2 : (lims p).2 = HH p - 1 := by simp [lims, k3]
    rw [l1] at v0; rw [l2] at v1
    by_cases hv : v < 0
    · have e : enc p v = HH p - v := by simp [enc, k3, hv]
      rw [e]
      refine ⟨by omega, by omega, ?_⟩
      have h1 : ¬ HH p - v = HH p := by omega
      have h2 : HH p < HH p - v := by omega
      have h3 : HH p - (HH p - v) = v := by omega
      simp [dec, k3, h1, h2, h3]
    · have e : enc p v = v := by simp [enc, k3, hv]
      have h1 : ¬ v = HH p := by omega
      have h2 : ¬ HH p < v := by omega
      rw [e]
      exact ⟨by omega, by omega, by simp [dec, k3, h1, h2]⟩
  by_cases k4 : p.Kind = 4
  · have l1 : (lims p).1 = 0 := by simp [lims, k4]
    have l2 : (lims p).2 = 10 ^ NN p - 1 := by simp [lims, k4]
    rw [l1] at v0; rw [l2] at v1
    obtain ⟨ev, hv, _⟩ := ZiG h k4 v0 v1
    have e : enc p v = (bcd (NN p) v.toNat : Nat) := by simp [enc, k4]
    have hb := Zkb (NN p) v.toNat
    rw [p16] at hb
    have hlt : ((bcd (NN p) v.toNat : Nat) : Int) < 2 * HH p := by
      rw [HH4 h k4]
      have : ((2 ^ (4 * NN p) : Nat) : Int) = (2 : Int) ^ (4 * NN p) := by push_cast; rfl
      omega
    obtain ⟨d1, d2⟩ := Zku (NN p) v.toNat hv
    rw [e]
    refine ⟨by omega, hlt, ?_⟩
    rw [(ZnY h k4 hlt).1 d1, d2, ← ev]
  have e : enc p v = v := by simp [enc, k2, k3, k4]
  rw [e]
  by_cases k6 : p.Kind = 6
  · obtain ⟨n1, n2, n3⟩ := h.k6 k6
    have l1 : (lims p).1 = 0 := by simp [lims, k6]
    have l2 : (lims p).2 = (p.Names.length : Int) - 1 := by simp [lims, k6]
    rw [l1] at v0; rw [l2] at v1
    rw [hH3] at n3
    have h1 : ¬ (p.Names.length : Int) ≤ v := by omega
    exact ⟨by omega, by omega, by simp [dec, k6, h1]⟩
  by_cases k5 : p.Kind = 5
  · have hb1 := h.k5 k5
    have hHv : HH p = 1 := by unfold HH; rw [hb1]; rfl
    have l1 : (lims p).1 = 0 := by simp [lims, k5]
    have l2 : (lims p).2 = 1 := by simp [lims, k5]
    rw [l1] at v0; rw [l2] at v1
    exact ⟨by omega, by omega, by simp [dec, k5]⟩
  have k1 : p.Kind = 1 := by omega
  have l1 : (lims p).1 = 0 := by simp [lims, k1]
  have l2 : (lims p).2 = 2 * HH p - 1 := by simp [lims, k1]
  rw [l1] at v0; rw [l2] at v1
  exact ⟨by omega, by omega, by simp [dec, k1]⟩
end Go.Vx

namespace Go.Vx
open Go Go.RowKit
def ZiK (b : layout_bit) (x : api_Place) : Bool := ((decide (x.Frame = b.frame) && decide (x.Word = b.word)) && decide (x.Low ≤ b.bit)) && decide (b.bit < x.Low + x.Bits)
theorem Ziw {b : layout_bit} {x : api_Place} : b ∈ JK x ↔ ZiK b x = true := by
  obtain ⟨f, w, t⟩ := b
  simp only [JK, List.mem_map, List.mem_range, ZiK, Bool.and_eq_true, decide_eq_true_eq]
  constructor
  · rintro ⟨i, hi, he⟩
    simp only [layout_bit.mk.injEq] at he
    omega
  · rintro ⟨⟨⟨h1, h2⟩, h3⟩, h4⟩
    refine ⟨(t - x.Low).toNat, by omega, ?_⟩
    simp only [layout_bit.mk.injEq]
    omega
theorem Zit : ∀ {K l : List layout_bit}, okB K l = true → ∀ b ∈ l, b ∉ K
  | K, x :: l, h, b, hb => by
    simp only [okB] at h
    split at h
    · cases h
    · rename_i hx
      rcases List.mem_cons.1 hb with rfl | hb
      · exact hx
      · exact fun hk => Zit h b hb (List.mem_append_left _ hk)
theorem Zki {m : api_Map} (h : MapOK m) {c : api_Cell} (hc : c ∈ allC 0 m.Params) : c.Places.length ≤ 8 ∧ ∀ q ∈ c.Places, (0 ≤ q.Frame ∧ q.Frame ≤ 15) ∧ (4 ≤ q.Word ∧ q.Word ≤ 60) ∧ (0 ≤ q.Low ∧ q.Low ≤ 10) ∧ 1 ≤ q.Bits ∧ q.Bits ≤ 11 - q.Low := by
  obtain ⟨j, x, _, hx, _, f, t, h1, h2, _, h3⟩ := ZiY h hc
  have h8 := hx.len.1
  rw [h3]
  exact ⟨by simpa using h8, fun q hq => ZmJ hx h1 h2 hq⟩
end Go.Vx

namespace Go.Vx
open Go Go.RowKit
def sB (l : List api_Place) : Nat := (l.map fun q => q.Bits.toNat).sum
def placeR (q : api_Place) : Prop := (0 ≤ q.Frame ∧ q.Frame ≤ 15) ∧ (4 ≤ q.Word ∧ q.Word ≤ 60) ∧ (0 ≤ q.Low ∧ q.Low ≤ 10) ∧ 1 ≤ q.Bits ∧ q.Bits ≤ 11 - q.Low
end Go.Vx

namespace Go.Vx
open Go Go.RowKit
def ZaU (l : Vector (List Int) 16) (q : api_Place) : Nat := ((l.toList.getD q.Frame.toNat []).getD (q.Word - 3).toNat 0).toNat
def Zl2 (l : Vector (List Int) 16) : Nat → List api_Place → Nat
  | n, [] => n
  | n, q :: tl => Zl2 l (n * 2 ^ q.Bits.toNat + ZaU l q / 2 ^ q.Low.toNat % 2 ^ q.Bits.toNat) tl
theorem Zkv (l : Vector (List Int) 16) : ∀ (ps : List api_Place) (n s : Nat), n < 2 ^ s → Zl2 l n ps < 2 ^ (s + sB ps)
  | [], n, s, h => by simpa [Zl2, sB] using h
  | q :: tl, n, s, h => by
    have hm : ZaU l q / 2 ^ q.Low.toNat % 2 ^ q.Bits.toNat < 2 ^ q.Bits.toNat := Nat.mod_lt _ (Nat.two_pow_pos _)
    have h1 : (n + 1) * 2 ^ q.Bits.toNat ≤ 2 ^ s * 2 ^ q.Bits.toNat := Nat.mul_le_mul_right _ h
    rw [← Nat.pow_add, Nat.add_mul, Nat.one_mul] at h1
    have := Zkv l tl (n * 2 ^ q.Bits.toNat + ZaU l q / 2 ^ q.Low.toNat % 2 ^ q.Bits.toNat) (s + q.Bits.toNat) (by omega)
    have e : s + sB (q :: tl) = s + q.Bits.toNat + sB tl := by simp [sB]; omega
    rw [e, Zl2]; exact this
def DatOK (l : Vector (List Int) 16) : Prop := ∀ x ∈ l.toList, x.length = 58 ∧ ∀ d ∈ x, 0 ≤ d ∧ d ≤ 2047
theorem ZnJ {l : Vector (List Int) 16} (hl : DatOK l) {q : api_Place} (hq : placeR q) : ∃ x, ZJ l q.Frame = some x ∧ idx x (i64 (q.Word - 3)) = some (ZaU l q : Int) ∧ ZaU l q ≤ 2047 := by
  obtain ⟨h1, h2, _⟩ := hq
  have h16 : l.toList.length = 16 := by simp
  obtain ⟨x, hx⟩ := Qm (xs := l.toList) (k := q.Frame.toNat) (by omega)
  obtain ⟨hx1, hx2⟩ := hl x (List.mem_of_getElem? hx)
  obtain ⟨d, hd⟩ := Qm (xs := x) (k := (q.Word - 3).toNat) (by omega)
  have hd2 := hx2 d (List.mem_of_getElem? hd)
  have e1 : l.toList.getD q.Frame.toNat [] = x := by rw [List.getD_eq_getElem?_getD, hx]; rfl
  have e2 : x.getD (q.Word - 3).toNat 0 = d := by rw [List.getD_eq_getElem?_getD, hd]; rfl
  have e3 : ((ZaU l q : Nat) : Int) = d := by unfold ZaU; rw [e1, e2]; omega
  refine ⟨x, ?_, ?_, by omega⟩
  · unfold ZJ; rw [if_pos h1.1, hx]
  · rw [ZN (by omega) (by omega), e3]; unfold idx; rw [if_pos (by omega), hd]
theorem ZiI {α : Type} {n : Nat} {l : Vector α n} {k : Nat} {x : α} (h : l.toList[k]? = some x) : ZJ l (k : Int) = some x := by
  unfold ZJ; rw [if_pos (by omega), Int.toNat_natCast, h]
theorem Zko {m : api_Map} (h : MapOK m) (l : Vector (List Int) 16) {c : api_Cell} (hc : c ∈ allC 0 m.Params) : ∃ x, idx m.Params c.Param = some x ∧ m.Params[c.Param.toNat]? = some x ∧ ParOK x ∧ c.Places.length ≤ 8 ∧ (∀ q ∈ c.Places, placeR q) ∧ sB c.Places ≤ 40 ∧ ((Zl2 l 0 c.Places : Nat) : Int) < 2 * HH x := by
  obtain ⟨j, x, h1, hx, h2, f, t, h3, h4, _, h5⟩ := ZiY h hc
  obtain ⟨p8, pin⟩ := Zki h hc
  have hb := hx.bits
  have hsB : (sB c.Places : Int) = bitsN x := by
    have key : ∀ ps : List api_Part, (∀ y ∈ ps, ZbK y = true) → ((sB (ps.map (Zaw x f t)) : Nat) : Int) = (ps.map (·.Bits)).sum := by
      intro ps
      induction ps with
      | nil => intro _; rfl
      | cons y ps ih =>
        intro hy
        have := JY.1 (hy y List.mem_cons_self)
        have ih := ih fun z hz => hy z (List.mem_cons_of_mem _ hz)
        have e : sB ((y :: ps).map (Zaw x f t)) = y.Bits.toNat + sB (ps.map (Zaw x f t)) := by simp [sB, Zaw]
        rw [e, List.map_cons, List.sum_cons]
        push_cast
        omega
    rw [h5]
    exact key _ hx.len.2
  have hlt := Zkv l c.Places 0 0 (by simp)
  rw [Nat.zero_add] at hlt
  have e2 : (bitsN x).toNat = sB c.Places := by omega
  refine ⟨x, ?_, ?_, hx, p8, pin, by omega, ?_⟩
  · rw [h2]; exact Z8 h1
  · rw [h2, Int.toNat_natCast]; exact h1
  · rw [← (ZhC hx).2.2, e2]
    have : ((2 ^ sB c.Places : Nat) : Int) = (2 : Int) ^ sB c.Places := by push_cast; rfl
    omega
end Go.Vx

namespace Go.Vx
open Go Go.RowKit
def chunk (l : Vector (List Int) 16) (q : api_Place) : Nat := ZaU l q / 2 ^ q.Low.toNat % 2 ^ q.Bits.toNat
end Go.Vx

namespace Go.Vx
open Go Go.RowKit
end Go.Vx

namespace Go.Vx
open Go Go.RowKit
theorem Zgq {d lo n : Nat} (h : d / 2 ^ lo % 2 ^ n = 0) : d = 2 ^ (lo + n) * (d / 2 ^ (lo + n)) + d % 2 ^ lo := by
  have h1 := Nat.mod_mul (a := 2 ^ lo) (b := 2 ^ n) (x := d)
  rw [h, Nat.mul_zero, Nat.add_zero, ← Nat.pow_add] at h1
  have h2 := Nat.div_add_mod d (2 ^ (lo + n))
  omega
theorem Zj9 {d lo n v : Nat} (h : d / 2 ^ lo % 2 ^ n = 0) (hv : v < 2 ^ n) : d ||| 2 ^ lo * v = d + 2 ^ lo * v ∧ 2 ^ lo * v + d % 2 ^ lo < 2 ^ (lo + n) := by
  have hs := Zgq h
  have hl : d % 2 ^ lo < 2 ^ lo := Nat.mod_lt _ (Nat.two_pow_pos _)
  have hx : 2 ^ lo * v + d % 2 ^ lo < 2 ^ (lo + n) := by
    have h1 : 2 ^ lo * (v + 1) ≤ 2 ^ lo * 2 ^ n := Nat.mul_le_mul_left _ hv
    rw [← Nat.pow_add, Nat.mul_add, Nat.mul_one] at h1
    omega
  refine ⟨?_, hx⟩
  have e1 := Nat.two_pow_add_eq_or_of_lt (i := lo + n) (b := d % 2 ^ lo) (by omega) (d / 2 ^ (lo + n))
  have e2 := Nat.two_pow_add_eq_or_of_lt (i := lo) (b := d % 2 ^ lo) hl v
  have e3 := Nat.two_pow_add_eq_or_of_lt (i := lo + n) (b := 2 ^ lo * v + d % 2 ^ lo) hx (d / 2 ^ (lo + n))
  have : d ||| 2 ^ lo * v = 2 ^ (lo + n) * (d / 2 ^ (lo + n)) ||| (2 ^ lo * v + d % 2 ^ lo) := by
    rw [e2, Nat.or_comm (2 ^ lo * v), ← Nat.or_assoc, ← e1, ← hs]
  rw [this, ← e3]
  omega
theorem Zl7 {d lo n v : Nat} (h : d / 2 ^ lo % 2 ^ n = 0) (hv : v < 2 ^ n) (hd : d ≤ 2047) (hln : lo + n ≤ 11) : d + 2 ^ lo * v ≤ 2047 := by
  have hs := Zgq h
  have hx := (Zj9 h hv).2
  have e : 2 ^ 11 = 2 ^ (lo + n) * 2 ^ (11 - (lo + n)) := by rw [← Nat.pow_add]; congr 1; omega
  have h1 : d / 2 ^ (lo + n) < 2 ^ (11 - (lo + n)) := by
    rw [Nat.div_lt_iff_lt_mul (Nat.two_pow_pos _), Nat.mul_comm, ← e]; omega
  have h2 : 2 ^ (lo + n) * (d / 2 ^ (lo + n) + 1) ≤ 2 ^ (lo + n) * 2 ^ (11 - (lo + n)) := Nat.mul_le_mul_left _ h1
  rw [← e, Nat.mul_add, Nat.mul_one] at h2
  omega
theorem Zl5 {d lo n v : Nat} (h : d / 2 ^ lo % 2 ^ n = 0) (hv : v < 2 ^ n) : (d + 2 ^ lo * v) / 2 ^ lo % 2 ^ n = v := by
  rw [Nat.add_mul_div_left _ _ (Nat.two_pow_pos _), Nat.add_mod, h, Nat.zero_add, Nat.mod_mod, Nat.mod_eq_of_lt hv]
theorem Zls {d lo n v lo' n' : Nat} (h : d / 2 ^ lo % 2 ^ n = 0) (hv : v < 2 ^ n) (hd : lo + n ≤ lo' ∨ lo' + n' ≤ lo) : (d + 2 ^ lo * v) / 2 ^ lo' % 2 ^ n' = d / 2 ^ lo' % 2 ^ n' := by
  rcases hd with hd | hd
  · have hs := Zgq h
    have hx := (Zj9 h hv).2
    have hl : d % 2 ^ lo < 2 ^ (lo + n) := by omega
    have e : 2 ^ lo' = 2 ^ (lo + n) * 2 ^ (lo' - (lo + n)) := by rw [← Nat.pow_add]; congr 1; omega
    have e1 : (d + 2 ^ lo * v) / 2 ^ (lo + n) = d / 2 ^ (lo + n) := by
      have : d + 2 ^ lo * v = (2 ^ lo * v + d % 2 ^ lo) + 2 ^ (lo + n) * (d / 2 ^ (lo + n)) := by omega
      rw [this, Nat.add_mul_div_left _ _ (Nat.two_pow_pos _), Nat.div_eq_of_lt hx, Nat.zero_add]
    rw [e, ← Nat.div_div_eq_div_mul, e1, Nat.div_div_eq_div_mul]
  · have e : 2 ^ lo * v = 2 ^ lo' * (2 ^ n' * (2 ^ (lo - lo' - n') * v)) := by
      rw [← Nat.mul_assoc, ← Nat.mul_assoc, ← Nat.pow_add, ← Nat.pow_add]; congr 2; omega
    rw [e, Nat.add_mul_div_left _ _ (Nat.two_pow_pos _), Nat.add_mul_mod_self_left]
def ZgO (l : Vector (List Int) 16) (q : api_Place) : List Int := l.toList.getD q.Frame.toNat []
def wr (l : Vector (List Int) 16) (w : api_Place × Nat) : Vector (List Int) 16 := ZU l w.1.Frame ((ZgO l w.1).set (w.1.Word - 3).toNat ((ZaU l w.1 + 2 ^ w.1.Low.toNat * w.2 : Nat) : Int))
theorem Zkn {l : Vector (List Int) 16} {q : api_Place} {v : Nat} (hq : placeR q) (k : Nat) : (wr l (q, v)).toList[k]? = if k = q.Frame.toNat then some ((ZgO l q).set (q.Word - 3).toNat ((ZaU l q + 2 ^ q.Low.toNat * v : Nat) : Int)) else l.toList[k]? := by
  obtain ⟨hf, _⟩ := hq
  have h16 : l.toList.length = 16 := by simp
  have e : (wr l (q, v)).toList = l.toList.set q.Frame.toNat ((ZgO l q).set (q.Word - 3).toNat ((ZaU l q + 2 ^ q.Low.toNat * v : Nat) : Int)) := by simp [wr, ZU]
  rw [e, List.getElem?_set]
  by_cases h : k = q.Frame.toNat
  · subst h; rw [if_pos rfl, if_pos (by omega), if_pos rfl]
  · rw [if_neg (fun hh => h hh.symm), if_neg h]
theorem ZfQ {l : Vector (List Int) 16} {q : api_Place} (hq : placeR q) : l.toList[q.Frame.toNat]? = some (ZgO l q) := by
  obtain ⟨hf, _⟩ := hq
  have h16 : l.toList.length = 16 := by simp
  obtain ⟨x, hx⟩ := Qm (xs := l.toList) (k := q.Frame.toNat) (by omega)
  unfold ZgO
  rw [List.getD_eq_getElem?_getD, hx]; rfl
theorem ZmN {l : Vector (List Int) 16} (hl : DatOK l) {q q' : api_Place} {v : Nat} (hq : placeR q) (hq' : placeR q') :
    ZaU (wr l (q, v)) q' = if q'.Frame = q.Frame ∧ q'.Word = q.Word then ZaU l q + 2 ^ q.Low.toNat * v else ZaU l q' := by
  obtain ⟨h58, _⟩ := hl _ (List.mem_of_getElem? (ZfQ (l := l) hq))
  have e0 : ZaU (wr l (q, v)) q' = ((((wr l (q, v)).toList[q'.Frame.toNat]?).getD []).getD (q'.Word - 3).toNat 0).toNat := by unfold ZaU; rw [List.getD_eq_getElem?_getD (l := (wr l (q, v)).toList)]
  have e00 : ZaU l q' = (((l.toList[q'.Frame.toNat]?).getD []).getD (q'.Word - 3).toNat 0).toNat := by unfold ZaU; rw [List.getD_eq_getElem?_getD (l := l.toList)]
  rw [e0, e00, Zkn hq]
  obtain ⟨a1, a2, _⟩ := hq
  obtain ⟨b1, b2, _⟩ := hq'
  by_cases hf : q'.Frame = q.Frame
  · have hf' : q'.Frame.toNat = q.Frame.toNat := by omega
    rw [if_pos hf']
    simp only [Option.getD_some]
    by_cases hw2 : q'.Word = q.Word
    · rw [if_pos ⟨hf, hw2⟩, hw2, List.getD_eq_getElem?_getD, List.getElem?_set_self (by omega)]
      simp
      exact Int.toNat_natCast _
    · have hw3 : (q'.Word - 3).toNat ≠ (q.Word - 3).toNat := by omega
      rw [if_neg (fun h => hw2 h.2), List.getD_eq_getElem?_getD, List.getElem?_set_ne (fun h => hw3 h.symm), ← List.getD_eq_getElem?_getD, hf']
      unfold ZgO
      rw [List.getD_eq_getElem?_getD (l := l.toList)]
  · have hf' : ¬ q'.Frame.toNat = q.Frame.toNat := by omega
    rw [if_neg hf', if_neg (fun h => hf h.1)]
def disj (a b : api_Place) : Prop := ∀ x, ZiK x a = true → ZiK x b = false
theorem Zo5 {l : Vector (List Int) 16} (hl : DatOK l) {q : api_Place} {v : Nat} (hq : placeR q) (h0 : chunk l q = 0) (hv : v < 2 ^ q.Bits.toNat) : DatOK (wr l (q, v)) ∧ chunk (wr l (q, v)) q = v ∧ ∀ q', placeR q' → disj q q' → chunk (wr l (q, v)) q' = chunk l q' := by
  have hm := ZfQ (l := l) hq
  obtain ⟨h58, hd⟩ := hl _ (List.mem_of_getElem? hm)
  have hdat : ZaU l q ≤ 2047 := by obtain ⟨_, _, _, h⟩ := ZnJ hl hq; exact h
  refine ⟨?_, ?_, ?_⟩
  · intro y hy
    obtain ⟨k, hk⟩ := List.getElem?_of_mem hy
    rw [Zkn hq] at hk
    split at hk
    · cases hk
      refine ⟨by simpa using h58, fun d hdm => ?_⟩
      rcases List.mem_or_eq_of_mem_set hdm with h | rfl
      · exact hd d h
      · have := Zl7 h0 hv hdat (by obtain ⟨_, _, h3, h4, h5⟩ := hq; omega)
        omega
    · exact hl y (List.mem_of_getElem? hk)
  · unfold chunk
    rw [ZmN hl hq hq, if_pos ⟨rfl, rfl⟩]
    exact Zl5 h0 hv
  · intro q' hq' hdis
    unfold chunk
    rw [ZmN hl hq hq']
    split
    · rename_i h
      have e : ZaU l q' = ZaU l q := by unfold ZaU; rw [h.1, h.2]
      rw [e]
      refine Zls h0 hv ?_
      obtain ⟨_, _, h3, h4, h5⟩ := hq
      obtain ⟨_, _, g3, g4, g5⟩ := hq'
      rcases Nat.lt_or_ge q'.Low.toNat (q.Low.toNat + q.Bits.toNat) with c1 | c1
      · rcases Nat.lt_or_ge q.Low.toNat (q'.Low.toNat + q'.Bits.toNat) with c2 | c2
        · exfalso
          by_cases hle : q.Low ≤ q'.Low
          · have := hdis ⟨q.Frame, q.Word, q'.Low⟩ (by simp [ZiK]; omega)
            simp [ZiK, h.1, h.2] at this
            omega
          · have := hdis ⟨q.Frame, q.Word, q.Low⟩ (by simp [ZiK]; omega)
            simp [ZiK, h.1, h.2] at this
            omega
        · exact .inr c2
      · exact .inl c1
    · rfl
end Go.Vx
