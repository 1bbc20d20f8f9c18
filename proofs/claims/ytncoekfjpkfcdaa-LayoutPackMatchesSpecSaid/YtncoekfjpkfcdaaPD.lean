/- A text of the proof: a verified executor of the program form, or the contracts of the functions that the law reaches. -/
import Derived.Test.YtncoekfjpkfcdaaPC
set_option linter.all false
namespace Go.Vx
open Go Go.RowKit
theorem and_mask {v : Int} {n : Nat} (hn : n ≤ 61) : band .i64 v ((2 : Int) ^ n - 1) = v % (2 : Int) ^ n := by
  have hb := pow_le hn
  have e : ((2 : Int) ^ n - 1) = ((2 ^ n - 1 : Nat) : Int) := by
    have h1 : 1 ≤ 2 ^ n := Nat.one_le_two_pow
    have h2 : ((2 ^ n : Nat) : Int) = (2 : Int) ^ n := by push_cast; rfl
    omega
  have h2 : 2 ^ n ≤ 2 ^ 61 := Nat.pow_le_pow_right (by decide) hn
  have h2p : 0 < 2 ^ n := Nat.two_pow_pos n
  have e2 : (BitVec.ofInt 64 ((2 : Int) ^ n - 1)).toNat = 2 ^ n - 1 := by
    rw [e, BitVec.ofInt_natCast, BitVec.toNat_ofNat]
    exact Nat.mod_eq_of_lt (by have : (2 : Nat) ^ 61 < 2 ^ 64 := by decide
                               omega)
  have e3 : ((BitVec.ofInt 64 v).toNat : Int) = v % (2 : Int) ^ 64 := by
    rw [BitVec.toNat_ofInt]
    have : (0 : Int) ≤ v % ((2 ^ 64 : Nat) : Int) := Int.emod_nonneg _ (by decide)
    rw [Int.toNat_of_nonneg this]; rfl
  have e4 : ((BitVec.ofInt 64 v &&& BitVec.ofInt 64 ((2 : Int) ^ n - 1)).toNat : Int) = v % (2 : Int) ^ n := by
    rw [BitVec.toNat_and, e2, Nat.and_two_pow_sub_one_eq_mod]
    push_cast
    rw [e3]
    have : ((2 : Int) ^ n) ∣ (2 : Int) ^ 64 := ⟨(2 : Int) ^ (64 - n), by rw [← Int.pow_add]; congr 1; omega⟩
    exact Int.emod_emod_of_dvd v this
  have hp : (0 : Int) < (2 : Int) ^ n := by omega
  have b1 := Int.emod_nonneg v (show (2 : Int) ^ n ≠ 0 by omega)
  have b2 := Int.emod_lt_of_pos v hp
  unfold band
  have : IntKind.i64.bits = 64 := rfl
  rw [this, e4]
  exact i64s (by omega) (by omega)
theorem mask15 (v : Int) : band .i64 v 15 = v % 16 := and_mask (n := 4) (by decide)
theorem pow_s {b : Int} (h : 1 ≤ b) : (2 : Int) ^ b.toNat = 2 * (2 : Int) ^ (b - 1).toNat := by
  have : b.toNat = (b - 1).toNat + 1 := by omega
  rw [this, Int.pow_succ, Int.mul_comm]
def HH (p : api_Param) : Int := (2 : Int) ^ (bitsN p - 1).toNat
theorem HH_bd {p : api_Param} (h : ParOK p) : 1 ≤ HH p ∧ HH p ≤ 549755813888 ∧ (2 : Int) ^ (bitsN p).toNat = 2 * HH p := by
  have hb := h.bits
  have e : ((2 ^ (bitsN p - 1).toNat : Nat) : Int) = HH p := by unfold HH; push_cast; rfl
  have h1 : 1 ≤ 2 ^ (bitsN p - 1).toNat := Nat.one_le_two_pow
  have h2 : 2 ^ (bitsN p - 1).toNat ≤ 2 ^ 39 := Nat.pow_le_pow_right (by decide) (by omega)
  rw [show (2 : Nat) ^ 39 = 549755813888 by decide] at h2
  refine ⟨by omega, by omega, pow_s hb.1⟩
def NN (p : api_Param) : Nat := ((bitsN p).tdiv 4).toNat
theorem NN_s {p : api_Param} (h : ParOK p) (h4 : p.Kind = 4) : bitsN p = 4 * (NN p : Int) ∧ 1 ≤ NN p ∧ NN p ≤ 10 := by
  have hb := h.bits
  have hk := h.k4 h4
  have e1 : (bitsN p).tmod 4 = bitsN p % 4 := Int.tmod_eq_emod_of_nonneg (by omega)
  have e2 : (bitsN p).tdiv 4 = bitsN p / 4 := Int.tdiv_eq_ediv_of_nonneg (by omega)
  rw [e1] at hk
  unfold NN
  rw [e2]
  omega
def lims (p : api_Param) : Int × Int := if p.Kind = 1 then (0, 2 * HH p - 1) else if p.Kind = 5 then (0, 1) else if p.Kind = 6 then (0, (p.Names.length : Int) - 1) else if p.Kind = 2 then (-HH p, HH p - 1) else if p.Kind = 3 then (1 - HH p, HH p - 1) else (0, 10 ^ NN p - 1)
def bcd : Nat → Nat → Nat
  | 0, _ => 0
  | n + 1, v => v % 10 + 16 * bcd n (v / 10)
def enc (p : api_Param) (v : Int) : Int := if p.Kind = 2 then (if v < 0 then 2 * HH p + v else v) else if p.Kind = 3 then (if v < 0 then HH p - v else v) else if p.Kind = 4 then (bcd (NN p) v.toNat : Int) else v
def dig (raw : Int) (m : Nat) : Int := band .i64 (raw.fdiv (2 ^ (4 * m))) 15
def decL (raw : Int) : Nat → Int → Bool → Int × Bool
  | 0, v, ok => (v, ok)
  | m + 1, v, ok => decL raw m (i64 (i64 (v * 10) + dig raw m)) (ok && decide (dig raw m < 10))
def clr (x : Int × Bool) : Int × Bool := if x.2 = true then (x.1, true) else (0, false)
def dec (p : api_Param) (raw : Int) : Int × Bool := if p.Kind = 1 then (raw, true) else if p.Kind = 5 then (raw, true) else if p.Kind = 6 then (if (p.Names.length : Int) ≤ raw then (0, false) else (raw, true)) else if p.Kind = 2 then (if HH p ≤ raw then (raw - 2 * HH p, true) else (raw, true))
  else if p.Kind = 3 then (if raw = HH p then (0, false) else if HH p < raw then (HH p - raw, true) else (raw, true)) else clr (decL raw (NN p) 0 true)
theorem pow10_bd {n : Nat} (h : n ≤ 10) : (1 : Int) ≤ 10 ^ n ∧ (10 : Int) ^ n ≤ 10000000000 := by
  have e : ((10 ^ n : Nat) : Int) = (10 : Int) ^ n := by push_cast; rfl
  have h1 : 1 ≤ 10 ^ n := Nat.one_le_pow _ _ (by decide)
  have h2 : 10 ^ n ≤ 10 ^ 10 := Nat.pow_le_pow_right (by decide) h
  rw [show (10 : Nat) ^ 10 = 10000000000 by decide] at h2
  omega
theorem ten_loop {n : Nat} (hn : n ≤ 10) {body : Int → Int → Option ((Int × Int) ⊕ Int)} (hb : ∀ a i, body a i = if decide (i < (n : Int)) = true then some (.inl (i64 (a * 10), i64 (i + 1))) else some (.inr a)) :
    loop (t2 body) (1, 0) = some ((10 : Int) ^ n) := by
  have := loop_to (body := t2 body) (fun s => ∃ k : Nat, s.2 = k ∧ k ≤ n ∧ s.1 = 10 ^ k) (fun s => n - s.2.toNat) (fun _ => (10 : Int) ^ n) (by
    rintro ⟨a, i⟩ ⟨k, hi, hk, ha⟩
    simp only at hi ha
    subst hi ha
    simp only [t2_mk, hb]
    rcases Nat.lt_or_ge k n with h | h
    · left
      have h1 : ((k : Nat) : Int) < (n : Int) := by omega
      have hp := pow10_bd (n := k) (by omega)
      simp only [h1, decide_true, if_true]
      rw [i64s (by omega) (by omega), i64s (by omega) (by omega)]
      exact ⟨_, rfl, ⟨k + 1, by push_cast; rfl, h, by simp only; rw [Int.pow_succ]⟩, by simp only; omega, trivial⟩
    · have : k = n := by omega
      subst this
      right
      simp) (1, 0) ⟨0, rfl, Nat.zero_le _, rfl⟩
  exact this
theorem bcd_zero : ∀ n, bcd n 0 = 0
  | 0 => rfl
  | n + 1 => by simp [bcd, bcd_zero n]
theorem bcd_lt : ∀ n v, bcd n v < 16 ^ n
  | 0, _ => by simp [bcd]
  | n + 1, v => by
    have := bcd_lt n (v / 10)
    have h2 := Nat.mod_lt v (show 0 < 10 by decide)
    rw [bcd, Nat.pow_succ]; omega
theorem bor_s {a b n : Nat} (ha : a < 2 ^ n) (hb : a + 2 ^ n * b < 2 ^ 62) : bor .i64 (a : Int) ((2 ^ n * b : Nat) : Int) = ((a + 2 ^ n * b : Nat) : Int) := by
  unfold bor
  have e0 : IntKind.i64.bits = 64 := rfl
  have h64 : (2 : Nat) ^ 62 < 2 ^ 64 := by decide
  have e1 : (BitVec.ofInt 64 (a : Int)).toNat = a := by
    rw [BitVec.ofInt_natCast, BitVec.toNat_ofNat]; exact Nat.mod_eq_of_lt (by omega)
  have e2 : (BitVec.ofInt 64 ((2 ^ n * b : Nat) : Int)).toNat = 2 ^ n * b := by
    rw [BitVec.ofInt_natCast, BitVec.toNat_ofNat]; exact Nat.mod_eq_of_lt (by omega)
  rw [e0, BitVec.toNat_or, e1, e2, Nat.or_comm, ← Nat.two_pow_add_eq_or_of_lt ha, Nat.add_comm]
  have h62 : (2 : Nat) ^ 62 = 4611686018427387904 := by decide
  exact i64s (by omega) (by omega)
theorem p16 (k : Nat) : (16 : Nat) ^ k = 2 ^ (4 * k) := by rw [Nat.pow_mul]
theorem enc_step {v k : Nat} (hk : k ≤ 10) : rem (v : Int) 10 = some ((v % 10 : Nat) : Int) ∧ shl .i64 ((v % 10 : Nat) : Int) ((4 * k : Nat) : Int) = some ((2 ^ (4 * k) * (v % 10) : Nat) : Int) ∧ (v < 2 ^ 62 → quo .i64 (v : Int) 10 = some ((v / 10 : Nat) : Int)) := by
  refine ⟨?_, ?_, ?_⟩
  · simp only [rem]
    rw [if_neg (by decide)]
    rw [Int.tmod_eq_emod_of_nonneg (by omega)]; rfl
  · have h1 : v % 10 < 10 := Nat.mod_lt _ (by decide)
    have h2 : 2 ^ (4 * k) ≤ 2 ^ 40 := Nat.pow_le_pow_right (by decide) (by omega)
    have h3 : 2 ^ (4 * k) * (v % 10) ≤ 2 ^ 40 * 10 := Nat.mul_le_mul h2 (by omega)
    have h4 : (2 : Nat) ^ 40 * 10 = 10995116277760 := by decide
    have hm : min (((4 * k : Nat) : Int)).toNat IntKind.i64.bits = 4 * k := by
      have : IntKind.i64.bits = 64 := rfl
      rw [Int.toNat_natCast]; omega
    unfold shl
    rw [if_neg (by omega), hm]
    have e : (((v % 10 : Nat) : Int) * 2 ^ (4 * k)) = ((2 ^ (4 * k) * (v % 10) : Nat) : Int) := by push_cast; rw [Int.mul_comm]
    rw [e]
    congr 1
    exact i64s (by omega) (by omega)
  · intro hv
    have h62 : (2 : Nat) ^ 62 = 4611686018427387904 := by decide
    simp only [quo]
    rw [if_neg (by decide), Int.tdiv_eq_ediv_of_nonneg (by omega)]
    congr 1
    exact i64s (by omega) (by omega)
theorem enc_bd {raw k n v : Nat} (hr : raw < 2 ^ (4 * k)) (hkn : k + n ≤ 10) : raw + 2 ^ (4 * k) * bcd n v < 2 ^ 62 := by
  have h1 := bcd_lt n v
  rw [p16] at h1
  have h2 : 2 ^ (4 * k) * bcd n v ≤ 2 ^ (4 * k) * (2 ^ (4 * n) - 1) := Nat.mul_le_mul_left _ (by omega)
  have h3 : 2 ^ (4 * k) * (2 ^ (4 * n) - 1) = 2 ^ (4 * k + 4 * n) - 2 ^ (4 * k) := by rw [Nat.mul_sub, Nat.mul_one, Nat.pow_add]
  have h4 : 2 ^ (4 * k + 4 * n) ≤ 2 ^ 40 := Nat.pow_le_pow_right (by decide) (by omega)
  have h5 : (2 : Nat) ^ 40 < 2 ^ 62 := by decide
  have h6 : 2 ^ (4 * k) ≤ 2 ^ (4 * k + 4 * n) := Nat.pow_le_pow_right (by decide) (by omega)
  omega
theorem t10 : (10 : Nat) ^ 10 = 10000000000 := by decide
theorem t62 : (2 : Nat) ^ 62 = 4611686018427387904 := by decide
theorem lenc_a {k v : Nat} (hv : v < 10000000000) (hk : k ≤ 10) : quo .i64 (v : Int) 10 = some ((v / 10 : Nat) : Int) := by
  obtain ⟨e1, e2, e3⟩ := enc_step (v := v) (k := k) hk
  exact e3 (by rw [t62]; omega)
theorem lenc_b {k v raw : Nat} (hr : raw < 2 ^ (4 * k)) (hk : k + 1 ≤ 10) : raw + 2 ^ (4 * k) * (v % 10) < 2 ^ 62 := by
  have hb := enc_bd (v := v) (n := 1) hr hk
  simp only [bcd, Nat.mul_zero, Nat.add_zero] at hb
  exact hb
theorem lenc_step {n k v raw : Nat} (h0 : v ≠ 0) (hv : v < 10000000000) (hr : raw < 2 ^ (4 * k)) (hkn : k + (n + 1) ≤ 10) : layout_numberOf_8_1_L1 (v : Int) (raw : Int) ((4 * k : Nat) : Int) = some (.inl (((v / 10 : Nat) : Int), ((raw + 2 ^ (4 * k) * (v % 10) : Nat) : Int), ((4 * (k + 1) : Nat) : Int))) := by
  have hpos : decide ((0 : Int) < (v : Int)) = true := by rw [decide_eq_true_eq]; omega
  obtain ⟨e1, e2, _⟩ := enc_step (v := v) (k := k) (by omega)
  have e3 := lenc_a (k := k) hv (by omega)
  have hb := lenc_b (v := v) hr (by omega)
  have hb2 := bor_s hr hb
  have e4 : i64 (((4 * k : Nat) : Int) + 4) = ((4 * (k + 1) : Nat) : Int) := by rw [i64s (by omega) (by omega)]; push_cast; omega
  unfold layout_numberOf_8_1_L1
  rw [if_pos hpos, e1, Option.bind_some, e2, Option.bind_some, e3, Option.bind_some, hb2, e4]
theorem enc_next {k v raw : Nat} (hr : raw < 2 ^ (4 * k)) : raw + 2 ^ (4 * k) * (v % 10) < 2 ^ (4 * (k + 1)) := by
  have h1 : v % 10 < 10 := Nat.mod_lt _ (by decide)
  have h2 : 2 ^ (4 * (k + 1)) = 2 ^ (4 * k) * 16 := by rw [show 4 * (k + 1) = 4 * k + 4 by omega, Nat.pow_add]
  have h3 : 2 ^ (4 * k) * (v % 10) ≤ 2 ^ (4 * k) * 9 := Nat.mul_le_mul_left _ (by omega)
  omega
theorem enc_fin (n k v raw : Nat) : raw + 2 ^ (4 * k) * (v % 10) + 2 ^ (4 * (k + 1)) * bcd n (v / 10) = raw + 2 ^ (4 * k) * bcd (n + 1) v := by
  have h2 : 2 ^ (4 * (k + 1)) = 2 ^ (4 * k) * 16 := by rw [show 4 * (k + 1) = 4 * k + 4 by omega, Nat.pow_add]
  rw [h2, bcd, Nat.mul_add, ← Nat.mul_assoc, Nat.add_assoc]
theorem p10_s (n : Nat) : 10 ^ (n + 1) = 10 ^ n * 10 := Nat.pow_succ ..
theorem lenc_loop : ∀ (n k v raw : Nat), v < 10 ^ n → raw < 2 ^ (4 * k) → k + n ≤ 10 → loop (t3 layout_numberOf_8_1_L1) ((v : Int), (raw : Int), ((4 * k : Nat) : Int)) = some ((raw + 2 ^ (4 * k) * bcd n v : Nat) : Int) := by
  intro n
  induction n with
  | zero =>
    intro k v raw hv hr hkn
    have : v = 0 := by simpa using hv
    subst this
    rw [loop_eq]
    simp [layout_numberOf_8_1_L1, bcd]
  | succ n ih =>
    intro k v raw hv hr hkn
    by_cases h0 : v = 0
    · subst h0
      rw [loop_eq]
      simp [layout_numberOf_8_1_L1, bcd_zero]
    · have h10 : v < 10000000000 := Nat.lt_of_lt_of_le hv (Nat.le_trans (Nat.pow_le_pow_right (by decide) (by omega : n + 1 ≤ 10)) (Nat.le_of_eq t10))
      have hv2 : v / 10 < 10 ^ n := by
        rw [p10_s] at hv
        exact Nat.div_lt_of_lt_mul (by rw [Nat.mul_comm]; exact hv)
      rw [loop_eq, t3_mk, lenc_step (n := n) h0 h10 hr hkn]
      have := ih (k + 1) (v / 10) _ hv2 (enc_next (v := v) hr) (by omega)
      rw [enc_fin] at this
      exact this
theorem renc_loop (N : Nat) (hN : N ≤ 10) : ∀ (n k v raw : Nat), v < 2 ^ 62 → raw < 2 ^ (4 * k) → k + n = N → loop (t3 (ref2_encode_L1 ((4 * N : Nat) : Int))) ((v : Int), (raw : Int), ((4 * k : Nat) : Int)) = some ((raw + 2 ^ (4 * k) * bcd n v : Nat) : Int)
  | 0, k, v, raw, hv, hr, hkn => by
    have h1 : ¬ ((4 * k : Nat) : Int) < ((4 * N : Nat) : Int) := by omega
    rw [loop_eq]
    simp only [t3_mk, ref2_encode_L1, h1, decide_false, Bool.false_eq_true, if_false, bcd]
    simp
  | n + 1, k, v, raw, hv, hr, hkn => by
    rw [loop_eq]
    have h1 : ((4 * k : Nat) : Int) < ((4 * N : Nat) : Int) := by omega
    obtain ⟨e1, e2, e3⟩ := enc_step (v := v) (k := k) (by omega)
    have e3 := e3 hv
    have hb := enc_bd (v := v) (n := 1) hr (by omega)
    simp only [bcd, Nat.mul_zero, Nat.add_zero] at hb
    have h62 : (2 : Nat) ^ 62 = 4611686018427387904 := by decide
    have h2 : 2 ^ (4 * (k + 1)) = 2 ^ (4 * k) * 16 := by rw [show 4 * (k + 1) = 4 * k + 4 by omega, Nat.pow_add]
    have hr2 : raw + 2 ^ (4 * k) * (v % 10) < 2 ^ (4 * (k + 1)) := by
      have h1 : v % 10 < 10 := Nat.mod_lt _ (by decide)
      have h3 : 2 ^ (4 * k) * (v % 10) ≤ 2 ^ (4 * k) * 9 := Nat.mul_le_mul_left _ (by omega)
      omega
    simp only [t3_mk, ref2_encode_L1, h1, decide_true, if_true, e1, e2, e3, Option.bind_some]
    have e5 : i64 ((raw : Int) + ((2 ^ (4 * k) * (v % 10) : Nat) : Int)) = ((raw + 2 ^ (4 * k) * (v % 10) : Nat) : Int) := by rw [i64s (by omega) (by omega)]; push_cast; rfl
    have e4 : i64 (((4 * k : Nat) : Int) + 4) = ((4 * (k + 1) : Nat) : Int) := by rw [i64s (by omega) (by omega)]; push_cast; omega
    rw [e4, e5]
    show loop (t3 (ref2_encode_L1 ((4 * N : Nat) : Int))) (((v / 10 : Nat) : Int), ((raw + 2 ^ (4 * k) * (v % 10) : Nat) : Int), ((4 * (k + 1) : Nat) : Int)) = _
    rw [renc_loop N hN n (k + 1) (v / 10) _ (by omega) hr2 (by omega)]
    rw [h2, bcd, Nat.mul_add, ← Nat.mul_assoc, Nat.add_assoc]
end Go.Vx

namespace Go.Vx
open Go Go.RowKit
theorem shr_s {raw : Int} {m : Nat} (hm : m ≤ 15) : shr .i64 raw ((4 * m : Nat) : Int) = some (raw.fdiv (2 ^ (4 * m))) := by
  have e : min (((4 * m : Nat) : Int)).toNat IntKind.i64.bits = 4 * m := by
    have : IntKind.i64.bits = 64 := rfl
    rw [Int.toNat_natCast]; omega
  unfold shr
  rw [if_neg (by omega), e]
theorem ldec_loop (raw : Int) : ∀ (m : Nat) (v : Int) (ok : Bool), m ≤ 16 → loop (t3 (layout_decimal_L1 raw)) (v, ok, ((4 * m : Nat) : Int) - 4) = some (decL raw m v ok) := by
  intro m
  induction m with
  | zero =>
    intro v ok _
    rw [loop_eq]
    simp [layout_decimal_L1, decL]
  | succ m ih =>
    intro v ok hm
    have h1 : ((4 * (m + 1) : Nat) : Int) - 4 = ((4 * m : Nat) : Int) := by push_cast; omega
    have h2 : decide ((0 : Int) ≤ ((4 * m : Nat) : Int)) = true := by rw [decide_eq_true_eq]; omega
    have h3 : i64 (((4 * m : Nat) : Int) - 4) = ((4 * m : Nat) : Int) - 4 := i64s (by omega) (by omega)
    rw [h1, loop_eq, t3_mk]
    unfold layout_decimal_L1
    rw [if_pos h2, shr_s (by omega), Option.bind_some, h3]
    exact ih _ _ (by omega)
theorem ldec_s (raw : Int) : layout_decimal raw = some (decL raw 16 0 true) := by
  unfold layout_decimal
  have := ldec_loop raw 16 0 true (by omega)
  have e : ((4 * 16 : Nat) : Int) - 4 = 60 := by decide
  rw [e] at this
  rw [this]; generalize decL raw 16 0 true = x; rfl
theorem decL_false (raw : Int) : ∀ m v, (decL raw m v false).2 = false
  | 0, _ => rfl
  | m + 1, v => by simp only [decL, Bool.false_and]; exact decL_false raw m _
theorem dig_s (raw : Int) (m : Nat) : dig raw m = raw.fdiv (2 ^ (4 * m)) % 16 := by unfold dig; rw [mask15]
theorem dig_hi {raw : Int} {n m : Nat} (h0 : 0 ≤ raw) (h1 : raw < 2 ^ (4 * n)) (hm : n ≤ m) : dig raw m = 0 := by
  rw [dig_s]
  have hle : (2 : Nat) ^ (4 * n) ≤ 2 ^ (4 * m) := Nat.pow_le_pow_right (by decide) (by omega)
  have e1 : ((2 ^ (4 * n) : Nat) : Int) = (2 : Int) ^ (4 * n) := by push_cast; rfl
  have e2 : ((2 ^ (4 * m) : Nat) : Int) = (2 : Int) ^ (4 * m) := by push_cast; rfl
  have hlt : raw < (2 : Int) ^ (4 * m) := by omega
  rw [Int.fdiv_eq_ediv_of_nonneg _ (by omega), Int.ediv_eq_zero_of_lt h0 hlt]
  rfl
theorem decL_hi {raw : Int} {n : Nat} (h0 : 0 ≤ raw) (h1 : raw < 2 ^ (4 * n)) : ∀ d, decL raw (n + d) 0 true = decL raw n 0 true
  | 0 => rfl
  | d + 1 => by
    have e : n + (d + 1) = (n + d) + 1 := by omega
    rw [e, decL, dig_hi h0 h1 (by omega)]
    have : i64 (i64 (0 * 10) + 0) = 0 := by decide
    rw [this]
    simpa using decL_hi h0 h1 d
theorem quo4 {b : Int} (h : 1 ≤ b ∧ b ≤ 40) : quo .i64 b 4 = some (b.tdiv 4) := by
  simp only [quo]
  rw [if_neg (by decide)]
  congr 1
  rw [Int.tdiv_eq_ediv_of_nonneg (by omega)]
  exact i64s (by omega) (by omega)
structure NumOK (p : api_Param) (n : layout_number) : Prop where
  low : n.low = (lims p).1
  high : n.high = (lims p).2
  encode : ∀ v, (lims p).1 ≤ v → v ≤ (lims p).2 → n.encode.fn v = some (enc p v)
  decode : ∀ raw, 0 ≤ raw → raw < 2 * HH p → ∃ y, n.decode.fn raw = some y ∧ clr y = dec p raw
theorem enc_dec {p : api_Param} (h : ParOK p) (h4 : p.Kind = 4) {v : Int} (h0 : 0 ≤ v) (h1 : v ≤ 10 ^ NN p - 1) : v = (v.toNat : Int) ∧ v.toNat < 10 ^ NN p ∧ v.toNat < 2 ^ 62 := by
  obtain ⟨_, _, hN⟩ := NN_s h h4
  have e : ((10 ^ NN p : Nat) : Int) = (10 : Int) ^ NN p := by push_cast; rfl
  have hp := pow10_bd hN
  rw [t62]
  omega
theorem HH4 {p : api_Param} (h : ParOK p) (h4 : p.Kind = 4) : 2 * HH p = 2 ^ (4 * NN p) := by
  obtain ⟨e, _, _⟩ := NN_s h h4
  rw [← (HH_bd h).2.2, e]
  congr 1
theorem numberOf_s {p : api_Param} (h : ParOK p) : ∃ n, layout_numberOf p = some n ∧ NumOK p n := by
  obtain ⟨hH1, hH2, hH3⟩ := HH_bd h
  have hb := h.bits
  have hk := h.kind
  unfold layout_numberOf
  rw [bits_s h.len, Option.bind_some, i64s (by omega) (by omega), shl1 (by omega) (by omega), Option.bind_some]
  have eH : (2 : Int) ^ (bitsN p - 1).toNat = HH p := rfl
  rw [eH]
  by_cases k1 : p.Kind = 1
  · have e2 : i64 (i64 (2 * HH p) - 1) = 2 * HH p - 1 := by rw [i64s (z := 2 * HH p) (by omega) (by omega), i64s (by omega) (by omega)]
    rw [if_pos (by simpa using k1)]
    refine ⟨_, rfl, ?_, ?_, ?_, ?_⟩
    · simp [lims, k1]
    · simp only [lims, k1, if_true]; exact e2
    · intro v _ _; simp [enc, k1, layout_numberOf_1]
    · intro raw r0 r1
      refine ⟨_, rfl, ?_⟩
      rw [e2]
      have : raw ≤ 2 * HH p - 1 := by omega
      simp [clr, dec, k1, this]
  rw [if_neg (by simpa using k1)]
  by_cases k5 : p.Kind = 5
  · have hb1 := h.k5 k5
    have hHv : HH p = 1 := by unfold HH; rw [hb1]; rfl
    rw [if_pos (by simpa using k5)]
    refine ⟨_, rfl, ?_, ?_, ?_, ?_⟩
    · simp [lims, k5]
    · simp [lims, k5]
    · intro v _ _; simp [enc, k5, layout_numberOf_1]
    · intro raw r0 r1
      refine ⟨_, rfl, ?_⟩
      have : raw ≤ 1 := by omega
      simp [clr, dec, k5, this]
  rw [if_neg (by simpa using k5)]
  by_cases k6 : p.Kind = 6
  · obtain ⟨n1, n2, n3⟩ := h.k6 k6
    have e2 : i64 ((p.Names.length : Int) - 1) = (p.Names.length : Int) - 1 := i64s (by omega) (by omega)
    rw [if_pos (by simpa using k6)]
    refine ⟨_, rfl, ?_, ?_, ?_, ?_⟩
    · simp [lims, k6]
    · simp only [lims, k6]; exact e2
    · intro v _ _; simp [enc, k6, layout_numberOf_1]
    · intro raw r0 r1
      refine ⟨_, rfl, ?_⟩
      rw [e2]
      by_cases hr : (p.Names.length : Int) ≤ raw
      · have : ¬ raw ≤ (p.Names.length : Int) - 1 := by omega
        simp [clr, dec, k6, this, hr]
      · have : raw ≤ (p.Names.length : Int) - 1 := by omega
        simp [clr, dec, k6, this, hr]
  rw [if_neg (by simpa using k6)]
  by_cases k2 : p.Kind = 2
  · rw [if_pos (by simpa using k2)]
    refine ⟨_, rfl, ?_, ?_, ?_, ?_⟩
    · simp only [lims, k2]; exact i64s (by omega) (by omega)
    · simp only [lims, k2]; exact i64s (by omega) (by omega)
    · intro v v0 v1
      have l1 : (lims p).1 = -HH p := by simp [lims, k2]
      have l2 : (lims p).2 = HH p - 1 := by simp [lims, k2]
      rw [l1] at v0; rw [l2] at v1
      show some (band .i64 v (i64 (i64 (2 * HH p) - 1))) = _
      rw [i64s (z := 2 * HH p) (by omega) (by omega), i64s (z := 2 * HH p - 1) (by omega) (by omega), ← hH3, and_mask (by omega), hH3]
      congr 1
      by_cases hv : v < 0
      · have : v % (2 * HH p) = 2 * HH p + v := by
          rw [← Int.add_emod_left, Int.emod_eq_of_lt (by omega) (by omega)]
        simp [enc, k2, hv, this]
      · rw [Int.emod_eq_of_lt (by omega) (by omega)]
        simp [enc, k2, hv]
    · intro raw r0 r1
      show ∃ y, layout_numberOf_6_2 raw (HH p) = some y ∧ _
      unfold layout_numberOf_6_2
      by_cases hr : HH p ≤ raw
      · rw [if_pos (by simpa using hr)]
        refine ⟨_, rfl, ?_⟩
        rw [i64s (z := 2 * HH p) (by omega) (by omega), i64s (by omega) (by omega)]
        simp [clr, dec, k2, hr]
      · rw [if_neg (by simpa using hr)]
        exact ⟨_, rfl, by simp [clr, dec, k2, hr]⟩
  rw [if_neg (by simpa using k2)]
  by_cases k3 : p.Kind = 3
  · rw [if_pos (by simpa using k3)]
    refine ⟨_, rfl, ?_, ?_, ?_, ?_⟩
    · simp only [lims, k3]; exact i64s (by omega) (by omega)
    · simp only [lims, k3]; exact i64s (by omega) (by omega)
    · intro v v0 v1
      have l1 : (lims p).1 = 1 - HH p := by simp [lims, k3]
      have l2 : (lims p).2 = HH p - 1 := by simp [lims, k3]
      rw [l1] at v0; rw [l2] at v1
      show layout_numberOf_7_1 v (HH p) = _
      unfold layout_numberOf_7_1
      by_cases hv : v < 0
      · rw [if_pos (by simpa using hv), i64s (by omega) (by omega)]; simp [enc, k3, hv]
      · rw [if_neg (by simpa using hv)]; simp [enc, k3, hv]
    · intro raw r0 r1
      show ∃ y, layout_numberOf_7_2 raw (HH p) = some y ∧ _
      unfold layout_numberOf_7_2
      by_cases hr : HH p ≤ raw
      · rw [if_pos (by simpa using hr)]
        refine ⟨_, rfl, ?_⟩
        rw [i64s (by omega) (by omega)]
        by_cases he : raw = HH p
        · simp [clr, dec, k3, he]
        · have : HH p < raw := by omega
          simp [clr, dec, k3, he, this]
      · have h1 : ¬ raw = HH p := by omega
        have h2 : ¬ HH p < raw := by omega
        rw [if_neg (by simpa using hr)]
        exact ⟨_, rfl, by simp [clr, dec, k3, h1, h2]⟩
  rw [if_neg (by simpa using k3)]
  have k4 : p.Kind = 4 := by omega
  rw [if_pos (by simpa using k4)]
  obtain ⟨hN1, hN2, hN3⟩ := NN_s h k4
  have hNt : (bitsN p).tdiv 4 = (NN p : Int) := by
    rw [Int.tdiv_eq_ediv_of_nonneg (by omega)]; omega
  have hp10 := pow10_bd hN3
  unfold layout_numberOf_8
  rw [quo4 hb, hNt]
  have hL := ten_loop hN3 (body := layout_numberOf_8_L1 (NN p : Int)) (fun a i => rfl)
  simp only [Option.bind_some]
  rw [hL]
  refine ⟨_, rfl, ?_, ?_, ?_, ?_⟩
  · simp [lims, k4]
  · simp only [lims, k4]; exact i64s (by omega) (by omega)
  · intro v v0 v1
    have l1 : (lims p).1 = 0 := by simp [lims, k4]
    have l2 : (lims p).2 = 10 ^ NN p - 1 := by simp [lims, k4]
    rw [l1] at v0; rw [l2] at v1
    show layout_numberOf_8_1 v = _
    obtain ⟨ev, hv, _⟩ := enc_dec h k4 v0 v1
    have := lenc_loop (NN p) 0 v.toNat 0 hv (by simp) (by omega)
    unfold layout_numberOf_8_1
    rw [← ev] at this
    have this' : loop (t3 layout_numberOf_8_1_L1) (v, 0, 0) = _ := this
    rw [this']
    simp [enc, k4, t1]
  · intro raw r0 r1
    refine ⟨_, ldec_s raw, ?_⟩
    have hlt : raw < 2 ^ (4 * NN p) := by rw [← HH4 h k4]; exact r1
    have := decL_hi r0 hlt (16 - NN p)
    rw [show NN p + (16 - NN p) = 16 by omega] at this
    rw [this]
    simp [dec, k4]
theorem limits_s {p : api_Param} (h : ParOK p) : ref2_limits p = some (lims p) := by
  obtain ⟨hH1, hH2, hH3⟩ := HH_bd h
  have hb := h.bits
  have hk := h.kind
  have eH : shl .i64 1 (i64 (bitsN p - 1)) = some (HH p) := by rw [i64s (by omega) (by omega), shl1 (by omega) (by omega)]; rfl
  have eH2 : shl .i64 1 (bitsN p) = some (2 * HH p) := by rw [shl1 (by omega) (by omega), hH3]
  unfold ref2_limits
  rw [bits_eq, bits_s h.len, Option.bind_some, eH, eH2]
  have c1 : i64 (-HH p) = -HH p := i64s (by omega) (by omega)
  have c2 : i64 (HH p - 1) = HH p - 1 := i64s (by omega) (by omega)
  have c3 : i64 (-(HH p - 1)) = 1 - HH p := by rw [i64s (by omega) (by omega)]; omega
  have c4 : i64 (2 * HH p - 1) = 2 * HH p - 1 := i64s (by omega) (by omega)
  simp only [Option.bind_some, c1, c2, c3, c4]
  by_cases k2 : p.Kind = 2
  · simp [lims, k2]
  by_cases k3 : p.Kind = 3
  · simp [lims, k3]
  by_cases k4 : p.Kind = 4
  · obtain ⟨hN1, hN2, hN3⟩ := NN_s h k4
    have hNt : (bitsN p).tdiv 4 = (NN p : Int) := by
      rw [Int.tdiv_eq_ediv_of_nonneg (by omega)]; omega
    have hp10 := pow10_bd hN3
    have hL := ten_loop hN3 (body := ref2_power10_L1 (NN p : Int)) (fun a i => rfl)
    rw [if_neg (by simpa using k2), if_neg (by simpa using k3), if_pos (by simpa using k4), quo4 hb, Option.bind_some, hNt]
    unfold ref2_power10
    rw [hL]
    simp only [Option.bind_some, t1]
    rw [i64s (by omega) (by omega)]
    simp [lims, k4]
  by_cases k6 : p.Kind = 6
  · obtain ⟨n1, n2, n3⟩ := h.k6 k6
    rw [if_neg (by simpa using k2), if_neg (by simpa using k3), if_neg (by simpa using k4), if_pos (by simpa using k6), i64s (by omega) (by omega)]
    simp [lims, k6]
  rw [if_neg (by simpa using k2), if_neg (by simpa using k3), if_neg (by simpa using k4), if_neg (by simpa using k6)]
  by_cases k5 : p.Kind = 5
  · have hb1 := h.k5 k5
    have hHv : HH p = 1 := by unfold HH; rw [hb1]; rfl
    simp [lims, k5, hHv]
  · have k1 : p.Kind = 1 := by omega
    simp [lims, k1]
theorem rencode_s {p : api_Param} (h : ParOK p) {v : Int} (v0 : (lims p).1 ≤ v) (v1 : v ≤ (lims p).2) : ref2_encode p v = some (enc p v) := by
  obtain ⟨hH1, hH2, hH3⟩ := HH_bd h
  have hb := h.bits
  have hk := h.kind
  have eH : shl .i64 1 (i64 (bitsN p - 1)) = some (HH p) := by rw [i64s (by omega) (by omega), shl1 (by omega) (by omega)]; rfl
  have eH2 : shl .i64 1 (bitsN p) = some (2 * HH p) := by rw [shl1 (by omega) (by omega), hH3]
  unfold ref2_encode
  rw [bits_eq, bits_s h.len, Option.bind_some, eH, eH2]
  simp only [Option.bind_some]
  by_cases k2 : p.Kind = 2
  · have l1 : (lims p).1 = -HH p := by simp [lims, k2]
    have l2 : (lims p).2 = HH p - 1 := by simp [lims, k2]
    rw [l1] at v0; rw [l2] at v1
    rw [if_pos (by simpa using k2)]
    by_cases hv : v < 0
    · rw [if_pos (by simpa using hv), i64s (by omega) (by omega)]; simp [enc, k2, hv]
    · rw [if_neg (by simpa using hv)]; simp [enc, k2, hv]
  rw [if_neg (by simpa using k2)]
  by_cases k3 : p.Kind = 3
  · have l1 : (lims p).1 = 1 - HH p := by simp [lims, k3]
    have l2 : (lims p).2 = HH p - 1 := by simp [lims, k3]
    rw [l1] at v0; rw [l2] at v1
    rw [if_pos (by simpa using k3)]
    by_cases hv : v < 0
    · rw [if_pos (by simpa using hv), i64s (by omega) (by omega)]; simp [enc, k3, hv]
    · rw [if_neg (by simpa using hv)]; simp [enc, k3, hv]
  rw [if_neg (by simpa using k3)]
  by_cases k4 : p.Kind = 4
  · have l1 : (lims p).1 = 0 := by simp [lims, k4]
    have l2 : (lims p).2 = 10 ^ NN p - 1 := by simp [lims, k4]
    rw [l1] at v0; rw [l2] at v1
    obtain ⟨hN1, hN2, hN3⟩ := NN_s h k4
    obtain ⟨ev, hv, hv2⟩ := enc_dec h k4 v0 v1
    have := renc_loop (NN p) hN3 (NN p) 0 v.toNat 0 hv2 (by simp) (by omega)
    have eb : ((4 * NN p : Nat) : Int) = bitsN p := by rw [hN1]; push_cast; rfl
    rw [eb, ← ev] at this
    rw [if_pos (by simpa using k4)]
    have this' : loop (t3 (ref2_encode_L1 (bitsN p))) (v, 0, 0) = _ := this
    rw [this']
    simp [enc, k4, t1]
  rw [if_neg (by simpa using k4)]
  simp [enc, k2, k3, k4]
end Go.Vx
