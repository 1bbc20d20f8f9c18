/- A text of the proof: a verified executor of the program form, or the contracts of the functions that the law reaches. -/
import Derived.Test.YtncoekfjpkfcdaaPD
import Derived.Test.YtncoekfjpkfcdaaFuL4
set_option linter.all false
namespace Go.Vx
open Go Go.RowKit
theorem neq_s {x : Int} (h : x ≠ 0) : (!decide (x = 0)) = true := by simp [h]
theorem decoded_s {p : api_Param} (h : ParOK p) {raw : Int} (r0 : 0 ≤ raw) (r1 : raw < 2 * HH p) : layout_decoded p raw = some (dec p raw) := by
  obtain ⟨n, h1, h2⟩ := numberOf_s h
  obtain ⟨y, h3, h4⟩ := h2.decode raw r0 r1
  unfold layout_decoded
  rw [h1, Option.bind_some, h3, Option.bind_some, ← h4]
  obtain ⟨y1, y2⟩ := y
  cases y2 <;> rfl
end Go.Vx

namespace Go.Vx
open Go Go.RowKit
def dcd : Nat → Nat → Nat
  | 0, _ => 0
  | n + 1, raw => raw % 16 + 10 * dcd n (raw / 16)
def okD : Nat → Nat → Prop
  | 0, _ => True
  | n + 1, raw => raw % 16 < 10 ∧ okD n (raw / 16)
theorem dcd_bcd : ∀ n v, v < 10 ^ n → okD n (bcd n v) ∧ dcd n (bcd n v) = v
  | 0, v, h => by simp at h; simp [bcd, dcd, okD, h]
  | n + 1, v, h => by
    have hm := Nat.mod_lt v (show 0 < 10 by decide)
    obtain ⟨h1, h2⟩ := dcd_bcd n (v / 10) (by rw [p10_s] at h; omega)
    have e1 : bcd (n + 1) v % 16 = v % 10 := by rw [bcd]; omega
    have e2 : bcd (n + 1) v / 16 = bcd n (v / 10) := by rw [bcd]; omega
    refine ⟨⟨by omega, by rw [e2]; exact h1⟩, ?_⟩
    rw [dcd, e1, e2, h2]; omega
theorem dig_nat (raw m : Nat) : dig (raw : Int) m = ((raw / 16 ^ m % 16 : Nat) : Int) := by
  have e : ((16 ^ m : Nat) : Int) = (2 : Int) ^ (4 * m) := by rw [p16]; push_cast; rfl
  have hp : 0 < 16 ^ m := Nat.pow_pos (by decide)
  rw [dig_s, ← e, Int.fdiv_eq_ediv_of_nonneg _ (by omega)]
  push_cast; rfl
theorem div16 (raw m : Nat) : raw / 16 / 16 ^ m = raw / 16 ^ (m + 1) := by
  rw [Nat.div_div_eq_div_mul, Nat.pow_succ, Nat.mul_comm]
theorem dcd_top : ∀ m raw, dcd (m + 1) raw = dcd m raw + 10 ^ m * (raw / 16 ^ m % 16)
  | 0, raw => by simp [dcd]
  | m + 1, raw => by
    have ih := dcd_top m (raw / 16)
    rw [dcd, ih, div16, dcd, p10_s, Nat.mul_add, Nat.add_assoc]
    congr 2
    rw [← Nat.mul_assoc, Nat.mul_comm 10]
theorem okD_top : ∀ m raw, okD (m + 1) raw ↔ okD m raw ∧ raw / 16 ^ m % 16 < 10
  | 0, raw => by simp [okD]
  | m + 1, raw => by
    have ih := okD_top m (raw / 16)
    rw [okD, ih, div16, okD, and_assoc]
theorem decL_nat (raw : Nat) : ∀ (m a : Nat), m ≤ 10 → a < 10 ^ (10 - m) →
    ((decL raw m a true).2 = true ↔ okD m raw) ∧ (okD m raw → (decL raw m a true).1 = ((a * 10 ^ m + dcd m raw : Nat) : Int))
  | 0, a, _, _ => by simp [decL, okD, dcd]
  | m + 1, a, hm, ha => by
    have hle : 10 ^ (10 - (m + 1)) ≤ 10 ^ 10 := Nat.pow_le_pow_right (by decide) (by omega)
    rw [t10] at hle
    have hp : 10 ^ (10 - m) = 10 ^ (10 - (m + 1)) * 10 := by rw [show 10 - m = (10 - (m + 1)) + 1 by omega, p10_s]
    have hd := Nat.mod_lt (raw / 16 ^ m) (show 0 < 16 by decide)
    rw [decL, dig_nat]
    by_cases h9 : raw / 16 ^ m % 16 < 10
    · have e : i64 (i64 ((a : Int) * 10) + ((raw / 16 ^ m % 16 : Nat) : Int)) = ((a * 10 + raw / 16 ^ m % 16 : Nat) : Int) := by
        rw [i64s (z := (a : Int) * 10) (by omega) (by omega), i64s (by omega) (by omega)]; push_cast; rfl
      have e2 : (true && decide (((raw / 16 ^ m % 16 : Nat) : Int) < 10)) = true := by
        rw [Bool.true_and, decide_eq_true_eq]; omega
      rw [e, e2]
      obtain ⟨g1, g2⟩ := decL_nat raw m (a * 10 + raw / 16 ^ m % 16) (by omega) (by rw [hp]; omega)
      refine ⟨by rw [g1, okD_top]; simp [h9], fun hok => ?_⟩
      rw [g2 ((okD_top m raw).1 hok).1, dcd_top, p10_s]
      congr 1
      rw [Nat.add_mul, Nat.mul_assoc, Nat.mul_comm 10 (10 ^ m), Nat.mul_comm (raw / 16 ^ m % 16)]
      omega
    · have e2 : (true && decide (((raw / 16 ^ m % 16 : Nat) : Int) < 10)) = false := by
        rw [Bool.true_and, decide_eq_false_iff_not]; omega
      rw [e2, decL_false]
      have hn : ¬ okD (m + 1) raw := fun h => h9 ((okD_top m raw).1 h).2
      exact ⟨by simp [hn], fun h => absurd h hn⟩
theorem dec4_s {p : api_Param} (h : ParOK p) (h4 : p.Kind = 4) {raw : Nat} (hr : (raw : Int) < 2 * HH p) : (okD (NN p) raw → dec p raw = (((dcd (NN p) raw : Nat) : Int), true)) ∧ (¬ okD (NN p) raw → dec p raw = (0, false)) := by
  obtain ⟨_, _, hN⟩ := NN_s h h4
  have e : dec p raw = clr (decL raw (NN p) 0 true) := by simp [dec, h4]
  obtain ⟨g1, g2⟩ := decL_nat raw (NN p) 0 hN (Nat.pow_pos (by decide))
  rw [Int.ofNat_zero] at g1 g2
  rw [e]
  unfold clr
  constructor
  · intro hok
    have := g2 hok
    rw [Nat.zero_mul, Nat.zero_add] at this
    rw [if_pos (g1.2 hok)]
    rw [← this]
  · intro hok
    rw [if_neg (fun hh => hok (g1.1 hh))]
theorem enc_range {p : api_Param} (h : ParOK p) {v : Int} (v0 : (lims p).1 ≤ v) (v1 : v ≤ (lims p).2) : 0 ≤ enc p v ∧ enc p v < 2 * HH p ∧ dec p (enc p v) = (v, true) := by
  obtain ⟨hH1, hH2, hH3⟩ := HH_bd h
  have hk := h.kind
  by_cases k2 : p.Kind = 2
  · have l1 : (lims p).1 = -HH p := by simp [lims, k2]
    have l2 : (lims p).2 = HH p - 1 := by simp [lims, k2]
    rw [l1] at v0; rw [l2] at v1
    by_cases hv : v < 0
    · have e : enc p v = 2 * HH p + v := by simp [enc, k2, hv]
      rw [e]
      refine ⟨by omega, by omega, ?_⟩
      have h1 : HH p ≤ 2 * HH p + v := by omega
      have h2 : 2 * HH p + v - 2 * HH p = v := by omega
      simp [dec, k2, h1, h2]
    · have e : enc p v = v := by simp [enc, k2, hv]
      have h1 : ¬ HH p ≤ v := by omega
      rw [e]
      exact ⟨by omega, by omega, by simp [dec, k2, h1]⟩
  by_cases k3 : p.Kind = 3
  · have l1 : (lims p).1 = 1 - HH p := by simp [lims, k3]
    have l2 : (lims p).2 = HH p - 1 := by simp [lims, k3]
    rw [l1] at v0; rw [l2] at v1
    by_cases hv : v < 0
    · have e : enc p v = HH p - v := by simp [enc, k3, hv]
      rw [e]
      refine ⟨by omega, by omega, ?_⟩
      have h1 : ¬ HH p - v = HH p := by omega
      have h2 : HH p < HH p - v := by omega
      have h3 : HH p - (HH p - v) = v := by omega
      simp [dec, k3, h1, h2, h3]
    · have e : enc p v = v := by simp [enc, k3, hv]
      have h1 : ¬ v = HH p := by omega
      have h2 : ¬ HH p < v := by omega
      rw [e]
      exact ⟨by omega, by omega, by simp [dec, k3, h1, h2]⟩
  by_cases k4 : p.Kind = 4
  · have l1 : (lims p).1 = 0 := by simp [lims, k4]
    have l2 : (lims p).2 = 10 ^ NN p - 1 := by simp [lims, k4]
    rw [l1] at v0; rw [l2] at v1
    obtain ⟨ev, hv, _⟩ := enc_dec h k4 v0 v1
    have e : enc p v = (bcd (NN p) v.toNat : Nat) := by simp [enc, k4]
    have hb := bcd_lt (NN p) v.toNat
    rw [p16] at hb
    have hlt : ((bcd (NN p) v.toNat : Nat) : Int) < 2 * HH p := by
      rw [HH4 h k4]
      have : ((2 ^ (4 * NN p) : Nat) : Int) = (2 : Int) ^ (4 * NN p) := by push_cast; rfl
      omega
    obtain ⟨d1, d2⟩ := dcd_bcd (NN p) v.toNat hv
    rw [e]
    refine ⟨by omega, hlt, ?_⟩
    rw [(dec4_s h k4 hlt).1 d1, d2, ← ev]
  have e : enc p v = v := by simp [enc, k2, k3, k4]
  rw [e]
  by_cases k6 : p.Kind = 6
  · obtain ⟨n1, n2, n3⟩ := h.k6 k6
    have l1 : (lims p).1 = 0 := by simp [lims, k6]
    have l2 : (lims p).2 = (p.Names.length : Int) - 1 := by simp [lims, k6]
    rw [l1] at v0; rw [l2] at v1
    rw [hH3] at n3
    have h1 : ¬ (p.Names.length : Int) ≤ v := by omega
    exact ⟨by omega, by omega, by simp [dec, k6, h1]⟩
  by_cases k5 : p.Kind = 5
  · have hb1 := h.k5 k5
    have hHv : HH p = 1 := by unfold HH; rw [hb1]; rfl
    have l1 : (lims p).1 = 0 := by simp [lims, k5]
    have l2 : (lims p).2 = 1 := by simp [lims, k5]
    rw [l1] at v0; rw [l2] at v1
    exact ⟨by omega, by omega, by simp [dec, k5]⟩
  have k1 : p.Kind = 1 := by omega
  have l1 : (lims p).1 = 0 := by simp [lims, k1]
  have l2 : (lims p).2 = 2 * HH p - 1 := by simp [lims, k1]
  rw [l1] at v0; rw [l2] at v1
  exact ⟨by omega, by omega, by simp [dec, k1]⟩
end Go.Vx
