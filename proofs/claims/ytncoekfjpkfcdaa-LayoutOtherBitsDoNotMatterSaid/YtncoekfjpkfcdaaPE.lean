/- A text of the proof: a verified executor of the program form, or the contracts of the functions that the law reaches. -/
import Derived.Test.YtncoekfjpkfcdaaPD
import Derived.Test.YtncoekfjpkfcdaaFuL4
set_option linter.all false
namespace Go.Vx
open Go Go.RowKit
theorem neq_s {x : Int} (h : x ≠ 0) : (!decide (x = 0)) = true := by simp [h]
theorem decoded_s {p : api_Param} (h : ParOK p) {raw : Int} (r0 : 0 ≤ raw) (r1 : raw < 2 * HH p) : layout_decoded p raw = some (dec p raw) := by
  obtain ⟨n, h1, h2⟩ := numberOf_s h
  obtain ⟨y, h3, h4⟩ := h2.decode raw r0 r1
  unfold layout_decoded
  rw [h1, Option.bind_some, h3, Option.bind_some, ← h4]
  obtain ⟨y1, y2⟩ := y
  cases y2 <;> rfl
end Go.Vx

namespace Go.Vx
open Go Go.RowKit
def dcd : Nat → Nat → Nat
  | 0, _ => 0
  | n + 1, raw => raw % 16 + 10 * dcd n (raw / 16)
def okD : Nat → Nat → Prop
  | 0, _ => True
  | n + 1, raw => raw % 16 < 10 ∧ okD n (raw / 16)
theorem dcd_lt : ∀ n raw, okD n raw → dcd n raw < 10 ^ n
  | 0, _, _ => by simp [dcd]
  | n + 1, raw, h => by
    have := dcd_lt n _ h.2
    have h2 := h.1
    rw [dcd, p10_s]; omega
theorem bcd_dcd : ∀ n raw, okD n raw → raw < 16 ^ n → bcd n (dcd n raw) = raw
  | 0, raw, _, h => by simp at h; simp [bcd, h]
  | n + 1, raw, hok, h => by
    have ih := bcd_dcd n (raw / 16) hok.2 (by rw [Nat.pow_succ] at h; omega)
    have h1 := hok.1
    have e1 : dcd (n + 1) raw % 10 = raw % 16 := by rw [dcd]; omega
    have e2 : dcd (n + 1) raw / 10 = dcd n (raw / 16) := by rw [dcd]; omega
    rw [bcd, e1, e2, ih]; omega
theorem dig_nat (raw m : Nat) : dig (raw : Int) m = ((raw / 16 ^ m % 16 : Nat) : Int) := by
  have e : ((16 ^ m : Nat) : Int) = (2 : Int) ^ (4 * m) := by rw [p16]; push_cast; rfl
  have hp : 0 < 16 ^ m := Nat.pow_pos (by decide)
  rw [dig_s, ← e, Int.fdiv_eq_ediv_of_nonneg _ (by omega)]
  push_cast; rfl
theorem div16 (raw m : Nat) : raw / 16 / 16 ^ m = raw / 16 ^ (m + 1) := by
  rw [Nat.div_div_eq_div_mul, Nat.pow_succ, Nat.mul_comm]
theorem dcd_top : ∀ m raw, dcd (m + 1) raw = dcd m raw + 10 ^ m * (raw / 16 ^ m % 16)
  | 0, raw => by simp [dcd]
  | m + 1, raw => by
    have ih := dcd_top m (raw / 16)
    rw [dcd, ih, div16, dcd, p10_s, Nat.mul_add, Nat.add_assoc]
    congr 2
    rw [← Nat.mul_assoc, Nat.mul_comm 10]
theorem okD_top : ∀ m raw, okD (m + 1) raw ↔ okD m raw ∧ raw / 16 ^ m % 16 < 10
  | 0, raw => by simp [okD]
  | m + 1, raw => by
    have ih := okD_top m (raw / 16)
    rw [okD, ih, div16, okD, and_assoc]
theorem decL_nat (raw : Nat) : ∀ (m a : Nat), m ≤ 10 → a < 10 ^ (10 - m) →
    ((decL raw m a true).2 = true ↔ okD m raw) ∧ (okD m raw → (decL raw m a true).1 = ((a * 10 ^ m + dcd m raw : Nat) : Int))
  | 0, a, _, _ => by simp [decL, okD, dcd]
  | m + 1, a, hm, ha => by
    have hle : 10 ^ (10 - (m + 1)) ≤ 10 ^ 10 := Nat.pow_le_pow_right (by decide) (by omega)
    rw [t10] at hle
    have hp : 10 ^ (10 - m) = 10 ^ (10 - (m + 1)) * 10 := by rw [show 10 - m = (10 - (m + 1)) + 1 by omega, p10_s]
    have hd := Nat.mod_lt (raw / 16 ^ m) (show 0 < 16 by decide)
    rw [decL, dig_nat]
    by_cases h9 : raw / 16 ^ m % 16 < 10
    · have e : i64 (i64 ((a : Int) * 10) + ((raw / 16 ^ m % 16 : Nat) : Int)) = ((a * 10 + raw / 16 ^ m % 16 : Nat) : Int) := by
        rw [i64s (z := (a : Int) * 10) (by omega) (by omega), i64s (by omega) (by omega)]; push_cast; rfl
      have e2 : (true && decide (((raw / 16 ^ m % 16 : Nat) : Int) < 10)) = true := by
        rw [Bool.true_and, decide_eq_true_eq]; omega
      rw [e, e2]
      obtain ⟨g1, g2⟩ := decL_nat raw m (a * 10 + raw / 16 ^ m % 16) (by omega) (by rw [hp]; omega)
      refine ⟨by rw [g1, okD_top]; simp [h9], fun hok => ?_⟩
      rw [g2 ((okD_top m raw).1 hok).1, dcd_top, p10_s]
      congr 1
      rw [Nat.add_mul, Nat.mul_assoc, Nat.mul_comm 10 (10 ^ m), Nat.mul_comm (raw / 16 ^ m % 16)]
      omega
    · have e2 : (true && decide (((raw / 16 ^ m % 16 : Nat) : Int) < 10)) = false := by
        rw [Bool.true_and, decide_eq_false_iff_not]; omega
      rw [e2, decL_false]
      have hn : ¬ okD (m + 1) raw := fun h => h9 ((okD_top m raw).1 h).2
      exact ⟨by simp [hn], fun h => absurd h hn⟩
theorem dec4_s {p : api_Param} (h : ParOK p) (h4 : p.Kind = 4) {raw : Nat} (hr : (raw : Int) < 2 * HH p) : (okD (NN p) raw → dec p raw = (((dcd (NN p) raw : Nat) : Int), true)) ∧ (¬ okD (NN p) raw → dec p raw = (0, false)) := by
  obtain ⟨_, _, hN⟩ := NN_s h h4
  have e : dec p raw = clr (decL raw (NN p) 0 true) := by simp [dec, h4]
  obtain ⟨g1, g2⟩ := decL_nat raw (NN p) 0 hN (Nat.pow_pos (by decide))
  rw [Int.ofNat_zero] at g1 g2
  rw [e]
  unfold clr
  constructor
  · intro hok
    have := g2 hok
    rw [Nat.zero_mul, Nat.zero_add] at this
    rw [if_pos (g1.2 hok)]
    rw [← this]
  · intro hok
    rw [if_neg (fun hh => hok (g1.1 hh))]
theorem dec_range {p : api_Param} (h : ParOK p) {raw : Int} (r0 : 0 ≤ raw) (r1 : raw < 2 * HH p) : dec p raw = (0, false) ∨ ((dec p raw).2 = true ∧ (lims p).1 ≤ (dec p raw).1 ∧ (dec p raw).1 ≤ (lims p).2 ∧ enc p (dec p raw).1 = raw) := by
  obtain ⟨hH1, hH2, hH3⟩ := HH_bd h
  have hk := h.kind
  by_cases k2 : p.Kind = 2
  · have l1 : (lims p).1 = -HH p := by simp [lims, k2]
    have l2 : (lims p).2 = HH p - 1 := by simp [lims, k2]
    right
    rw [l1, l2]
    by_cases hr : HH p ≤ raw
    · have e : dec p raw = (raw - 2 * HH p, true) := by simp [dec, k2, hr]
      have hv : raw - 2 * HH p < 0 := by omega
      rw [e]
      refine ⟨rfl, by simp only; omega, by simp only; omega, ?_⟩
      simp [enc, k2, hv]; omega
    · have e : dec p raw = (raw, true) := by simp [dec, k2, hr]
      have hv : ¬ raw < 0 := by omega
      rw [e]
      exact ⟨rfl, by simp only; omega, by simp only; omega, by simp [enc, k2, hv]⟩
  by_cases k3 : p.Kind = 3
  · have l1 : (lims p).1 = 1 - HH p := by simp [lims, k3]
    have l2 : (lims p).2 = HH p - 1 := by simp [lims, k3]
    by_cases he : raw = HH p
    · left; simp [dec, k3, he]
    · right
      rw [l1, l2]
      by_cases hr : HH p < raw
      · have e : dec p raw = (HH p - raw, true) := by simp [dec, k3, he, hr]
        have hv : HH p - raw < 0 := by omega
        rw [e]
        refine ⟨rfl, by simp only; omega, by simp only; omega, ?_⟩
        simp [enc, k3, hv]; omega
      · have e : dec p raw = (raw, true) := by simp [dec, k3, he, hr]
        have hv : ¬ raw < 0 := by omega
        rw [e]
        exact ⟨rfl, by simp only; omega, by simp only; omega, by simp [enc, k3, hv]⟩
  by_cases k4 : p.Kind = 4
  · have l1 : (lims p).1 = 0 := by simp [lims, k4]
    have l2 : (lims p).2 = 10 ^ NN p - 1 := by simp [lims, k4]
    obtain ⟨r, hr⟩ : ∃ r : Nat, raw = r := ⟨raw.toNat, by omega⟩
    subst hr
    obtain ⟨d1, d2⟩ := dec4_s h k4 r1
    by_cases hok : okD (NN p) r
    · right
      rw [d1 hok, l1, l2]
      have hlt := dcd_lt (NN p) r hok
      have e10 : ((10 ^ NN p : Nat) : Int) = (10 : Int) ^ NN p := by push_cast; rfl
      have hr16 : r < 16 ^ NN p := by
        rw [HH4 h k4] at r1
        have : ((2 ^ (4 * NN p) : Nat) : Int) = (2 : Int) ^ (4 * NN p) := by push_cast; rfl
        rw [p16]; omega
      refine ⟨rfl, by simp only; omega, by simp only; omega, ?_⟩
      simp [enc, k4, bcd_dcd (NN p) r hok hr16]
    · left; exact d2 hok
  by_cases k6 : p.Kind = 6
  · have l1 : (lims p).1 = 0 := by simp [lims, k6]
    have l2 : (lims p).2 = (p.Names.length : Int) - 1 := by simp [lims, k6]
    by_cases hr : (p.Names.length : Int) ≤ raw
    · left; simp [dec, k6, hr]
    · right
      have e : dec p raw = (raw, true) := by simp [dec, k6, hr]
      rw [e, l1, l2]
      exact ⟨rfl, by simp only; omega, by simp only; omega, by simp [enc, k6]⟩
  right
  by_cases k5 : p.Kind = 5
  · have hb1 := h.k5 k5
    have hHv : HH p = 1 := by unfold HH; rw [hb1]; rfl
    have l1 : (lims p).1 = 0 := by simp [lims, k5]
    have l2 : (lims p).2 = 1 := by simp [lims, k5]
    have e : dec p raw = (raw, true) := by simp [dec, k5]
    rw [e, l1, l2]
    exact ⟨rfl, by simp only; omega, by simp only; omega, by simp [enc, k5]⟩
  have k1 : p.Kind = 1 := by omega
  have l1 : (lims p).1 = 0 := by simp [lims, k1]
  have l2 : (lims p).2 = 2 * HH p - 1 := by simp [lims, k1]
  have e : dec p raw = (raw, true) := by simp [dec, k1]
  rw [e, l1, l2]
  exact ⟨rfl, by simp only; omega, by simp only; omega, by simp [enc, k1]⟩
end Go.Vx
